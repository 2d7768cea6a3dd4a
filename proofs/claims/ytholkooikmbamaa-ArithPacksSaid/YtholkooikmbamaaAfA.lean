/- The functions of the program in the abstract machine's words, printed by a program of ours; each is the program's by the kernel's reckoning.
   Conditions: none. -/
import Derived.Test.YtholkooikmbamaaAmZ
import Derived.Test.YtholkooikmbamaaProg
namespace Go.Proofs.Ytholkooikmbamaa.Af
open Go Go.RowKit Go.Proofs.Ytholkooikmbamaa.Am
theorem hm : Try.prog.follows .mixedOrders = true := by kernel_rfl
/-- diorama/dioramalaw13.ArithCosts -/
def dioramalaw13_ArithCosts : AF := ⟨61, [.tmp 4],
 .seq (
  .ops [D 4 (.mv (.const (.bool false)))]) (
 .seq (
  .ops [D 13 (.mv (T 0)),
   D 14 (.cvi .i64 (T 13)),
   D 15 (.bin .rem (T 14) (I 20001)),
   D 5 (.mv (T 15))]) (
 .seq (
  .ops [D 6 (.mv (I 0))]) (
 .cut [5, 6] (
  .seq (
   .ops [D 16 (.mv (T 1))]) (
  .cond (T 16) (
   .ops [D 6 (.mv (I 1))]) (
   .skip))) (
 .seq (
  .ops [D 17 (.call 10 []),
   D 7 (.mv (T 17))]) (
 .seq (
  .seq (
   .ops [D 18 (.mv (T 7)),
    D 19 (.nileq false 0 (T 18) (.const (.pointer none)))]) (
  .cond (T 19) (
   .seq (
    .ops [D 4 (.mv (.const (.bool false)))]) (
   .ret)) (
   .skip))) (
 .seq (
  .ops [D 8 (.mv (I 2048))]) (
 .trim [5, 7] (
  .seq (
   .ops [D 9 (.mv (I 0))]) (
  .block 0 (
   .loop [5, 6, 7, 8, 9] (
    .seq (
     .seq (
      .ops [D 20 (.mv (T 9)),
       D 21 (.mv (T 5)),
       D 22 (.bin .lss (T 20) (T 21))]) (
     .cond (T 22) (
      .skip) (
      .exit 0))) (
    .trim [5, 6, 7, 8, 9] (
     .block 1 (
      .trim [5, 6, 7, 9, 10, 11] (
       .ops [D 26 (.mv (T 7)),
        D 27 (.mv (T 8)),
        D 28 (.mv (T 6)),
        D 29 (.call 11 [(T 26), (T 27), (T 28)]),
        D 25 (.mv (T 29)),
        D 30 (.ext (T 25) 0),
        D 31 (.ext (T 25) 1),
        D 10 (.mv (T 30)),
        D 11 (.mv (T 31))]) (
      .seq (
       .seq (
        .ops [D 32 (.mv (T 11)),
         D 33 (.bin .neq (T 32) (I 0))]) (
       .cond (T 33) (
        .seq (
         .ops [D 4 (.mv (.const (.bool false)))]) (
        .ret)) (
        .skip))) (
      .ops [D 34 (.mv (T 10)),
       D 8 (.mv (T 34))])))) (
    .ops [D 23 (.mv (T 9)),
     D 24 (.bin .add (T 23) (I 1)),
     D 9 (.mv (T 24))])))))) (
 .seq (
  .ops [D 35 (.mv (T 7)),
   D 36 (.call 12 [(T 35)]),
   D 37 (.len (T 36)),
   D 12 (.mv (T 37))]) (
 .trim [4] (
  .ops [D 38 (.mv (T 12)),
   D 39 (.bin .geq (T 38) (I 4)),
   D 40 (.mv (T 39)),
   ⟨(some 41), some (40, true), .mv (T 12)⟩,
   ⟨(some 42), some (40, true), .mv (T 5)⟩,
   ⟨(some 43), some (40, true), .bin .quo (T 42) (I 8)⟩,
   ⟨(some 44), some (40, true), .bin .add (T 43) (I 8)⟩,
   ⟨(some 45), some (40, true), .bin .leq (T 41) (T 44)⟩,
   D 46 (.pick (T 40) (T 45) (.const (.bool false))),
   D 47 (.mv (T 46)),
   ⟨(some 48), some (47, true), .mv (T 5)⟩,
   ⟨(some 49), some (47, true), .bin .lss (T 48) (I 1000)⟩,
   ⟨(some 50), some (47, true), .mv (T 49)⟩,
   ⟨(some 51), some (50, false), .mv (T 12)⟩,
   ⟨(some 52), some (50, false), .mv (T 5)⟩,
   ⟨(some 53), some (50, false), .bin .quo (T 52) (I 40)⟩,
   ⟨(some 54), some (50, false), .bin .add (T 53) (I 40)⟩,
   ⟨(some 55), some (50, false), .bin .leq (T 51) (T 54)⟩,
   ⟨(some 56), some (47, true), .pick (T 50) (.const (.bool true)) (T 55)⟩,
   D 57 (.pick (T 47) (T 56) (.const (.bool false))),
   D 58 (.mv (T 57)),
   ⟨(some 59), some (58, true), .call 13 []⟩,
   D 60 (.pick (T 58) (T 59) (.const (.bool false))),
   D 4 (.mv (T 60))]) (
 .ret))))))))))⟩
theorem dioramalaw13_ArithCosts_ok : Ok Try.prog 3 dioramalaw13_ArithCosts := ⟨by kernel_rfl, by kernel_rfl⟩

/-- diorama/dioramalaw13.ArithWrites -/
def dioramalaw13_ArithWrites : AF := ⟨105, [.tmp 2],
 .seq (
  .ops [D 2 (.mv (.const (.bool false)))]) (
 .seq (
  .seq (
   .ops [D 14 (.mv (T 0)),
    D 15 (.len (T 14)),
    D 16 (.bin .gtr (T 15) (I 300))]) (
  .cond (T 16) (
   .seq (
    .ops [D 2 (.mv (.const (.bool true)))]) (
   .ret)) (
   .skip))) (
 .seq (
  .ops [D 17 (.call 10 []),
   D 3 (.mv (T 17))]) (
 .seq (
  .seq (
   .ops [D 18 (.mv (T 3)),
    D 19 (.nileq false 0 (T 18) (.const (.pointer none)))]) (
  .cond (T 19) (
   .seq (
    .ops [D 2 (.mv (.const (.bool false)))]) (
   .ret)) (
   .skip))) (
 .seq (
  .ops [D 20 (.call 14 []),
   D 4 (.mv (T 20))]) (
 .seq (
  .ops [D 21 (.call 15 []),
   D 5 (.mv (T 21))]) (
 .trim [3, 4] (
  .seq (
   .ops [D 6 (.mv (I 0))]) (
  .block 0 (
   .loop [0, 3, 4, 5, 6] (
    .seq (
     .seq (
      .ops [D 22 (.mv (T 6)),
       D 23 (.mv (T 0)),
       D 24 (.len (T 23)),
       D 25 (.bin .lss (T 22) (T 24))]) (
     .cond (T 25) (
      .skip) (
      .exit 0))) (
    .trim [0, 3, 4, 5, 6] (
     .block 1 (
      .trim [0, 3, 4, 5, 6, 7, 8, 9] (
       .ops [D 29 (.mv (T 5)),
        D 30 (.mv (T 0)),
        D 31 (.mv (T 6)),
        D 32 (.ia 4 (T 30) (T 31)),
        D 33 (.ldN 4 (T 32)),
        D 34 (.call 16 [(T 29), (T 33)]),
        D 28 (.mv (T 34)),
        D 35 (.ext (T 28) 0),
        D 36 (.ext (T 28) 1),
        D 37 (.ext (T 28) 2),
        D 7 (.mv (T 35)),
        D 8 (.mv (T 36)),
        D 9 (.mv (T 37))]) (
      .trim [0, 3, 4, 5, 6, 7, 8, 9, 10, 11] (
       .draw [⟨0, 0, 0, D 39 (.mv (T 3))⟩,
        ⟨1, 0, 0, D 40 (.mv (T 0))⟩,
        ⟨2, 0, 0, D 41 (.mv (T 6))⟩,
        ⟨3, 0, 6, D 42 (.ia 4 (T 40) (T 41))⟩,
        ⟨4, 1, 14, D 43 (.ldN 4 (T 42))⟩,
        ⟨5, 0, 0, D 44 (.mv (T 7))⟩,
        ⟨6, 4, 32, D 45 (.call 18 [(T 44)])⟩,
        ⟨7, 4, 127, D 46 (.call 17 [(T 39), (T 43), (T 45)])⟩,
        ⟨8, 0, 255, D 38 (.mv (T 46))⟩,
        ⟨9, 0, 511, D 47 (.ext (T 38) 0)⟩,
        ⟨10, 0, 511, D 48 (.ext (T 38) 1)⟩,
        ⟨11, 0, 1023, D 10 (.mv (T 47))⟩,
        ⟨12, 0, 4095, D 11 (.mv (T 48))⟩]) (
      .trim [0, 3, 4, 5, 6, 8, 9, 10, 11, 12, 13] (
       .ops [D 50 (.mv (T 4)),
        D 51 (.mv (T 0)),
        D 52 (.mv (T 6)),
        D 53 (.ia 4 (T 51) (T 52)),
        D 54 (.ldN 4 (T 53)),
        D 55 (.mv (T 7)),
        D 56 (.call 19 [(T 50), (T 54), (T 55)]),
        D 49 (.mv (T 56)),
        D 57 (.ext (T 49) 0),
        D 58 (.ext (T 49) 1),
        D 12 (.mv (T 57)),
        D 13 (.mv (T 58))]) (
      .trim [0, 3, 4, 5, 6, 8, 9, 12, 13] (
       .trim [0, 3, 4, 5, 6, 8, 9, 12, 13, 67] (
        .ops [D 59 (.mv (T 11)),
         D 60 (.mv (T 13)),
         D 61 (.bin .neq (T 59) (T 60)),
         D 62 (.mv (T 61)),
         ⟨(some 63), some (62, false), .mv (T 10)⟩,
         ⟨(some 64), some (62, false), .mv (T 12)⟩,
         ⟨(some 65), some (62, false), .call 20 [(T 63), (T 64)]⟩,
         ⟨(some 66), some (62, false), .un .not (T 65)⟩,
         D 67 (.pick (T 62) (.const (.bool true)) (T 66))]) (
       .cond (T 67) (
        .seq (
         .ops [D 2 (.mv (.const (.bool false)))]) (
        .ret)) (
        .skip))) (
      .cut [0, 3, 4, 5, 6] (
       .seq (
        .ops [D 68 (.mv (T 13)),
         D 69 (.bin .eql (T 68) (I 0))]) (
       .cond (T 69) (
        .ops [D 70 (.mv (T 5)),
         D 71 (.mv (T 0)),
         D 72 (.mv (T 6)),
         D 73 (.ia 4 (T 71) (T 72)),
         D 74 (.ldN 4 (T 73)),
         D 75 (.mv (T 8)),
         D 76 (.mv (T 9)),
         D 77 (.mv (T 12)),
         D 78 (.call 21 [(T 70), (T 74), (T 75), (T 76), (T 77)])]) (
        .skip))) (
      .trim [0, 3, 4, 5, 6, 89] (
       .ops [D 79 (.mv (T 6)),
        D 80 (.bin .rem (T 79) (I 50)),
        D 81 (.bin .eql (T 80) (I 0)),
        D 82 (.mv (T 81)),
        ⟨(some 83), some (82, true), .mv (T 3)⟩,
        ⟨(some 84), some (82, true), .call 12 [(T 83)]⟩,
        ⟨(some 85), some (82, true), .mv (T 4)⟩,
        ⟨(some 86), some (82, true), .call 23 [(T 85)]⟩,
        ⟨(some 87), some (82, true), .call 22 [(T 84), (T 86)]⟩,
        ⟨(some 88), some (82, true), .un .not (T 87)⟩,
        D 89 (.pick (T 82) (T 88) (.const (.bool false)))]) (
      .cond (T 89) (
       .seq (
        .ops [D 2 (.mv (.const (.bool false)))]) (
       .ret)) (
       .skip))))))))) (
    .ops [D 26 (.mv (T 6)),
     D 27 (.bin .add (T 26) (I 1)),
     D 6 (.mv (T 27))])))))) (
 .trim [2] (
  .ops [D 90 (.mv (T 3)),
   D 91 (.call 12 [(T 90)]),
   D 92 (.mv (T 4)),
   D 93 (.call 23 [(T 92)]),
   D 94 (.call 22 [(T 91), (T 93)]),
   D 95 (.mv (T 94)),
   ⟨(some 96), some (95, true), .mv (T 3)⟩,
   ⟨(some 97), some (95, true), .call 12 [(T 96)]⟩,
   ⟨(some 98), some (95, true), .mv (T 4)⟩,
   ⟨(some 99), some (95, true), .call 23 [(T 98)]⟩,
   ⟨(some 100), some (95, true), .call 22 [(T 97), (T 99)]⟩,
   D 101 (.pick (T 95) (T 100) (.const (.bool false))),
   D 102 (.mv (T 101)),
   ⟨(some 103), some (102, true), .call 13 []⟩,
   D 104 (.pick (T 102) (T 103) (.const (.bool false))),
   D 2 (.mv (T 104))]) (
 .ret))))))))⟩
theorem dioramalaw13_ArithWrites_ok : Ok Try.prog 4 dioramalaw13_ArithWrites := ⟨by kernel_rfl, by kernel_rfl⟩

/-- diorama/dioramalaw13.ArithStates -/
def dioramalaw13_ArithStates : AF := ⟨71, [.tmp 6],
 .seq (
  .ops [D 6 (.mv (.const (.bool false)))]) (
 .trim [0, 1, 2, 7, 8] (
  .ops [D 16 (.mv (T 0)),
   D 17 (.mv (T 1)),
   D 18 (.call 24 [(T 16), (T 17)]),
   D 15 (.mv (T 18)),
   D 19 (.ext (T 15) 0),
   D 20 (.ext (T 15) 1),
   D 7 (.mv (T 19)),
   D 8 (.mv (T 20))]) (
 .trim [2, 7, 8, 9, 10] (
  .ops [D 22 (.mv (T 0)),
   D 23 (.mv (T 1)),
   D 24 (.call 25 [(T 22), (T 23)]),
   D 21 (.mv (T 24)),
   D 25 (.ext (T 21) 0),
   D 26 (.ext (T 21) 1),
   D 9 (.mv (T 25)),
   D 10 (.mv (T 26))]) (
 .trim [2] (
  .trim [2, 43] (
   .ops [D 27 (.mv (T 7)),
    D 28 (.mv (T 9)),
    D 29 (.bin .neq (T 27) (T 28)),
    D 30 (.mv (T 29)),
    ⟨(some 31), some (30, false), .mv (T 8)⟩,
    ⟨(some 32), some (30, false), .mv (T 10)⟩,
    ⟨(some 33), some (30, false), .bin .neq (T 31) (T 32)⟩,
    D 34 (.pick (T 30) (.const (.bool true)) (T 33)),
    D 35 (.mv (T 34)),
    ⟨(some 36), some (35, false), .mv (T 8)⟩,
    ⟨(some 37), some (35, false), .bin .eql (T 36) (I 0)⟩,
    ⟨(some 38), some (35, false), .mv (T 37)⟩,
    ⟨(some 39), some (38, true), .mv (T 7)⟩,
    ⟨(some 40), some (38, true), .call 26 [(T 39)]⟩,
    ⟨(some 41), some (38, true), .un .not (T 40)⟩,
    ⟨(some 42), some (35, false), .pick (T 38) (T 41) (.const (.bool false))⟩,
    D 43 (.pick (T 35) (.const (.bool true)) (T 42))]) (
  .cond (T 43) (
   .seq (
    .ops [D 6 (.mv (.const (.bool false)))]) (
   .ret)) (
   .skip))) (
 .cut [2] (
  .trim [2, 49] (
   .ops [D 44 (.mv (T 2)),
    D 45 (.bin .gtr (T 44) (I 2000)),
    D 46 (.mv (T 45)),
    ⟨(some 47), some (46, true), .mv (T 2)⟩,
    ⟨(some 48), some (46, true), .bin .leq (T 47) (I 100000)⟩,
    D 49 (.pick (T 46) (T 48) (.const (.bool false)))]) (
  .cond (T 49) (
   .ops [D 2 (.mv (I 2000))]) (
   .skip))) (
 .trim [2, 11, 12] (
  .ops [D 51 (.mv (T 2)),
   D 52 (.call 27 [(T 51)]),
   D 50 (.mv (T 52)),
   D 53 (.ext (T 50) 0),
   D 54 (.ext (T 50) 1),
   D 11 (.mv (T 53)),
   D 12 (.mv (T 54))]) (
 .trim [11, 12, 13, 14] (
  .ops [D 56 (.mv (T 2)),
   D 57 (.call 28 [(T 56)]),
   D 55 (.mv (T 57)),
   D 58 (.ext (T 55) 0),
   D 59 (.ext (T 55) 1),
   D 13 (.mv (T 58)),
   D 14 (.mv (T 59))]) (
 .trim [6] (
  .ops [D 60 (.mv (T 11)),
   D 61 (.mv (T 13)),
   D 62 (.call 20 [(T 60), (T 61)]),
   D 63 (.mv (T 62)),
   ⟨(some 64), some (63, true), .mv (T 12)⟩,
   ⟨(some 65), some (63, true), .mv (T 14)⟩,
   ⟨(some 66), some (63, true), .bin .eql (T 64) (T 65)⟩,
   D 67 (.pick (T 63) (T 66) (.const (.bool false))),
   D 68 (.mv (T 67)),
   ⟨(some 69), some (68, true), .call 13 []⟩,
   D 70 (.pick (T 68) (T 69) (.const (.bool false))),
   D 6 (.mv (T 70))]) (
 .ret))))))))⟩
theorem dioramalaw13_ArithStates_ok : Ok Try.prog 5 dioramalaw13_ArithStates := ⟨by kernel_rfl, by kernel_rfl⟩

/-- diorama/dioramalaw13.ArithReads -/
def dioramalaw13_ArithReads : AF := ⟨135, [.tmp 4],
 .seq (
  .ops [D 4 (.mv (.const (.bool false)))]) (
 .trim [0, 1] (
  .trim [0, 1, 27] (
   .ops [D 20 (.mv (T 0)),
    D 21 (.len (T 20)),
    D 22 (.bin .gtr (T 21) (I 4000)),
    D 23 (.mv (T 22)),
    ⟨(some 24), some (23, false), .mv (T 1)⟩,
    ⟨(some 25), some (23, false), .len (T 24)⟩,
    ⟨(some 26), some (23, false), .bin .gtr (T 25) (I 300)⟩,
    D 27 (.pick (T 23) (.const (.bool true)) (T 26))]) (
  .cond (T 27) (
   .seq (
    .ops [D 4 (.mv (.const (.bool true)))]) (
   .ret)) (
   .skip))) (
 .trim [0, 1, 5, 6] (
  .ops [D 29 (.mv (T 0)),
   D 30 (.call 29 [(T 29)]),
   D 28 (.mv (T 30)),
   D 31 (.ext (T 28) 0),
   D 32 (.ext (T 28) 1),
   D 5 (.mv (T 31)),
   D 6 (.mv (T 32))]) (
 .trim [1, 5, 6, 7, 8] (
  .ops [D 34 (.mv (T 0)),
   D 35 (.call 30 [(T 34)]),
   D 33 (.mv (T 35)),
   D 36 (.ext (T 33) 0),
   D 37 (.ext (T 33) 1),
   D 7 (.mv (T 36)),
   D 8 (.mv (T 37))]) (
 .trim [1, 5, 6, 7] (
  .trim [1, 5, 6, 7, 47] (
   .ops [D 38 (.mv (T 6)),
    D 39 (.mv (T 8)),
    D 40 (.bin .neq (T 38) (T 39)),
    D 41 (.mv (T 40)),
    ⟨(some 42), some (41, false), .mv (T 5)⟩,
    ⟨(some 43), some (41, false), .nileq false 0 (T 42) (.const (.pointer none))⟩,
    ⟨(some 44), some (41, false), .mv (T 6)⟩,
    ⟨(some 45), some (41, false), .bin .neq (T 44) (I 0)⟩,
    ⟨(some 46), some (41, false), .beq true (T 43) (T 45)⟩,
    D 47 (.pick (T 41) (.const (.bool true)) (T 46))]) (
  .cond (T 47) (
   .seq (
    .ops [D 4 (.mv (.const (.bool false)))]) (
   .ret)) (
   .skip))) (
 .seq (
  .seq (
   .ops [D 48 (.mv (T 6)),
    D 49 (.bin .neq (T 48) (I 0))]) (
  .cond (T 49) (
   .seq (
    .ops [D 50 (.call 13 []),
     D 4 (.mv (T 50))]) (
   .ret)) (
   .skip))) (
 .seq (
  .ops [D 51 (.call 15 []),
   D 9 (.mv (T 51))]) (
 .trim [5, 7] (
  .seq (
   .ops [D 10 (.mv (I 0))]) (
  .block 0 (
   .loop [1, 5, 7, 9, 10] (
    .seq (
     .seq (
      .ops [D 52 (.mv (T 10)),
       D 53 (.mv (T 1)),
       D 54 (.len (T 53)),
       D 55 (.bin .lss (T 52) (T 54))]) (
     .cond (T 55) (
      .skip) (
      .exit 0))) (
    .trim [1, 5, 7, 9, 10] (
     .block 1 (
      .trim [1, 5, 7, 9, 10, 11, 12, 13] (
       .ops [D 59 (.mv (T 9)),
        D 60 (.mv (T 1)),
        D 61 (.mv (T 10)),
        D 62 (.ia 4 (T 60) (T 61)),
        D 63 (.ldN 4 (T 62)),
        D 64 (.call 16 [(T 59), (T 63)]),
        D 58 (.mv (T 64)),
        D 65 (.ext (T 58) 0),
        D 66 (.ext (T 58) 1),
        D 67 (.ext (T 58) 2),
        D 11 (.mv (T 65)),
        D 12 (.mv (T 66)),
        D 13 (.mv (T 67))]) (
      .trim [1, 5, 7, 9, 10, 11, 12, 13, 14, 15, 16] (
       .draw [⟨0, 0, 0, D 69 (.mv (T 5))⟩,
        ⟨1, 0, 0, D 70 (.mv (T 1))⟩,
        ⟨2, 0, 0, D 71 (.mv (T 10))⟩,
        ⟨3, 0, 6, D 72 (.ia 4 (T 70) (T 71))⟩,
        ⟨4, 1, 14, D 73 (.ldN 4 (T 72))⟩,
        ⟨5, 0, 0, D 74 (.mv (T 11))⟩,
        ⟨6, 4, 32, D 75 (.call 18 [(T 74)])⟩,
        ⟨7, 4, 127, D 76 (.call 31 [(T 69), (T 73), (T 75)])⟩,
        ⟨8, 0, 255, D 68 (.mv (T 76))⟩,
        ⟨9, 0, 511, D 77 (.ext (T 68) 0)⟩,
        ⟨10, 0, 511, D 78 (.ext (T 68) 1)⟩,
        ⟨11, 0, 511, D 79 (.ext (T 68) 2)⟩,
        ⟨12, 0, 1023, D 14 (.mv (T 77))⟩,
        ⟨13, 0, 6143, D 15 (.mv (T 78))⟩,
        ⟨14, 0, 16383, D 16 (.mv (T 79))⟩]) (
      .trim [1, 5, 7, 9, 10, 12, 13, 14, 15, 16, 17, 18, 19] (
       .ops [D 81 (.mv (T 7)),
        D 82 (.mv (T 1)),
        D 83 (.mv (T 10)),
        D 84 (.ia 4 (T 82) (T 83)),
        D 85 (.ldN 4 (T 84)),
        D 86 (.mv (T 11)),
        D 87 (.call 32 [(T 81), (T 85), (T 86)]),
        D 80 (.mv (T 87)),
        D 88 (.ext (T 80) 0),
        D 89 (.ext (T 80) 1),
        D 90 (.ext (T 80) 2),
        D 17 (.mv (T 88)),
        D 18 (.mv (T 89)),
        D 19 (.mv (T 90))]) (
      .trim [1, 5, 7, 9, 10, 12, 13, 18, 19] (
       .trim [1, 5, 7, 9, 10, 12, 13, 18, 19, 113] (
        .draw [⟨0, 0, 0, D 91 (.mv (T 14))⟩,
         ⟨1, 0, 0, D 92 (.mv (T 17))⟩,
         ⟨2, 0, 3, D 93 (.bin .neq (T 91) (T 92))⟩,
         ⟨3, 0, 7, D 94 (.mv (T 93))⟩,
         ⟨4, 0, 15, ⟨(some 95), some (94, false), .mv (T 16)⟩⟩,
         ⟨5, 0, 15, ⟨(some 96), some (94, false), .mv (T 19)⟩⟩,
         ⟨6, 0, 63, ⟨(some 97), some (94, false), .bin .neq (T 95) (T 96)⟩⟩,
         ⟨7, 0, 127, D 98 (.pick (T 94) (.const (.bool true)) (T 97))⟩,
         ⟨8, 0, 255, D 99 (.mv (T 98))⟩,
         ⟨9, 0, 511, ⟨(some 100), some (99, false), .mv (T 15)⟩⟩,
         ⟨10, 0, 511, ⟨(some 101), some (99, false), .mv (T 18)⟩⟩,
         ⟨11, 4, 2047, ⟨(some 102), some (99, false), .call 20 [(T 100), (T 101)]⟩⟩,
         ⟨12, 0, 4095, ⟨(some 103), some (99, false), .un .not (T 102)⟩⟩,
         ⟨13, 0, 8191, D 104 (.pick (T 99) (.const (.bool true)) (T 103))⟩,
         ⟨14, 0, 16383, D 105 (.mv (T 104))⟩,
         ⟨15, 0, 32767, ⟨(some 106), some (105, false), .mv (T 5)⟩⟩,
         ⟨17, 0, 32767, ⟨(some 108), some (105, false), .mv (T 7)⟩⟩,
         ⟨18, 0, 163839, ⟨(some 109), some (105, false), .nil (T 108)⟩⟩,
         ⟨19, 0, 425983, ⟨(some 110), some (105, false), .fa 2 (T 109)⟩⟩,
         ⟨20, 1, 950271, ⟨(some 111), some (105, false), .ld1 (T 110)⟩⟩,
         ⟨16, 4, 65535, ⟨(some 107), some (105, false), .call 33 [(T 106)]⟩⟩,
         ⟨21, 0, 2097151, ⟨(some 112), some (105, false), .bin .neq (T 107) (T 111)⟩⟩,
         ⟨22, 0, 4194303, D 113 (.pick (T 105) (.const (.bool true)) (T 112))⟩]) (
       .cond (T 113) (
        .seq (
         .ops [D 4 (.mv (.const (.bool false)))]) (
        .ret)) (
        .skip))) (
      .seq (
       .ops [D 114 (.mv (T 19)),
        D 115 (.bin .eql (T 114) (I 0))]) (
      .cond (T 115) (
       .ops [D 116 (.mv (T 9)),
        D 117 (.mv (T 1)),
        D 118 (.mv (T 10)),
        D 119 (.ia 4 (T 117) (T 118)),
        D 120 (.ldN 4 (T 119)),
        D 121 (.mv (T 12)),
        D 122 (.mv (T 13)),
        D 123 (.mv (T 18)),
        D 124 (.call 21 [(T 116), (T 120), (T 121), (T 122), (T 123)])]) (
       .skip)))))))) (
    .ops [D 56 (.mv (T 10)),
     D 57 (.bin .add (T 56) (I 1)),
     D 10 (.mv (T 57))])))))) (
 .trim [4] (
  .draw [⟨0, 0, 0, D 125 (.mv (T 5))⟩,
   ⟨2, 0, 0, D 127 (.mv (T 7))⟩,
   ⟨3, 0, 4, D 128 (.nil (T 127))⟩,
   ⟨4, 0, 12, D 129 (.fa 2 (T 128))⟩,
   ⟨5, 1, 28, D 130 (.ld1 (T 129))⟩,
   ⟨1, 4, 1, D 126 (.call 33 [(T 125)])⟩,
   ⟨6, 0, 63, D 131 (.bin .eql (T 126) (T 130))⟩,
   ⟨7, 0, 127, D 132 (.mv (T 131))⟩,
   ⟨8, 4, 255, ⟨(some 133), some (132, true), .call 13 []⟩⟩,
   ⟨9, 0, 511, D 134 (.pick (T 132) (T 133) (.const (.bool false)))⟩,
   ⟨10, 0, 1023, D 4 (.mv (T 134))⟩]) (
 .ret)))))))))⟩
theorem dioramalaw13_ArithReads_ok : Ok Try.prog 6 dioramalaw13_ArithReads := ⟨by kernel_rfl, by kernel_rfl⟩

/-- diorama/dioramalaw13.ArithPacks -/
def dioramalaw13_ArithPacks : AF := ⟨90, [.tmp 6],
 .seq (
  .ops [D 6 (.mv (.const (.bool false)))]) (
 .trim [0, 1, 2] (
  .trim [0, 1, 2, 29] (
   .ops [D 17 (.mv (T 0)),
    D 18 (.len (T 17)),
    D 19 (.bin .gtr (T 18) (I 4000)),
    D 20 (.mv (T 19)),
    ⟨(some 21), some (20, false), .mv (T 1)⟩,
    ⟨(some 22), some (20, false), .len (T 21)⟩,
    ⟨(some 23), some (20, false), .bin .gtr (T 22) (I 4000)⟩,
    D 24 (.pick (T 20) (.const (.bool true)) (T 23)),
    D 25 (.mv (T 24)),
    ⟨(some 26), some (25, false), .mv (T 2)⟩,
    ⟨(some 27), some (25, false), .len (T 26)⟩,
    ⟨(some 28), some (25, false), .bin .gtr (T 27) (I 4000)⟩,
    D 29 (.pick (T 25) (.const (.bool true)) (T 28))]) (
  .cond (T 29) (
   .seq (
    .ops [D 6 (.mv (.const (.bool true)))]) (
   .ret)) (
   .skip))) (
 .trim [0, 1, 2, 7, 8] (
  .ops [D 31 (.mv (T 0)),
   D 32 (.mv (T 1)),
   D 33 (.call 34 [(T 31), (T 32)]),
   D 30 (.mv (T 33)),
   D 34 (.ext (T 30) 0),
   D 35 (.ext (T 30) 1),
   D 7 (.mv (T 34)),
   D 8 (.mv (T 35))]) (
 .trim [0, 1, 2, 7, 8, 9, 10] (
  .ops [D 37 (.mv (T 0)),
   D 38 (.mv (T 1)),
   D 39 (.call 35 [(T 37), (T 38)]),
   D 36 (.mv (T 39)),
   D 40 (.ext (T 36) 0),
   D 41 (.ext (T 36) 1),
   D 9 (.mv (T 40)),
   D 10 (.mv (T 41))]) (
 .trim [0, 1, 2, 7, 8] (
  .trim [0, 1, 2, 7, 8, 50] (
   .ops [D 42 (.mv (T 8)),
    D 43 (.mv (T 10)),
    D 44 (.bin .neq (T 42) (T 43)),
    D 45 (.mv (T 44)),
    ⟨(some 46), some (45, false), .mv (T 7)⟩,
    ⟨(some 47), some (45, false), .mv (T 9)⟩,
    ⟨(some 48), some (45, false), .call 22 [(T 46), (T 47)]⟩,
    ⟨(some 49), some (45, false), .un .not (T 48)⟩,
    D 50 (.pick (T 45) (.const (.bool true)) (T 49))]) (
  .cond (T 50) (
   .seq (
    .ops [D 6 (.mv (.const (.bool false)))]) (
   .ret)) (
   .skip))) (
 .trim [1, 2] (
  .seq (
   .ops [D 51 (.mv (T 8)),
    D 52 (.bin .eql (T 51) (I 0))]) (
  .cond (T 52) (
   .trim [0, 1, 2, 11, 12] (
    .ops [D 54 (.mv (T 7)),
     D 55 (.mv (T 1)),
     D 56 (.call 36 [(T 54), (T 55)]),
     D 53 (.mv (T 56)),
     D 57 (.ext (T 53) 0),
     D 58 (.ext (T 53) 1),
     D 11 (.mv (T 57)),
     D 12 (.mv (T 58))]) (
   .trim [1, 2, 66] (
    .ops [D 59 (.mv (T 12)),
     D 60 (.bin .neq (T 59) (I 0)),
     D 61 (.mv (T 60)),
     ⟨(some 62), some (61, false), .mv (T 11)⟩,
     ⟨(some 63), some (61, false), .mv (T 0)⟩,
     ⟨(some 64), some (61, false), .call 20 [(T 62), (T 63)]⟩,
     ⟨(some 65), some (61, false), .un .not (T 64)⟩,
     D 66 (.pick (T 61) (.const (.bool true)) (T 65))]) (
   .cond (T 66) (
    .seq (
     .ops [D 6 (.mv (.const (.bool false)))]) (
    .ret)) (
    .skip)))) (
   .skip))) (
 .trim [1, 2, 13, 14] (
  .ops [D 68 (.mv (T 2)),
   D 69 (.mv (T 1)),
   D 70 (.call 36 [(T 68), (T 69)]),
   D 67 (.mv (T 70)),
   D 71 (.ext (T 67) 0),
   D 72 (.ext (T 67) 1),
   D 13 (.mv (T 71)),
   D 14 (.mv (T 72))]) (
 .trim [13, 14, 15, 16] (
  .ops [D 74 (.mv (T 2)),
   D 75 (.mv (T 1)),
   D 76 (.call 37 [(T 74), (T 75)]),
   D 73 (.mv (T 76)),
   D 77 (.ext (T 73) 0),
   D 78 (.ext (T 73) 1),
   D 15 (.mv (T 77)),
   D 16 (.mv (T 78))]) (
 .trim [6] (
  .ops [D 79 (.mv (T 14)),
   D 80 (.mv (T 16)),
   D 81 (.bin .eql (T 79) (T 80)),
   D 82 (.mv (T 81)),
   ⟨(some 83), some (82, true), .mv (T 13)⟩,
   ⟨(some 84), some (82, true), .mv (T 15)⟩,
   ⟨(some 85), some (82, true), .call 20 [(T 83), (T 84)]⟩,
   D 86 (.pick (T 82) (T 85) (.const (.bool false))),
   D 87 (.mv (T 86)),
   ⟨(some 88), some (87, true), .call 13 []⟩,
   D 89 (.pick (T 87) (T 88) (.const (.bool false))),
   D 6 (.mv (T 89))]) (
 .ret)))))))))⟩
theorem dioramalaw13_ArithPacks_ok : Ok Try.prog 7 dioramalaw13_ArithPacks := ⟨by kernel_rfl, by kernel_rfl⟩

/-- diorama/dioramalaw13.ArithNil -/
def dioramalaw13_ArithNil : AF := ⟨141, [.tmp 2],
 .seq (
  .ops [D 1 (.box (T 0)),
   D 2 (.mv (.const (.bool false)))]) (
 .seq (
  .ops [D 3 (.mv (.const (.pointer none)))]) (
 .seq (
  .ops [D 4 (.mv (.const (.pointer none)))]) (
 .trim [1, 3, 4, 5, 6] (
  .ops [D 21 (.mv (T 3)),
   D 22 (.fa 2 (T 1)),
   D 23 (.ld1 (T 22)),
   D 24 (.call 11 [(T 21), (I 2048), (T 23)]),
   D 20 (.mv (T 24)),
   D 25 (.ext (T 20) 0),
   D 26 (.ext (T 20) 1),
   D 5 (.mv (T 25)),
   D 6 (.mv (T 26))]) (
 .trim [1, 3, 4, 5, 6, 7, 8] (
  .ops [D 28 (.mv (T 3)),
   D 29 (.fa 3 (T 1)),
   D 30 (.ld1 (T 29)),
   D 31 (.fa 2 (T 1)),
   D 32 (.ld1 (T 31)),
   D 33 (.call 38 [(T 28), (T 30), (T 32)]),
   D 27 (.mv (T 33)),
   D 34 (.ext (T 27) 0),
   D 35 (.ext (T 27) 1),
   D 7 (.mv (T 34)),
   D 8 (.mv (T 35))]) (
 .trim [1, 3, 4, 5, 6, 7, 8, 9, 10] (
  .ops [D 37 (.mv (T 3)),
   D 38 (.fa 3 (T 1)),
   D 39 (.ld1 (T 38)),
   D 40 (.fa 2 (T 1)),
   D 41 (.ld1 (T 40)),
   D 42 (.call 39 [(T 37), (T 39), (T 41)]),
   D 36 (.mv (T 42)),
   D 43 (.ext (T 36) 0),
   D 44 (.ext (T 36) 1),
   D 9 (.mv (T 43)),
   D 10 (.mv (T 44))]) (
 .trim [1, 4] (
  .trim [1, 4, 74] (
   .ops [D 45 (.mv (T 5)),
    D 46 (.bin .neq (T 45) (I 0)),
    D 47 (.mv (T 46)),
    ⟨(some 48), some (47, false), .mv (T 7)⟩,
    ⟨(some 49), some (47, false), .len (T 48)⟩,
    ⟨(some 50), some (47, false), .bin .neq (T 49) (I 0)⟩,
    D 51 (.pick (T 47) (.const (.bool true)) (T 50)),
    D 52 (.mv (T 51)),
    ⟨(some 53), some (52, false), .mv (T 9)⟩,
    ⟨(some 54), some (52, false), .len (T 53)⟩,
    ⟨(some 55), some (52, false), .bin .neq (T 54) (I 0)⟩,
    D 56 (.pick (T 52) (.const (.bool true)) (T 55)),
    D 57 (.mv (T 56)),
    ⟨(some 58), some (57, false), .mv (T 6)⟩,
    ⟨(some 59), some (57, false), .bin .neq (T 58) (I 4)⟩,
    D 60 (.pick (T 57) (.const (.bool true)) (T 59)),
    D 61 (.mv (T 60)),
    ⟨(some 62), some (61, false), .mv (T 8)⟩,
    ⟨(some 63), some (61, false), .bin .neq (T 62) (I 4)⟩,
    D 64 (.pick (T 61) (.const (.bool true)) (T 63)),
    D 65 (.mv (T 64)),
    ⟨(some 66), some (65, false), .mv (T 10)⟩,
    ⟨(some 67), some (65, false), .bin .neq (T 66) (I 4)⟩,
    D 68 (.pick (T 65) (.const (.bool true)) (T 67)),
    D 69 (.mv (T 68)),
    ⟨(some 70), some (69, false), .mv (T 3)⟩,
    ⟨(some 71), some (69, false), .call 12 [(T 70)]⟩,
    ⟨(some 72), some (69, false), .len (T 71)⟩,
    ⟨(some 73), some (69, false), .bin .neq (T 72) (I 0)⟩,
    D 74 (.pick (T 69) (.const (.bool true)) (T 73))]) (
  .cond (T 74) (
   .seq (
    .ops [D 2 (.mv (.const (.bool false)))]) (
   .ret)) (
   .skip))) (
 .trim [1, 4, 11, 12, 13] (
  .ops [D 76 (.mv (T 4)),
   D 77 (.call 40 [(T 76), (I 2048)]),
   D 75 (.mv (T 77)),
   D 78 (.ext (T 75) 0),
   D 79 (.ext (T 75) 1),
   D 80 (.ext (T 75) 2),
   D 11 (.mv (T 78)),
   D 12 (.mv (T 79)),
   D 13 (.mv (T 80))]) (
 .trim [1, 4, 11, 12, 13, 14, 15, 16] (
  .ops [D 82 (.mv (T 4)),
   D 83 (.fa 3 (T 1)),
   D 84 (.ld1 (T 83)),
   D 85 (.call 41 [(T 82), (T 84)]),
   D 81 (.mv (T 85)),
   D 86 (.ext (T 81) 0),
   D 87 (.ext (T 81) 1),
   D 88 (.ext (T 81) 2),
   D 14 (.mv (T 86)),
   D 15 (.mv (T 87)),
   D 16 (.mv (T 88))]) (
 .trim [4, 11, 12, 13, 14, 15, 16, 17, 18, 19] (
  .ops [D 90 (.mv (T 4)),
   D 91 (.fa 3 (T 1)),
   D 92 (.ld1 (T 91)),
   D 93 (.call 42 [(T 90), (T 92)]),
   D 89 (.mv (T 93)),
   D 94 (.ext (T 89) 0),
   D 95 (.ext (T 89) 1),
   D 96 (.ext (T 89) 2),
   D 17 (.mv (T 94)),
   D 18 (.mv (T 95)),
   D 19 (.mv (T 96))]) (
 .trim [2] (
  .ops [D 97 (.mv (T 11)),
   D 98 (.bin .eql (T 97) (I 0)),
   D 99 (.mv (T 98)),
   ⟨(some 100), some (99, true), .mv (T 12)⟩,
   ⟨(some 101), some (99, true), .bin .eql (T 100) (I 0)⟩,
   D 102 (.pick (T 99) (T 101) (.const (.bool false))),
   D 103 (.mv (T 102)),
   ⟨(some 104), some (103, true), .mv (T 14)⟩,
   ⟨(some 105), some (103, true), .bin .eql (T 104) (I 0)⟩,
   D 106 (.pick (T 103) (T 105) (.const (.bool false))),
   D 107 (.mv (T 106)),
   ⟨(some 108), some (107, true), .mv (T 17)⟩,
   ⟨(some 109), some (107, true), .bin .eql (T 108) (I 0)⟩,
   D 110 (.pick (T 107) (T 109) (.const (.bool false))),
   D 111 (.mv (T 110)),
   ⟨(some 112), some (111, true), .mv (T 15)⟩,
   ⟨(some 113), some (111, true), .len (T 112)⟩,
   ⟨(some 114), some (111, true), .bin .eql (T 113) (I 0)⟩,
   D 115 (.pick (T 111) (T 114) (.const (.bool false))),
   D 116 (.mv (T 115)),
   ⟨(some 117), some (116, true), .mv (T 18)⟩,
   ⟨(some 118), some (116, true), .len (T 117)⟩,
   ⟨(some 119), some (116, true), .bin .eql (T 118) (I 0)⟩,
   D 120 (.pick (T 116) (T 119) (.const (.bool false))),
   D 121 (.mv (T 120)),
   ⟨(some 122), some (121, true), .mv (T 13)⟩,
   ⟨(some 123), some (121, true), .bin .eql (T 122) (I 4)⟩,
   D 124 (.pick (T 121) (T 123) (.const (.bool false))),
   D 125 (.mv (T 124)),
   ⟨(some 126), some (125, true), .mv (T 16)⟩,
   ⟨(some 127), some (125, true), .bin .eql (T 126) (I 4)⟩,
   D 128 (.pick (T 125) (T 127) (.const (.bool false))),
   D 129 (.mv (T 128)),
   ⟨(some 130), some (129, true), .mv (T 19)⟩,
   ⟨(some 131), some (129, true), .bin .eql (T 130) (I 4)⟩,
   D 132 (.pick (T 129) (T 131) (.const (.bool false))),
   D 133 (.mv (T 132)),
   ⟨(some 134), some (133, true), .mv (T 4)⟩,
   ⟨(some 135), some (133, true), .call 33 [(T 134)]⟩,
   ⟨(some 136), some (133, true), .bin .eql (T 135) (I 0)⟩,
   D 137 (.pick (T 133) (T 136) (.const (.bool false))),
   D 138 (.mv (T 137)),
   ⟨(some 139), some (138, true), .call 13 []⟩,
   D 140 (.pick (T 138) (T 139) (.const (.bool false))),
   D 2 (.mv (T 140))]) (
 .ret)))))))))))⟩
theorem dioramalaw13_ArithNil_ok : Ok Try.prog 8 dioramalaw13_ArithNil := ⟨by kernel_rfl, by kernel_rfl⟩

/-- diorama/dioramalaw13.ArithBack -/
def dioramalaw13_ArithBack : AF := ⟨181, [.tmp 4],
 .seq (
  .ops [D 4 (.mv (.const (.bool false)))]) (
 .trim [0, 1] (
  .trim [0, 1, 33] (
   .ops [D 26 (.mv (T 0)),
    D 27 (.len (T 26)),
    D 28 (.bin .gtr (T 27) (I 300)),
    D 29 (.mv (T 28)),
    ⟨(some 30), some (29, false), .mv (T 1)⟩,
    ⟨(some 31), some (29, false), .len (T 30)⟩,
    ⟨(some 32), some (29, false), .bin .gtr (T 31) (I 400)⟩,
    D 33 (.pick (T 29) (.const (.bool true)) (T 32))]) (
  .cond (T 33) (
   .seq (
    .ops [D 4 (.mv (.const (.bool true)))]) (
   .ret)) (
   .skip))) (
 .seq (
  .ops [D 34 (.call 10 []),
   D 5 (.mv (T 34))]) (
 .seq (
  .seq (
   .ops [D 35 (.mv (T 5)),
    D 36 (.nileq false 0 (T 35) (.const (.pointer none)))]) (
  .cond (T 36) (
   .seq (
    .ops [D 4 (.mv (.const (.bool false)))]) (
   .ret)) (
   .skip))) (
 .seq (
  .ops [D 6 (.mv (.const (.slice none 0 0)))]) (
 .seq (
  .ops [D 7 (.mv (.const (.slice none 0 0)))]) (
 .seq (
  .ops [D 37 (.call 15 []),
   D 8 (.mv (T 37))]) (
 .trim [1, 5, 6, 7] (
  .seq (
   .ops [D 9 (.mv (I 0))]) (
  .block 0 (
   .loop [0, 1, 5, 6, 7, 8, 9] (
    .seq (
     .seq (
      .ops [D 38 (.mv (T 9)),
       D 39 (.mv (T 0)),
       D 40 (.len (T 39)),
       D 41 (.bin .lss (T 38) (T 40))]) (
     .cond (T 41) (
      .skip) (
      .exit 0))) (
    .trim [0, 1, 5, 6, 7, 8, 9] (
     .block 1 (
      .trim [0, 1, 5, 6, 7, 8, 9, 10, 11, 12] (
       .ops [D 45 (.mv (T 8)),
        D 46 (.mv (T 0)),
        D 47 (.mv (T 9)),
        D 48 (.ia 4 (T 46) (T 47)),
        D 49 (.ldN 4 (T 48)),
        D 50 (.call 16 [(T 45), (T 49)]),
        D 44 (.mv (T 50)),
        D 51 (.ext (T 44) 0),
        D 52 (.ext (T 44) 1),
        D 53 (.ext (T 44) 2),
        D 10 (.mv (T 51)),
        D 11 (.mv (T 52)),
        D 12 (.mv (T 53))]) (
      .trim [0, 1, 5, 6, 7, 8, 9, 11, 12, 13, 14] (
       .ops [D 55 (.mv (T 5)),
        D 56 (.mv (T 0)),
        D 57 (.mv (T 9)),
        D 58 (.ia 4 (T 56) (T 57)),
        D 59 (.ldN 4 (T 58)),
        D 60 (.mv (T 10)),
        D 61 (.call 17 [(T 55), (T 59), (T 60)]),
        D 54 (.mv (T 61)),
        D 62 (.ext (T 54) 0),
        D 63 (.ext (T 54) 1),
        D 13 (.mv (T 62)),
        D 14 (.mv (T 63))]) (
      .seq (
       .ops [D 64 (.mv (T 14)),
        D 65 (.bin .eql (T 64) (I 0))]) (
      .cond (T 65) (
       .trim [0, 1, 5, 6, 7, 8, 9, 11, 12, 13] (
        .trim [0, 1, 5, 6, 7, 8, 9, 11, 12, 13, 76] (
         .ops [D 66 (.mv (T 0)),
          D 67 (.mv (T 9)),
          D 68 (.ia 4 (T 66) (T 67)),
          D 69 (.fa 0 (T 68)),
          D 70 (.ld1 (T 69)),
          D 71 (.bin .neq (T 70) (I 0)),
          D 72 (.mv (T 71)),
          ⟨(some 73), some (72, true), .mv (T 13)⟩,
          ⟨(some 74), some (72, true), .len (T 73)⟩,
          ⟨(some 75), some (72, true), .bin .neq (T 74) (I 32)⟩,
          D 76 (.pick (T 72) (T 75) (.const (.bool false)))]) (
        .cond (T 76) (
         .seq (
          .ops [D 4 (.mv (.const (.bool false)))]) (
         .ret)) (
         .skip))) (
       .trim [0, 1, 5, 6, 7, 8, 9, 13] (
        .draw [⟨0, 0, 0, D 77 (.mv (T 8))⟩,
         ⟨1, 0, 0, D 78 (.mv (T 0))⟩,
         ⟨2, 0, 0, D 79 (.mv (T 9))⟩,
         ⟨3, 0, 6, D 80 (.ia 4 (T 78) (T 79))⟩,
         ⟨4, 1, 14, D 81 (.ldN 4 (T 80))⟩,
         ⟨5, 0, 0, D 82 (.mv (T 11))⟩,
         ⟨6, 0, 0, D 83 (.mv (T 12))⟩,
         ⟨7, 0, 0, D 84 (.mv (T 13))⟩,
         ⟨8, 4, 128, D 85 (.call 18 [(T 84)])⟩,
         ⟨9, 4, 511, D 86 (.call 21 [(T 77), (T 81), (T 82), (T 83), (T 85)])⟩]) (
       .trim [0, 1, 5, 6, 7, 8, 9, 13] (
        .ops [D 87 (.mv (T 6)),
         D 88 (.mv (T 0)),
         D 89 (.mv (T 9)),
         D 90 (.ia 4 (T 88) (T 89)),
         D 91 (.ldN 4 (T 90)),
         D 92 (.bslice [(.int .i64 0), (.int .i64 0), (.int .i64 0), (.slice none 0 0)] 1 [(0, 4, (T 91))]),
         D 93 (.app 4 48 (T 87) (T 92)),
         D 6 (.mv (T 93))]) (
       .ops [D 94 (.mv (T 7)),
        D 95 (.mv (T 13)),
        D 96 (.bslice [(.slice none 0 0)] 1 [(0, 1, (T 95))]),
        D 97 (.app 1 24 (T 94) (T 96)),
        D 7 (.mv (T 97))])))) (
       .skip)))))) (
    .ops [D 42 (.mv (T 9)),
     D 43 (.bin .add (T 42) (I 1)),
     D 9 (.mv (T 43))])))))) (
 .seq (
  .ops [D 98 (.mv (T 5)),
   D 99 (.call 12 [(T 98)]),
   D 100 (.call 43 [(T 99)]),
   D 15 (.mv (T 100))]) (
 .seq (
  .ops [D 101 (.mv (T 15)),
   D 102 (.len (T 101)),
   D 16 (.mv (T 102))]) (
 .trim [6, 7, 16, 17, 18] (
  .ops [D 104 (.mv (T 15)),
   D 105 (.mv (T 1)),
   D 106 (.app 1 1 (T 104) (T 105)),
   D 107 (.call 29 [(T 106)]),
   D 103 (.mv (T 107)),
   D 108 (.ext (T 103) 0),
   D 109 (.ext (T 103) 1),
   D 17 (.mv (T 108)),
   D 18 (.mv (T 109))]) (
 .trim [6, 7, 16, 17] (
  .trim [6, 7, 16, 17, 115] (
   .ops [D 110 (.mv (T 18)),
    D 111 (.bin .neq (T 110) (I 0)),
    D 112 (.mv (T 111)),
    ⟨(some 113), some (112, false), .mv (T 17)⟩,
    ⟨(some 114), some (112, false), .nileq false 0 (T 113) (.const (.pointer none))⟩,
    D 115 (.pick (T 112) (.const (.bool true)) (T 114))]) (
  .cond (T 115) (
   .seq (
    .ops [D 4 (.mv (.const (.bool false)))]) (
   .ret)) (
   .skip))) (
 .seq (
  .ops [D 116 (.call 15 []),
   D 8 (.mv (T 116))]) (
 .trim [16, 17] (
  .seq (
   .ops [D 19 (.mv (I 0))]) (
  .block 2 (
   .loop [6, 7, 8, 16, 17, 19] (
    .seq (
     .seq (
      .ops [D 117 (.mv (T 19)),
       D 118 (.mv (T 6)),
       D 119 (.len (T 118)),
       D 120 (.bin .lss (T 117) (T 119))]) (
     .cond (T 120) (
      .skip) (
      .exit 2))) (
    .trim [6, 7, 8, 16, 17, 19] (
     .block 3 (
      .trim [6, 7, 8, 16, 17, 19, 20, 21, 22] (
       .ops [D 124 (.mv (T 8)),
        D 125 (.mv (T 6)),
        D 126 (.mv (T 19)),
        D 127 (.ia 4 (T 125) (T 126)),
        D 128 (.ldN 4 (T 127)),
        D 129 (.call 16 [(T 124), (T 128)]),
        D 123 (.mv (T 129)),
        D 130 (.ext (T 123) 0),
        D 131 (.ext (T 123) 1),
        D 132 (.ext (T 123) 2),
        D 20 (.mv (T 130)),
        D 21 (.mv (T 131)),
        D 22 (.mv (T 132))]) (
      .trim [6, 7, 8, 16, 17, 19, 21, 22, 23, 24, 25] (
       .ops [D 134 (.mv (T 17)),
        D 135 (.mv (T 6)),
        D 136 (.mv (T 19)),
        D 137 (.ia 4 (T 135) (T 136)),
        D 138 (.ldN 4 (T 137)),
        D 139 (.mv (T 20)),
        D 140 (.call 31 [(T 134), (T 138), (T 139)]),
        D 133 (.mv (T 140)),
        D 141 (.ext (T 133) 0),
        D 142 (.ext (T 133) 1),
        D 143 (.ext (T 133) 2),
        D 23 (.mv (T 141)),
        D 24 (.mv (T 142)),
        D 25 (.mv (T 143))]) (
      .trim [6, 7, 8, 16, 17, 19, 21, 22, 24] (
       .trim [6, 7, 8, 16, 17, 19, 21, 22, 24, 163] (
        .ops [D 144 (.mv (T 25)),
         D 145 (.bin .neq (T 144) (I 0)),
         D 146 (.mv (T 145)),
         ⟨(some 147), some (146, false), .mv (T 23)⟩,
         ⟨(some 148), some (146, false), .mv (T 6)⟩,
         ⟨(some 149), some (146, false), .mv (T 19)⟩,
         ⟨(some 150), some (146, false), .ia 4 (T 148) (T 149)⟩,
         ⟨(some 151), some (146, false), .fa 2 (T 150)⟩,
         ⟨(some 152), some (146, false), .ld1 (T 151)⟩,
         ⟨(some 153), some (146, false), .bin .neq (T 147) (T 152)⟩,
         D 154 (.pick (T 146) (.const (.bool true)) (T 153)),
         D 155 (.mv (T 154)),
         ⟨(some 156), some (155, false), .mv (T 24)⟩,
         ⟨(some 157), some (155, false), .mv (T 7)⟩,
         ⟨(some 158), some (155, false), .mv (T 19)⟩,
         ⟨(some 159), some (155, false), .ia 1 (T 157) (T 158)⟩,
         ⟨(some 160), some (155, false), .ld1 (T 159)⟩,
         ⟨(some 161), some (155, false), .call 20 [(T 156), (T 160)]⟩,
         ⟨(some 162), some (155, false), .un .not (T 161)⟩,
         D 163 (.pick (T 155) (.const (.bool true)) (T 162))]) (
       .cond (T 163) (
        .seq (
         .ops [D 4 (.mv (.const (.bool false)))]) (
        .ret)) (
        .skip))) (
      .draw [⟨0, 0, 0, D 164 (.mv (T 8))⟩,
       ⟨1, 0, 0, D 165 (.mv (T 6))⟩,
       ⟨2, 0, 0, D 166 (.mv (T 19))⟩,
       ⟨3, 0, 6, D 167 (.ia 4 (T 165) (T 166))⟩,
       ⟨4, 1, 14, D 168 (.ldN 4 (T 167))⟩,
       ⟨5, 0, 0, D 169 (.mv (T 21))⟩,
       ⟨6, 0, 0, D 170 (.mv (T 22))⟩,
       ⟨7, 0, 0, D 171 (.mv (T 24))⟩,
       ⟨8, 4, 128, D 172 (.call 18 [(T 171)])⟩,
       ⟨9, 4, 511, D 173 (.call 21 [(T 164), (T 168), (T 169), (T 170), (T 172)])⟩]))))) (
    .ops [D 121 (.mv (T 19)),
     D 122 (.bin .add (T 121) (I 1)),
     D 19 (.mv (T 122))])))))) (
 .trim [4] (
  .ops [D 174 (.mv (T 17)),
   D 175 (.call 33 [(T 174)]),
   D 176 (.mv (T 16)),
   D 177 (.bin .eql (T 175) (T 176)),
   D 178 (.mv (T 177)),
   ⟨(some 179), some (178, true), .call 13 []⟩,
   D 180 (.pick (T 178) (T 179) (.const (.bool false))),
   D 4 (.mv (T 180))]) (
 .ret)))))))))))))))⟩
theorem dioramalaw13_ArithBack_ok : Ok Try.prog 9 dioramalaw13_ArithBack := ⟨by kernel_rfl, by kernel_rfl⟩

/-- diorama/arith.NewEncoder -/
def arith_NewEncoder : AF := ⟨3, [.tmp 0],
 .seq (
  .ops [D 0 (.mv (.const (.pointer none)))]) (
 .seq (
  .ops [D 1 (.build [(.int .u64 0), (.int .u64 0), (.slice none 0 0), (.int .i64 0)] [(1, 1, (.const (.int .u64 4294967295)))]),
   D 2 (.box (T 1)),
   D 0 (.mv (T 2))]) (
 .ret))⟩
theorem arith_NewEncoder_ok : Ok Try.prog 10 arith_NewEncoder := ⟨by kernel_rfl, by kernel_rfl⟩

/-- (*diorama/arith.Encoder).Bit -/
def arith_Encoder__Bit : AF := ⟨32, [.tmp 6, .tmp 7],
 .seq (
  .ops [D 6 (.mv (I 0)),
   D 7 (.mv (I 0))]) (
 .trim [0, 1, 2] (
  .seq (
   .ops [D 9 (.mv (T 0)),
    D 10 (.call 44 [(T 9)]),
    D 11 (.un .not (T 10))]) (
  .cond (T 11) (
   .seq (
    .ops [D 6 (.mv (I 0)),
     D 7 (.mv (I 4))]) (
   .ret)) (
   .skip))) (
 .trim [0, 1, 2] (
  .trim [0, 1, 2, 8] (
   .ops [D 12 (.mv (T 0)),
    D 13 (.mv (T 1)),
    D 14 (.bslice [(.int .i64 0)] 1 [(0, 1, (T 13))]),
    D 15 (.mv (T 2)),
    D 16 (.bin .eql (T 15) (I 0)),
    D 17 (.mv (T 16)),
    ⟨(some 18), some (17, false), .mv (T 2)⟩,
    ⟨(some 19), some (17, false), .bin .eql (T 18) (I 1)⟩,
    D 20 (.pick (T 17) (.const (.bool true)) (T 19)),
    D 21 (.call 45 [(T 12), (T 14), (T 20)]),
    D 8 (.mv (T 21))]) (
  .seq (
   .ops [D 22 (.mv (T 8)),
    D 23 (.bin .neq (T 22) (I 0))]) (
  .cond (T 23) (
   .seq (
    .ops [D 24 (.mv (T 8)),
     D 6 (.mv (I 0)),
     D 7 (.mv (T 24))]) (
   .ret)) (
   .skip)))) (
 .seq (
  .ops [D 25 (.mv (T 0)),
   D 26 (.mv (T 1)),
   D 27 (.mv (T 2)),
   D 28 (.call 46 [(T 25), (T 26), (T 27)])]) (
 .seq (
  .ops [D 29 (.mv (T 1)),
   D 30 (.mv (T 2)),
   D 31 (.call 47 [(T 29), (T 30)]),
   D 6 (.mv (T 31)),
   D 7 (.mv (I 0))]) (
 .ret)))))⟩
theorem arith_Encoder__Bit_ok : Ok Try.prog 11 arith_Encoder__Bit := ⟨by kernel_rfl, by kernel_rfl⟩

/-- (*diorama/arith.Encoder).Close -/
def arith_Encoder__Close : AF := ⟨38, [.tmp 2],
 .seq (
  .ops [D 2 (.mv (.const (.slice none 0 0)))]) (
 .seq (
  .seq (
   .ops [D 4 (.mv (T 0)),
    D 5 (.call 44 [(T 4)]),
    D 6 (.un .not (T 5))]) (
  .cond (T 6) (
   .seq (
    .ops [D 2 (.mv (.const (.slice none 0 0)))]) (
   .ret)) (
   .skip))) (
 .trim [0, 3] (
  .ops [D 7 (.mv (T 0)),
   D 8 (.nil (T 7)),
   D 9 (.fa 2 (T 8)),
   D 10 (.ld1 (T 9)),
   D 11 (.call 48 [(T 10)]),
   D 3 (.mv (T 11))]) (
 .trim [2] (
  .draw [⟨0, 0, 0, D 12 (.mv (T 3))⟩,
   ⟨1, 0, 0, D 13 (.mv (T 0))⟩,
   ⟨2, 0, 2, D 14 (.nil (T 13))⟩,
   ⟨3, 0, 6, D 15 (.fa 0 (T 14))⟩,
   ⟨4, 1, 14, D 16 (.ld1 (T 15))⟩,
   ⟨5, 0, 30, D 17 (.shrc (T 16) 24)⟩,
   ⟨6, 0, 62, D 18 (.cvi .u8 (T 17))⟩,
   ⟨7, 0, 0, D 19 (.mv (T 0))⟩,
   ⟨8, 0, 128, D 20 (.nil (T 19))⟩,
   ⟨9, 0, 384, D 21 (.fa 0 (T 20))⟩,
   ⟨10, 1, 896, D 22 (.ld1 (T 21))⟩,
   ⟨11, 0, 1920, D 23 (.shrc (T 22) 16)⟩,
   ⟨12, 0, 3968, D 24 (.cvi .u8 (T 23))⟩,
   ⟨13, 0, 0, D 25 (.mv (T 0))⟩,
   ⟨14, 0, 8192, D 26 (.nil (T 25))⟩,
   ⟨15, 0, 24576, D 27 (.fa 0 (T 26))⟩,
   ⟨16, 1, 57344, D 28 (.ld1 (T 27))⟩,
   ⟨17, 0, 122880, D 29 (.shrc (T 28) 8)⟩,
   ⟨18, 0, 253952, D 30 (.cvi .u8 (T 29))⟩,
   ⟨19, 0, 0, D 31 (.mv (T 0))⟩,
   ⟨20, 0, 524288, D 32 (.nil (T 31))⟩,
   ⟨21, 0, 1572864, D 33 (.fa 0 (T 32))⟩,
   ⟨22, 1, 3670016, D 34 (.ld1 (T 33))⟩,
   ⟨23, 0, 7864320, D 35 (.cvi .u8 (T 34))⟩,
   ⟨24, 2, 16777214, D 36 (.bslice [(.int .u8 0), (.int .u8 0), (.int .u8 0), (.int .u8 0)] 4 [(0, 1, (T 18)), (1, 1, (T 24)), (2, 1, (T 30)), (3, 1, (T 35))])⟩,
   ⟨25, 4, 33554431, D 37 (.app 1 1 (T 12) (T 36))⟩,
   ⟨26, 0, 67108863, D 2 (.mv (T 37))⟩]) (
 .ret))))⟩
theorem arith_Encoder__Close_ok : Ok Try.prog 12 arith_Encoder__Close := ⟨by kernel_rfl, by kernel_rfl⟩

/-- diorama/dioramalaw13.awake -/
def dioramalaw13_awake : AF := ⟨24, [.tmp 0],
 .seq (
  .ops [D 0 (.mv (.const (.bool false)))]) (
 .seq (
  .ops [D 4 (.call 10 []),
   D 1 (.mv (T 4))]) (
 .seq (
  .seq (
   .ops [D 5 (.mv (T 1)),
    D 6 (.nileq false 0 (T 5) (.const (.pointer none)))]) (
  .cond (T 6) (
   .seq (
    .ops [D 0 (.mv (.const (.bool false)))]) (
   .ret)) (
   .skip))) (
 .trim [1, 2, 3] (
  .ops [D 8 (.mv (T 1)),
   D 9 (.call 11 [(T 8), (I 2048), (I 1)]),
   D 7 (.mv (T 9)),
   D 10 (.ext (T 7) 0),
   D 11 (.ext (T 7) 1),
   D 2 (.mv (T 10)),
   D 3 (.mv (T 11))]) (
 .trim [0] (
  .ops [D 12 (.mv (T 3)),
   D 13 (.bin .eql (T 12) (I 0)),
   D 14 (.mv (T 13)),
   ⟨(some 15), some (14, true), .mv (T 2)⟩,
   ⟨(some 16), some (14, true), .bin .eql (T 15) (I 1984)⟩,
   D 17 (.pick (T 14) (T 16) (.const (.bool false))),
   D 18 (.mv (T 17)),
   ⟨(some 19), some (18, true), .mv (T 1)⟩,
   ⟨(some 20), some (18, true), .call 12 [(T 19)]⟩,
   ⟨(some 21), some (18, true), .bslice [(.int .u8 0), (.int .u8 0), (.int .u8 0), (.int .u8 0)] 4 [(0, 1, (.const (.int .u8 127))), (1, 1, (.const (.int .u8 255))), (2, 1, (.const (.int .u8 248))), (3, 1, (.const (.int .u8 0)))]⟩,
   ⟨(some 22), some (18, true), .call 22 [(T 20), (T 21)]⟩,
   D 23 (.pick (T 18) (T 22) (.const (.bool false))),
   D 0 (.mv (T 23))]) (
 .ret)))))⟩
theorem dioramalaw13_awake_ok : Ok Try.prog 13 dioramalaw13_awake := ⟨by kernel_rfl, by kernel_rfl⟩

/-- diorama/dioramaref13.NewEncoder -/
def dioramaref13_NewEncoder : AF := ⟨3, [.tmp 0],
 .seq (
  .ops [D 0 (.mv (.const (.pointer none)))]) (
 .seq (
  .ops [D 1 (.build [(.int .i64 0), (.int .i64 0), (.slice none 0 0), (.int .i64 0)] [(1, 1, (I 4294967295))]),
   D 2 (.box (T 1)),
   D 0 (.mv (T 2))]) (
 .ret))⟩
theorem dioramaref13_NewEncoder_ok : Ok Try.prog 14 dioramaref13_NewEncoder := ⟨by kernel_rfl, by kernel_rfl⟩

/-- diorama/dioramalaw13.newPool -/
def dioramalaw13_newPool : AF := ⟨35, [.tmp 0],
 .seq (
  .ops [D 0 (.mv (.const (.pointer none)))]) (
 .seq (
  .ops [D 5 (.build [(.slice none 0 0), (.slice none 0 0)] []),
   D 6 (.box (T 5)),
   D 1 (.mv (T 6))]) (
 .trim [1] (
  .seq (
   .ops [D 2 (.mv (I 0))]) (
  .block 0 (
   .loop [1, 2] (
    .seq (
     .seq (
      .ops [D 7 (.mv (T 2)),
       D 8 (.bin .lss (T 7) (I 4))]) (
     .cond (T 8) (
      .skip) (
      .exit 0))) (
    .trim [1, 2] (
     .block 1 (
      .trim [1, 2] (
       .ops [D 11 (.mv (T 1)),
        D 12 (.mv (T 1)),
        D 13 (.nil (T 12)),
        D 14 (.fa 0 (T 13)),
        D 15 (.ld1 (T 14)),
        D 16 (.bslice [(.int .i64 0)] 1 [(0, 1, (I 2048))]),
        D 17 (.app 1 8 (T 15) (T 16)),
        D 18 (.nil (T 11)),
        D 19 (.fa 0 (T 18)),
        E (.st 1 (T 19) (T 17))]) (
      .trim [1, 2, 3] (
       .ops [D 21 (.call 28 [(I 32)]),
        D 20 (.mv (T 21)),
        D 22 (.ext (T 20) 0),
        D 23 (.ext (T 20) 1),
        D 3 (.mv (T 22)),
        D 4 (.mv (T 23))]) (
      .ops [D 24 (.mv (T 1)),
       D 25 (.mv (T 1)),
       D 26 (.nil (T 25)),
       D 27 (.fa 1 (T 26)),
       D 28 (.ld1 (T 27)),
       D 29 (.mv (T 3)),
       D 30 (.bslice [(.slice none 0 0)] 1 [(0, 1, (T 29))]),
       D 31 (.app 1 24 (T 28) (T 30)),
       D 32 (.nil (T 24)),
       D 33 (.fa 1 (T 32)),
       E (.st 1 (T 33) (T 31))])))) (
    .ops [D 9 (.mv (T 2)),
     D 10 (.bin .add (T 9) (I 1)),
     D 2 (.mv (T 10))])))))) (
 .seq (
  .ops [D 34 (.mv (T 1)),
   D 0 (.mv (T 34))]) (
 .ret))))⟩
theorem dioramalaw13_newPool_ok : Ok Try.prog 15 dioramalaw13_newPool := ⟨by kernel_rfl, by kernel_rfl⟩

/-- (*diorama/dioramalaw13.pool).states -/
def dioramalaw13_pool__states : AF := ⟨40, [.tmp 4, .tmp 5, .tmp 6],
 .seq (
  .ops [D 3 (.box (T 1)),
   D 4 (.mv (.const (.slice none 0 0))),
   D 5 (.mv (.const (.bool false))),
   D 6 (.mv (I 0))]) (
 .seq (
  .ops [D 8 (.fa 1 (T 3)),
   D 9 (.ld1 (T 8)),
   D 10 (.call 49 [(T 9), (I 4)]),
   D 7 (.mv (T 10))]) (
 .trim [0, 3, 7] (
  .seq (
   .ops [D 11 (.fa 3 (T 3)),
    D 12 (.ld1 (T 11)),
    D 13 (.len (T 12)),
    D 14 (.bin .gtr (T 13) (I 0))]) (
  .cond (T 14) (
   .seq (
    .ops [D 15 (.fa 3 (T 3)),
     D 16 (.ld1 (T 15)),
     D 17 (.call 18 [(T 16)]),
     D 18 (.mv (T 7)),
     D 4 (.mv (T 17)),
     D 5 (.mv (.const (.bool false))),
     D 6 (.mv (T 18))]) (
   .ret)) (
   .skip))) (
 .trim [0, 7] (
  .seq (
   .ops [D 19 (.fa 0 (T 3)),
    D 20 (.ld1 (T 19)),
    D 21 (.bin .eql (T 20) (I 0))]) (
  .cond (T 21) (
   .trim [4, 5, 6] (
    .ops [D 22 (.mv (T 0)),
     D 23 (.nil (T 22)),
     D 24 (.fa 0 (T 23)),
     D 25 (.ld1 (T 24)),
     D 26 (.mv (T 7)),
     D 27 (.ia 1 (T 25) (T 26)),
     D 28 (.ld1 (T 27)),
     D 29 (.bslice [(.int .i64 0)] 1 [(0, 1, (T 28))]),
     D 30 (.mv (T 7)),
     D 4 (.mv (T 29)),
     D 5 (.mv (.const (.bool true))),
     D 6 (.mv (T 30))]) (
   .ret)) (
   .skip))) (
 .trim [4, 5, 6] (
  .ops [D 31 (.mv (T 0)),
   D 32 (.nil (T 31)),
   D 33 (.fa 1 (T 32)),
   D 34 (.ld1 (T 33)),
   D 35 (.mv (T 7)),
   D 36 (.ia 1 (T 34) (T 35)),
   D 37 (.ld1 (T 36)),
   D 38 (.call 18 [(T 37)]),
   D 39 (.mv (T 7)),
   D 4 (.mv (T 38)),
   D 5 (.mv (.const (.bool true))),
   D 6 (.mv (T 39))]) (
 .ret)))))⟩
theorem dioramalaw13_pool__states_ok : Ok Try.prog 16 dioramalaw13_pool__states := ⟨by kernel_rfl, by kernel_rfl⟩

/-- diorama/dioramalaw13.write -/
def dioramalaw13_write : AF := ⟨43, [.tmp 6, .tmp 7],
 .seq (
  .ops [D 4 (.box (T 1)),
   D 6 (.mv (.const (.slice none 0 0))),
   D 7 (.mv (I 0))]) (
 .trim [0, 2, 4] (
  .seq (
   .ops [D 10 (.fa 0 (T 4)),
    D 11 (.ld1 (T 10))]) (
  .block 0 (
   .seq (
    .ops [D 13 (.bin .eql (T 11) (I 0)),
     D 12 (.mv (T 13))]) (
   .cond (T 12) (
    .trim [8, 9] (
     .draw [⟨0, 0, 0, D 15 (.mv (T 0))⟩,
      ⟨1, 0, 0, D 16 (.mv (T 2))⟩,
      ⟨2, 0, 2, D 17 (.ia 1 (T 16) (I 0))⟩,
      ⟨3, 1, 6, D 18 (.ld1 (T 17))⟩,
      ⟨4, 0, 0, D 19 (.fa 2 (T 4))⟩,
      ⟨5, 1, 16, D 20 (.ld1 (T 19))⟩,
      ⟨6, 4, 63, D 21 (.call 11 [(T 15), (T 18), (T 20)])⟩,
      ⟨7, 0, 127, D 14 (.mv (T 21))⟩,
      ⟨8, 0, 255, D 22 (.ext (T 14) 0)⟩,
      ⟨9, 0, 255, D 23 (.ext (T 14) 1)⟩,
      ⟨10, 0, 511, D 8 (.mv (T 22))⟩,
      ⟨11, 0, 2047, D 9 (.mv (T 23))⟩]) (
    .seq (
     .ops [D 24 (.mv (T 8)),
      D 25 (.bslice [(.int .i64 0)] 1 [(0, 1, (T 24))]),
      D 26 (.mv (T 9)),
      D 6 (.mv (T 25)),
      D 7 (.mv (T 26))]) (
    .ret))) (
    .seq (
     .ops [D 28 (.bin .eql (T 11) (I 1)),
      D 27 (.mv (T 28))]) (
    .cond (T 27) (
     .trim [6, 7] (
      .ops [D 29 (.mv (T 0)),
       D 30 (.mv (T 2)),
       D 31 (.fa 2 (T 4)),
       D 32 (.ld1 (T 31)),
       D 33 (.call 38 [(T 29), (T 30), (T 32)]),
       D 34 (.ext (T 33) 0),
       D 35 (.ext (T 33) 1),
       D 6 (.mv (T 34)),
       D 7 (.mv (T 35))]) (
     .ret)) (
     .skip))))))) (
 .trim [6, 7] (
  .ops [D 36 (.mv (T 0)),
   D 37 (.mv (T 2)),
   D 38 (.fa 2 (T 4)),
   D 39 (.ld1 (T 38)),
   D 40 (.call 39 [(T 36), (T 37), (T 39)]),
   D 41 (.ext (T 40) 0),
   D 42 (.ext (T 40) 1),
   D 6 (.mv (T 41)),
   D 7 (.mv (T 42))]) (
 .ret)))⟩
theorem dioramalaw13_write_ok : Ok Try.prog 17 dioramalaw13_write := ⟨by kernel_rfl, by kernel_rfl⟩

/-- diorama/dioramaref00.CopyInts -/
def dioramaref00_CopyInts : AF := ⟨22, [.tmp 2],
 .seq (
  .ops [D 2 (.mv (.const (.slice none 0 0)))]) (
 .seq (
  .ops [D 5 (.mv (T 0)),
   D 6 (.len (T 5)),
   D 7 (.mks [(.int .i64 0)] 8 (I 0) (T 6)),
   D 3 (.mv (T 7))]) (
 .trim [3] (
  .seq (
   .ops [D 4 (.mv (I 0))]) (
  .block 0 (
   .loop [0, 3, 4] (
    .seq (
     .seq (
      .ops [D 8 (.mv (T 4)),
       D 9 (.mv (T 0)),
       D 10 (.len (T 9)),
       D 11 (.bin .lss (T 8) (T 10))]) (
     .cond (T 11) (
      .skip) (
      .exit 0))) (
    .trim [0, 3, 4] (
     .block 1 (
      .ops [D 14 (.mv (T 3)),
       D 15 (.mv (T 0)),
       D 16 (.mv (T 4)),
       D 17 (.ia 1 (T 15) (T 16)),
       D 18 (.ld1 (T 17)),
       D 19 (.bslice [(.int .i64 0)] 1 [(0, 1, (T 18))]),
       D 20 (.app 1 8 (T 14) (T 19)),
       D 3 (.mv (T 20))])) (
    .ops [D 12 (.mv (T 4)),
     D 13 (.bin .add (T 12) (I 1)),
     D 4 (.mv (T 13))])))))) (
 .seq (
  .ops [D 21 (.mv (T 3)),
   D 2 (.mv (T 21))]) (
 .ret))))⟩
theorem dioramaref00_CopyInts_ok : Ok Try.prog 18 dioramaref00_CopyInts := ⟨by kernel_rfl, by kernel_rfl⟩

/-- diorama/dioramalaw13.written -/
def dioramalaw13_written : AF := ⟨43, [.tmp 6, .tmp 7],
 .seq (
  .ops [D 4 (.box (T 1)),
   D 6 (.mv (.const (.slice none 0 0))),
   D 7 (.mv (I 0))]) (
 .trim [0, 2, 4] (
  .seq (
   .ops [D 10 (.fa 0 (T 4)),
    D 11 (.ld1 (T 10))]) (
  .block 0 (
   .seq (
    .ops [D 13 (.bin .eql (T 11) (I 0)),
     D 12 (.mv (T 13))]) (
   .cond (T 12) (
    .trim [8, 9] (
     .draw [⟨0, 0, 0, D 15 (.mv (T 0))⟩,
      ⟨1, 0, 0, D 16 (.mv (T 2))⟩,
      ⟨2, 0, 2, D 17 (.ia 1 (T 16) (I 0))⟩,
      ⟨3, 1, 6, D 18 (.ld1 (T 17))⟩,
      ⟨4, 0, 0, D 19 (.fa 2 (T 4))⟩,
      ⟨5, 1, 16, D 20 (.ld1 (T 19))⟩,
      ⟨6, 4, 63, D 21 (.call 50 [(T 15), (T 18), (T 20)])⟩,
      ⟨7, 0, 127, D 14 (.mv (T 21))⟩,
      ⟨8, 0, 255, D 22 (.ext (T 14) 0)⟩,
      ⟨9, 0, 255, D 23 (.ext (T 14) 1)⟩,
      ⟨10, 0, 511, D 8 (.mv (T 22))⟩,
      ⟨11, 0, 2047, D 9 (.mv (T 23))⟩]) (
    .seq (
     .ops [D 24 (.mv (T 8)),
      D 25 (.bslice [(.int .i64 0)] 1 [(0, 1, (T 24))]),
      D 26 (.mv (T 9)),
      D 6 (.mv (T 25)),
      D 7 (.mv (T 26))]) (
    .ret))) (
    .seq (
     .ops [D 28 (.bin .eql (T 11) (I 1)),
      D 27 (.mv (T 28))]) (
    .cond (T 27) (
     .trim [6, 7] (
      .ops [D 29 (.mv (T 0)),
       D 30 (.mv (T 2)),
       D 31 (.fa 2 (T 4)),
       D 32 (.ld1 (T 31)),
       D 33 (.call 51 [(T 29), (T 30), (T 32)]),
       D 34 (.ext (T 33) 0),
       D 35 (.ext (T 33) 1),
       D 6 (.mv (T 34)),
       D 7 (.mv (T 35))]) (
     .ret)) (
     .skip))))))) (
 .trim [6, 7] (
  .ops [D 36 (.mv (T 0)),
   D 37 (.mv (T 2)),
   D 38 (.fa 2 (T 4)),
   D 39 (.ld1 (T 38)),
   D 40 (.call 52 [(T 36), (T 37), (T 39)]),
   D 41 (.ext (T 40) 0),
   D 42 (.ext (T 40) 1),
   D 6 (.mv (T 41)),
   D 7 (.mv (T 42))]) (
 .ret)))⟩
theorem dioramalaw13_written_ok : Ok Try.prog 19 dioramalaw13_written := ⟨by kernel_rfl, by kernel_rfl⟩

/-- diorama/dioramaref00.EqInts -/
def dioramaref00_EqInts : AF := ⟨26, [.tmp 4],
 .seq (
  .ops [D 4 (.mv (.const (.bool false)))]) (
 .trim [0, 1] (
  .seq (
   .ops [D 6 (.mv (T 0)),
    D 7 (.len (T 6)),
    D 8 (.mv (T 1)),
    D 9 (.len (T 8)),
    D 10 (.bin .neq (T 7) (T 9))]) (
  .cond (T 10) (
   .seq (
    .ops [D 4 (.mv (.const (.bool false)))]) (
   .ret)) (
   .skip))) (
 .trim [] (
  .seq (
   .ops [D 5 (.mv (I 0))]) (
  .block 0 (
   .loop [0, 1, 5] (
    .seq (
     .seq (
      .ops [D 11 (.mv (T 5)),
       D 12 (.mv (T 0)),
       D 13 (.len (T 12)),
       D 14 (.bin .lss (T 11) (T 13))]) (
     .cond (T 14) (
      .skip) (
      .exit 0))) (
    .trim [0, 1, 5] (
     .block 1 (
      .trim [0, 1, 5, 25] (
       .draw [⟨0, 0, 0, D 17 (.mv (T 0))⟩,
        ⟨1, 0, 0, D 18 (.mv (T 5))⟩,
        ⟨2, 0, 3, D 19 (.ia 1 (T 17) (T 18))⟩,
        ⟨3, 1, 7, D 20 (.ld1 (T 19))⟩,
        ⟨4, 0, 0, D 21 (.mv (T 1))⟩,
        ⟨5, 0, 0, D 22 (.mv (T 5))⟩,
        ⟨6, 0, 48, D 23 (.ia 1 (T 21) (T 22))⟩,
        ⟨7, 1, 112, D 24 (.ld1 (T 23))⟩,
        ⟨8, 0, 255, D 25 (.bin .neq (T 20) (T 24))⟩]) (
      .cond (T 25) (
       .seq (
        .ops [D 4 (.mv (.const (.bool false)))]) (
       .ret)) (
       .skip)))) (
    .ops [D 15 (.mv (T 5)),
     D 16 (.bin .add (T 15) (I 1)),
     D 5 (.mv (T 16))])))))) (
 .seq (
  .ops [D 4 (.mv (.const (.bool true)))]) (
 .ret))))⟩
theorem dioramaref00_EqInts_ok : Ok Try.prog 20 dioramaref00_EqInts := ⟨by kernel_rfl, by kernel_rfl⟩

/-- (*diorama/dioramalaw13.pool).keep -/
def dioramalaw13_pool__keep : AF := ⟨31, [],
 .seq (
  .ops [D 6 (.box (T 1))]) (
 .seq (
  .seq (
   .ops [D 10 (.mv (T 2)),
    D 11 (.un .not (T 10))]) (
  .cond (T 11) (
   .ret) (
   .skip))) (
 .seq (
  .ops [D 12 (.fa 0 (T 6)),
   D 13 (.ld1 (T 12)),
   D 14 (.bin .eql (T 13) (I 0))]) (
 .cond (T 14) (
  .draw [⟨0, 0, 0, D 15 (.mv (T 0))⟩,
   ⟨1, 0, 1, D 16 (.nil (T 15))⟩,
   ⟨2, 0, 3, D 17 (.fa 0 (T 16))⟩,
   ⟨3, 1, 7, D 18 (.ld1 (T 17))⟩,
   ⟨4, 0, 0, D 19 (.mv (T 3))⟩,
   ⟨5, 0, 0, D 20 (.mv (T 4))⟩,
   ⟨6, 0, 32, D 21 (.ia 1 (T 20) (I 0))⟩,
   ⟨7, 1, 96, D 22 (.ld1 (T 21))⟩,
   ⟨8, 0, 255, D 23 (.ia 1 (T 18) (T 19))⟩,
   ⟨9, 4, 511, E (.st 1 (T 23) (T 22))⟩]) (
  .ops [D 24 (.mv (T 0)),
   D 25 (.nil (T 24)),
   D 26 (.fa 1 (T 25)),
   D 27 (.ld1 (T 26)),
   D 28 (.mv (T 3)),
   D 29 (.mv (T 4)),
   D 30 (.ia 1 (T 27) (T 28)),
   E (.st 1 (T 30) (T 29))]))))⟩
theorem dioramalaw13_pool__keep_ok : Ok Try.prog 21 dioramalaw13_pool__keep := ⟨by kernel_rfl, by kernel_rfl⟩

/-- diorama/dioramaref00.EqBytes -/
def dioramaref00_EqBytes : AF := ⟨26, [.tmp 4],
 .seq (
  .ops [D 4 (.mv (.const (.bool false)))]) (
 .trim [0, 1] (
  .seq (
   .ops [D 6 (.mv (T 0)),
    D 7 (.len (T 6)),
    D 8 (.mv (T 1)),
    D 9 (.len (T 8)),
    D 10 (.bin .neq (T 7) (T 9))]) (
  .cond (T 10) (
   .seq (
    .ops [D 4 (.mv (.const (.bool false)))]) (
   .ret)) (
   .skip))) (
 .trim [] (
  .seq (
   .ops [D 5 (.mv (I 0))]) (
  .block 0 (
   .loop [0, 1, 5] (
    .seq (
     .seq (
      .ops [D 11 (.mv (T 5)),
       D 12 (.mv (T 0)),
       D 13 (.len (T 12)),
       D 14 (.bin .lss (T 11) (T 13))]) (
     .cond (T 14) (
      .skip) (
      .exit 0))) (
    .trim [0, 1, 5] (
     .block 1 (
      .trim [0, 1, 5, 25] (
       .draw [⟨0, 0, 0, D 17 (.mv (T 0))⟩,
        ⟨1, 0, 0, D 18 (.mv (T 5))⟩,
        ⟨2, 0, 3, D 19 (.ia 1 (T 17) (T 18))⟩,
        ⟨3, 1, 7, D 20 (.ld1 (T 19))⟩,
        ⟨4, 0, 0, D 21 (.mv (T 1))⟩,
        ⟨5, 0, 0, D 22 (.mv (T 5))⟩,
        ⟨6, 0, 48, D 23 (.ia 1 (T 21) (T 22))⟩,
        ⟨7, 1, 112, D 24 (.ld1 (T 23))⟩,
        ⟨8, 0, 255, D 25 (.bin .neq (T 20) (T 24))⟩]) (
      .cond (T 25) (
       .seq (
        .ops [D 4 (.mv (.const (.bool false)))]) (
       .ret)) (
       .skip)))) (
    .ops [D 15 (.mv (T 5)),
     D 16 (.bin .add (T 15) (I 1)),
     D 5 (.mv (T 16))])))))) (
 .seq (
  .ops [D 4 (.mv (.const (.bool true)))]) (
 .ret))))⟩
theorem dioramaref00_EqBytes_ok : Ok Try.prog 22 dioramaref00_EqBytes := ⟨by kernel_rfl, by kernel_rfl⟩

/-- (*diorama/dioramaref13.Encoder).Close -/
def dioramaref13_Encoder__Close : AF := ⟨35, [.tmp 2],
 .seq (
  .ops [D 2 (.mv (.const (.slice none 0 0)))]) (
 .trim [0, 3] (
  .ops [D 4 (.mv (T 0)),
   D 5 (.nil (T 4)),
   D 6 (.fa 2 (T 5)),
   D 7 (.ld1 (T 6)),
   D 8 (.call 43 [(T 7)]),
   D 3 (.mv (T 8))]) (
 .trim [2] (
  .draw [⟨0, 0, 0, D 9 (.mv (T 3))⟩,
   ⟨1, 0, 0, D 10 (.mv (T 0))⟩,
   ⟨2, 0, 2, D 11 (.nil (T 10))⟩,
   ⟨3, 0, 6, D 12 (.fa 0 (T 11))⟩,
   ⟨4, 1, 14, D 13 (.ld1 (T 12))⟩,
   ⟨5, 0, 30, D 14 (.shrc (T 13) 24)⟩,
   ⟨6, 0, 62, D 15 (.cvi .u8 (T 14))⟩,
   ⟨7, 0, 0, D 16 (.mv (T 0))⟩,
   ⟨8, 0, 128, D 17 (.nil (T 16))⟩,
   ⟨9, 0, 384, D 18 (.fa 0 (T 17))⟩,
   ⟨10, 1, 896, D 19 (.ld1 (T 18))⟩,
   ⟨11, 0, 1920, D 20 (.shrc (T 19) 16)⟩,
   ⟨12, 0, 3968, D 21 (.cvi .u8 (T 20))⟩,
   ⟨13, 0, 0, D 22 (.mv (T 0))⟩,
   ⟨14, 0, 8192, D 23 (.nil (T 22))⟩,
   ⟨15, 0, 24576, D 24 (.fa 0 (T 23))⟩,
   ⟨16, 1, 57344, D 25 (.ld1 (T 24))⟩,
   ⟨17, 0, 122880, D 26 (.shrc (T 25) 8)⟩,
   ⟨18, 0, 253952, D 27 (.cvi .u8 (T 26))⟩,
   ⟨19, 0, 0, D 28 (.mv (T 0))⟩,
   ⟨20, 0, 524288, D 29 (.nil (T 28))⟩,
   ⟨21, 0, 1572864, D 30 (.fa 0 (T 29))⟩,
   ⟨22, 1, 3670016, D 31 (.ld1 (T 30))⟩,
   ⟨23, 0, 7864320, D 32 (.cvi .u8 (T 31))⟩,
   ⟨24, 2, 16777214, D 33 (.bslice [(.int .u8 0), (.int .u8 0), (.int .u8 0), (.int .u8 0)] 4 [(0, 1, (T 15)), (1, 1, (T 21)), (2, 1, (T 27)), (3, 1, (T 32))])⟩,
   ⟨25, 4, 33554431, D 34 (.app 1 1 (T 9) (T 33))⟩,
   ⟨26, 0, 67108863, D 2 (.mv (T 34))⟩]) (
 .ret)))⟩
theorem dioramaref13_Encoder__Close_ok : Ok Try.prog 23 dioramaref13_Encoder__Close := ⟨by kernel_rfl, by kernel_rfl⟩

/-- diorama/arith.Next -/
def arith_Next : AF := ⟨18, [.tmp 4, .tmp 5],
 .seq (
  .ops [D 4 (.mv (I 0)),
   D 5 (.mv (I 0))]) (
 .trim [0, 1] (
  .seq (
   .ops [D 6 (.mv (T 0)),
    D 7 (.call 53 [(T 6)]),
    D 8 (.un .not (T 7))]) (
  .cond (T 8) (
   .seq (
    .ops [D 4 (.mv (I 0)),
     D 5 (.mv (I 130))]) (
   .ret)) (
   .skip))) (
 .trim [0, 1] (
  .trim [0, 1, 14] (
   .ops [D 9 (.mv (T 1)),
    D 10 (.bin .neq (T 9) (I 0)),
    D 11 (.mv (T 10)),
    ⟨(some 12), some (11, true), .mv (T 1)⟩,
    ⟨(some 13), some (11, true), .bin .neq (T 12) (I 1)⟩,
    D 14 (.pick (T 11) (T 13) (.const (.bool false)))]) (
  .cond (T 14) (
   .seq (
    .ops [D 4 (.mv (I 0)),
     D 5 (.mv (I 1))]) (
   .ret)) (
   .skip))) (
 .seq (
  .ops [D 15 (.mv (T 0)),
   D 16 (.mv (T 1)),
   D 17 (.call 47 [(T 15), (T 16)]),
   D 4 (.mv (T 17)),
   D 5 (.mv (I 0))]) (
 .ret))))⟩
theorem arith_Next_ok : Ok Try.prog 24 arith_Next := ⟨by kernel_rfl, by kernel_rfl⟩

/-- diorama/dioramaref13.Next -/
def dioramaref13_Next : AF := ⟨18, [.tmp 4, .tmp 5],
 .seq (
  .ops [D 4 (.mv (I 0)),
   D 5 (.mv (I 0))]) (
 .trim [0, 1] (
  .seq (
   .ops [D 6 (.mv (T 0)),
    D 7 (.call 26 [(T 6)]),
    D 8 (.un .not (T 7))]) (
  .cond (T 8) (
   .seq (
    .ops [D 4 (.mv (I 0)),
     D 5 (.mv (I 130))]) (
   .ret)) (
   .skip))) (
 .trim [0, 1] (
  .trim [0, 1, 14] (
   .ops [D 9 (.mv (T 1)),
    D 10 (.bin .neq (T 9) (I 0)),
    D 11 (.mv (T 10)),
    ⟨(some 12), some (11, true), .mv (T 1)⟩,
    ⟨(some 13), some (11, true), .bin .neq (T 12) (I 1)⟩,
    D 14 (.pick (T 11) (T 13) (.const (.bool false)))]) (
  .cond (T 14) (
   .seq (
    .ops [D 4 (.mv (I 0)),
     D 5 (.mv (I 1))]) (
   .ret)) (
   .skip))) (
 .seq (
  .ops [D 15 (.mv (T 0)),
   D 16 (.mv (T 1)),
   D 17 (.call 54 [(T 15), (T 16)]),
   D 4 (.mv (T 17)),
   D 5 (.mv (I 0))]) (
 .ret))))⟩
theorem dioramaref13_Next_ok : Ok Try.prog 25 dioramaref13_Next := ⟨by kernel_rfl, by kernel_rfl⟩

/-- diorama/dioramaref13.State -/
def dioramaref13_State : AF := ⟨9, [.tmp 2],
 .seq (
  .ops [D 2 (.mv (.const (.bool false)))]) (
 .trim [2] (
  .ops [D 3 (.mv (T 0)),
   D 4 (.bin .geq (T 3) (I 31)),
   D 5 (.mv (T 4)),
   ⟨(some 6), some (5, true), .mv (T 0)⟩,
   ⟨(some 7), some (5, true), .bin .leq (T 6) (I 4065)⟩,
   D 8 (.pick (T 5) (T 7) (.const (.bool false))),
   D 2 (.mv (T 8))]) (
 .ret))⟩
theorem dioramaref13_State_ok : Ok Try.prog 26 dioramaref13_State := ⟨by kernel_rfl, by kernel_rfl⟩

/-- diorama/arith.States -/
def arith_States : AF := ⟨13, [.tmp 2, .tmp 3],
 .seq (
  .ops [D 2 (.mv (.const (.slice none 0 0))),
   D 3 (.mv (I 0))]) (
 .trim [0] (
  .trim [0, 9] (
   .ops [D 4 (.mv (T 0)),
    D 5 (.bin .lss (T 4) (I 0)),
    D 6 (.mv (T 5)),
    ⟨(some 7), some (6, false), .mv (T 0)⟩,
    ⟨(some 8), some (6, false), .bin .gtr (T 7) (I 100000)⟩,
    D 9 (.pick (T 6) (.const (.bool true)) (T 8))]) (
  .cond (T 9) (
   .seq (
    .ops [D 2 (.mv (.const (.slice none 0 0))),
     D 3 (.mv (I 1))]) (
   .ret)) (
   .skip))) (
 .seq (
  .ops [D 10 (.bslice [(.int .i64 0)] 1 [(0, 1, (I 2048))]),
   D 11 (.mv (T 0)),
   D 12 (.call 55 [(T 10), (T 11)]),
   D 2 (.mv (T 12)),
   D 3 (.mv (I 0))]) (
 .ret)))⟩
theorem arith_States_ok : Ok Try.prog 27 arith_States := ⟨by kernel_rfl, by kernel_rfl⟩

/-- diorama/dioramaref13.States -/
def dioramaref13_States : AF := ⟨21, [.tmp 2, .tmp 3],
 .seq (
  .ops [D 2 (.mv (.const (.slice none 0 0))),
   D 3 (.mv (I 0))]) (
 .trim [0] (
  .trim [0, 11] (
   .ops [D 6 (.mv (T 0)),
    D 7 (.bin .lss (T 6) (I 0)),
    D 8 (.mv (T 7)),
    ⟨(some 9), some (8, false), .mv (T 0)⟩,
    ⟨(some 10), some (8, false), .bin .gtr (T 9) (I 100000)⟩,
    D 11 (.pick (T 8) (.const (.bool true)) (T 10))]) (
  .cond (T 11) (
   .seq (
    .ops [D 2 (.mv (.const (.slice none 0 0))),
     D 3 (.mv (I 1))]) (
   .ret)) (
   .skip))) (
 .seq (
  .ops [D 4 (.mv (.const (.slice none 0 0)))]) (
 .trim [4] (
  .seq (
   .ops [D 5 (.mv (I 0))]) (
  .block 0 (
   .loop [0, 4, 5] (
    .seq (
     .seq (
      .ops [D 12 (.mv (T 5)),
       D 13 (.mv (T 0)),
       D 14 (.bin .lss (T 12) (T 13))]) (
     .cond (T 14) (
      .skip) (
      .exit 0))) (
    .seq (
     .block 1 (
      .ops [D 17 (.mv (T 4)),
       D 18 (.bslice [(.int .i64 0)] 1 [(0, 1, (I 2048))]),
       D 19 (.app 1 8 (T 17) (T 18)),
       D 4 (.mv (T 19))])) (
    .ops [D 15 (.mv (T 5)),
     D 16 (.bin .add (T 15) (I 1)),
     D 5 (.mv (T 16))])))))) (
 .seq (
  .ops [D 20 (.mv (T 4)),
   D 2 (.mv (T 20)),
   D 3 (.mv (I 0))]) (
 .ret)))))⟩
theorem dioramaref13_States_ok : Ok Try.prog 28 dioramaref13_States := ⟨by kernel_rfl, by kernel_rfl⟩

/-- diorama/arith.NewDecoder -/
def arith_NewDecoder : AF := ⟨33, [.tmp 2, .tmp 3],
 .seq (
  .ops [D 2 (.mv (.const (.pointer none))),
   D 3 (.mv (I 0))]) (
 .trim [0] (
  .seq (
   .ops [D 7 (.mv (T 0)),
    D 8 (.len (T 7)),
    D 9 (.bin .lss (T 8) (I 4))]) (
  .cond (T 9) (
   .seq (
    .ops [D 2 (.mv (.const (.pointer none))),
     D 3 (.mv (I 3))]) (
   .ret)) (
   .skip))) (
 .seq (
  .ops [D 10 (.mv (T 0)),
   D 11 (.build [(.slice none 0 0), (.int .i64 0), (.int .u64 0), (.int .u64 0)] [(0, 1, (T 10)), (1, 1, (I 4)), (3, 1, (.const (.int .u64 4294967295)))]),
   D 12 (.box (T 11)),
   D 4 (.mv (T 12))]) (
 .trim [4] (
  .seq (
   .ops [D 13 (.mv (T 0)),
    D 14 (.slc 1 (T 13) none (some (I 4)) none),
    D 15 (.len (T 14)),
    D 16 (.mv (I 0))]) (
  .block 0 (
   .loop [4, 14, 15, 16] (
    .seq (
     .ops [D 17 (.bin .lss (T 16) (T 15))]) (
    .seq (
     .cond (T 17) (
      .skip) (
      .exit 0)) (
    .trim [4, 14, 15, 16] (
     .block 1 (
      .seq (
       .ops [D 18 (.ia 1 (T 14) (T 16)),
        D 19 (.ld1 (T 18)),
        D 6 (.mv (T 19))]) (
      .ops [D 20 (.mv (T 4)),
       D 21 (.mv (T 4)),
       D 22 (.nil (T 21)),
       D 23 (.fa 2 (T 22)),
       D 24 (.ld1 (T 23)),
       D 25 (.shlc (T 24) 8),
       D 26 (.mv (T 6)),
       D 27 (.cvi .u64 (T 26)),
       D 28 (.bin .or (T 25) (T 27)),
       D 29 (.nil (T 20)),
       D 30 (.fa 2 (T 29)),
       E (.st 1 (T 30) (T 28))]))) (
    .ops [D 31 (.bin .add (T 16) (I 1)),
     D 16 (.mv (T 31))]))))))) (
 .seq (
  .ops [D 32 (.mv (T 4)),
   D 2 (.mv (T 32)),
   D 3 (.mv (I 0))]) (
 .ret)))))⟩
theorem arith_NewDecoder_ok : Ok Try.prog 29 arith_NewDecoder := ⟨by kernel_rfl, by kernel_rfl⟩

/-- diorama/dioramaref13.NewDecoder -/
def dioramaref13_NewDecoder : AF := ⟨31, [.tmp 2, .tmp 3],
 .seq (
  .ops [D 2 (.mv (.const (.pointer none))),
   D 3 (.mv (I 0))]) (
 .trim [0] (
  .seq (
   .ops [D 6 (.mv (T 0)),
    D 7 (.len (T 6)),
    D 8 (.bin .lss (T 7) (I 4))]) (
  .cond (T 8) (
   .seq (
    .ops [D 2 (.mv (.const (.pointer none))),
     D 3 (.mv (I 3))]) (
   .ret)) (
   .skip))) (
 .seq (
  .ops [D 9 (.mv (T 0)),
   D 10 (.build [(.int .i64 0), (.int .i64 0), (.int .i64 0), (.slice none 0 0)] [(1, 1, (I 4294967295)), (2, 1, (I 4)), (3, 1, (T 9))]),
   D 11 (.box (T 10)),
   D 4 (.mv (T 11))]) (
 .trim [4] (
  .seq (
   .ops [D 5 (.mv (I 0))]) (
  .block 0 (
   .loop [0, 4, 5] (
    .seq (
     .seq (
      .ops [D 12 (.mv (T 5)),
       D 13 (.bin .lss (T 12) (I 4))]) (
     .cond (T 13) (
      .skip) (
      .exit 0))) (
    .trim [0, 4, 5] (
     .block 1 (
      .draw [⟨0, 0, 0, D 16 (.mv (T 4))⟩,
       ⟨1, 0, 0, D 17 (.mv (T 4))⟩,
       ⟨2, 0, 2, D 18 (.nil (T 17))⟩,
       ⟨3, 0, 6, D 19 (.fa 0 (T 18))⟩,
       ⟨4, 1, 14, D 20 (.ld1 (T 19))⟩,
       ⟨5, 0, 30, D 21 (.bin .mul (T 20) (I 256))⟩,
       ⟨6, 0, 0, D 22 (.mv (T 0))⟩,
       ⟨7, 0, 0, D 23 (.mv (T 5))⟩,
       ⟨8, 0, 192, D 24 (.ia 1 (T 22) (T 23))⟩,
       ⟨9, 1, 448, D 25 (.ld1 (T 24))⟩,
       ⟨10, 0, 960, D 26 (.cvi .i64 (T 25))⟩,
       ⟨11, 0, 2046, D 27 (.bin .add (T 21) (T 26))⟩,
       ⟨12, 0, 4095, D 28 (.nil (T 16))⟩,
       ⟨13, 0, 8191, D 29 (.fa 0 (T 28))⟩,
       ⟨14, 4, 16383, E (.st 1 (T 29) (T 27))⟩])) (
    .ops [D 14 (.mv (T 5)),
     D 15 (.bin .add (T 14) (I 1)),
     D 5 (.mv (T 15))])))))) (
 .seq (
  .ops [D 30 (.mv (T 4)),
   D 2 (.mv (T 30)),
   D 3 (.mv (I 0))]) (
 .ret)))))⟩
theorem dioramaref13_NewDecoder_ok : Ok Try.prog 30 dioramaref13_NewDecoder := ⟨by kernel_rfl, by kernel_rfl⟩

/-- diorama/dioramalaw13.read -/
def dioramalaw13_read : AF := ⟨43, [.tmp 6, .tmp 7, .tmp 8],
 .seq (
  .ops [D 4 (.box (T 1)),
   D 6 (.mv (I 0)),
   D 7 (.mv (.const (.slice none 0 0))),
   D 8 (.mv (I 0))]) (
 .trim [0, 2] (
  .seq (
   .ops [D 12 (.fa 0 (T 4)),
    D 13 (.ld1 (T 12))]) (
  .block 0 (
   .seq (
    .ops [D 15 (.bin .eql (T 13) (I 0)),
     D 14 (.mv (T 15))]) (
   .cond (T 14) (
    .trim [9, 10, 11] (
     .ops [D 17 (.mv (T 0)),
      D 18 (.mv (T 2)),
      D 19 (.ia 1 (T 18) (I 0)),
      D 20 (.ld1 (T 19)),
      D 21 (.call 40 [(T 17), (T 20)]),
      D 16 (.mv (T 21)),
      D 22 (.ext (T 16) 0),
      D 23 (.ext (T 16) 1),
      D 24 (.ext (T 16) 2),
      D 9 (.mv (T 22)),
      D 10 (.mv (T 23)),
      D 11 (.mv (T 24))]) (
    .seq (
     .ops [D 25 (.mv (T 9)),
      D 26 (.mv (T 10)),
      D 27 (.bslice [(.int .i64 0)] 1 [(0, 1, (T 26))]),
      D 28 (.mv (T 11)),
      D 6 (.mv (T 25)),
      D 7 (.mv (T 27)),
      D 8 (.mv (T 28))]) (
    .ret))) (
    .seq (
     .ops [D 30 (.bin .eql (T 13) (I 1)),
      D 29 (.mv (T 30))]) (
    .cond (T 29) (
     .trim [6, 7, 8] (
      .ops [D 31 (.mv (T 0)),
       D 32 (.mv (T 2)),
       D 33 (.call 41 [(T 31), (T 32)]),
       D 34 (.ext (T 33) 0),
       D 35 (.ext (T 33) 1),
       D 36 (.ext (T 33) 2),
       D 6 (.mv (T 34)),
       D 7 (.mv (T 35)),
       D 8 (.mv (T 36))]) (
     .ret)) (
     .skip))))))) (
 .trim [6, 7, 8] (
  .ops [D 37 (.mv (T 0)),
   D 38 (.mv (T 2)),
   D 39 (.call 42 [(T 37), (T 38)]),
   D 40 (.ext (T 39) 0),
   D 41 (.ext (T 39) 1),
   D 42 (.ext (T 39) 2),
   D 6 (.mv (T 40)),
   D 7 (.mv (T 41)),
   D 8 (.mv (T 42))]) (
 .ret)))⟩
theorem dioramalaw13_read_ok : Ok Try.prog 31 dioramalaw13_read := ⟨by kernel_rfl, by kernel_rfl⟩

/-- diorama/dioramalaw13.isRead -/
def dioramalaw13_isRead : AF := ⟨43, [.tmp 6, .tmp 7, .tmp 8],
 .seq (
  .ops [D 4 (.box (T 1)),
   D 6 (.mv (I 0)),
   D 7 (.mv (.const (.slice none 0 0))),
   D 8 (.mv (I 0))]) (
 .trim [0, 2] (
  .seq (
   .ops [D 12 (.fa 0 (T 4)),
    D 13 (.ld1 (T 12))]) (
  .block 0 (
   .seq (
    .ops [D 15 (.bin .eql (T 13) (I 0)),
     D 14 (.mv (T 15))]) (
   .cond (T 14) (
    .trim [9, 10, 11] (
     .ops [D 17 (.mv (T 0)),
      D 18 (.mv (T 2)),
      D 19 (.ia 1 (T 18) (I 0)),
      D 20 (.ld1 (T 19)),
      D 21 (.call 56 [(T 17), (T 20)]),
      D 16 (.mv (T 21)),
      D 22 (.ext (T 16) 0),
      D 23 (.ext (T 16) 1),
      D 24 (.ext (T 16) 2),
      D 9 (.mv (T 22)),
      D 10 (.mv (T 23)),
      D 11 (.mv (T 24))]) (
    .seq (
     .ops [D 25 (.mv (T 9)),
      D 26 (.mv (T 10)),
      D 27 (.bslice [(.int .i64 0)] 1 [(0, 1, (T 26))]),
      D 28 (.mv (T 11)),
      D 6 (.mv (T 25)),
      D 7 (.mv (T 27)),
      D 8 (.mv (T 28))]) (
    .ret))) (
    .seq (
     .ops [D 30 (.bin .eql (T 13) (I 1)),
      D 29 (.mv (T 30))]) (
    .cond (T 29) (
     .trim [6, 7, 8] (
      .ops [D 31 (.mv (T 0)),
       D 32 (.mv (T 2)),
       D 33 (.call 57 [(T 31), (T 32)]),
       D 34 (.ext (T 33) 0),
       D 35 (.ext (T 33) 1),
       D 36 (.ext (T 33) 2),
       D 6 (.mv (T 34)),
       D 7 (.mv (T 35)),
       D 8 (.mv (T 36))]) (
     .ret)) (
     .skip))))))) (
 .trim [6, 7, 8] (
  .ops [D 37 (.mv (T 0)),
   D 38 (.mv (T 2)),
   D 39 (.call 58 [(T 37), (T 38)]),
   D 40 (.ext (T 39) 0),
   D 41 (.ext (T 39) 1),
   D 42 (.ext (T 39) 2),
   D 6 (.mv (T 40)),
   D 7 (.mv (T 41)),
   D 8 (.mv (T 42))]) (
 .ret)))⟩
theorem dioramalaw13_isRead_ok : Ok Try.prog 32 dioramalaw13_isRead := ⟨by kernel_rfl, by kernel_rfl⟩

/-- (*diorama/arith.Decoder).Read -/
def arith_Decoder__Read : AF := ⟨9, [.tmp 2],
 .seq (
  .ops [D 2 (.mv (I 0))]) (
 .seq (
  .seq (
   .ops [D 3 (.mv (T 0)),
    D 4 (.nileq false 0 (T 3) (.const (.pointer none)))]) (
  .cond (T 4) (
   .seq (
    .ops [D 2 (.mv (I 0))]) (
   .ret)) (
   .skip))) (
 .seq (
  .ops [D 5 (.mv (T 0)),
   D 6 (.nil (T 5)),
   D 7 (.fa 1 (T 6)),
   D 8 (.ld1 (T 7)),
   D 2 (.mv (T 8))]) (
 .ret)))⟩
theorem arith_Decoder__Read_ok : Ok Try.prog 33 arith_Decoder__Read := ⟨by kernel_rfl, by kernel_rfl⟩

/-- diorama/arith.Pack -/
def arith_Pack : AF := ⟨76, [.tmp 4, .tmp 5],
 .seq (
  .ops [D 4 (.mv (.const (.slice none 0 0))),
   D 5 (.mv (I 0))]) (
 .trim [0, 1] (
  .seq (
   .ops [D 14 (.mv (T 0)),
    D 15 (.len (T 14)),
    D 16 (.mv (T 1)),
    D 17 (.len (T 16)),
    D 18 (.bin .neq (T 15) (T 17))]) (
  .cond (T 18) (
   .seq (
    .ops [D 4 (.mv (.const (.slice none 0 0))),
     D 5 (.mv (I 1))]) (
   .ret)) (
   .skip))) (
 .trim [0, 1] (
  .seq (
   .ops [D 19 (.mv (T 0)),
    D 20 (.len (T 19)),
    D 21 (.mv (I 0))]) (
  .block 0 (
   .loop [0, 1, 19, 20, 21] (
    .seq (
     .ops [D 22 (.bin .lss (T 21) (T 20))]) (
    .seq (
     .cond (T 22) (
      .skip) (
      .exit 0)) (
    .trim [0, 1, 19, 20, 21] (
     .block 1 (
      .seq (
       .ops [D 23 (.mv (T 21)),
        D 24 (.ia 1 (T 19) (T 21)),
        D 25 (.ld1 (T 24)),
        D 6 (.mv (T 23)),
        D 7 (.mv (T 25))]) (
      .trim [0, 1, 19, 20, 21, 39] (
       .ops [D 26 (.mv (T 7)),
        D 27 (.bin .neq (T 26) (I 0)),
        D 28 (.mv (T 27)),
        ⟨(some 29), some (28, true), .mv (T 7)⟩,
        ⟨(some 30), some (28, true), .bin .neq (T 29) (I 1)⟩,
        D 31 (.pick (T 28) (T 30) (.const (.bool false))),
        D 32 (.mv (T 31)),
        ⟨(some 33), some (32, false), .mv (T 1)⟩,
        ⟨(some 34), some (32, false), .mv (T 6)⟩,
        ⟨(some 35), some (32, false), .ia 1 (T 33) (T 34)⟩,
        ⟨(some 36), some (32, false), .ld1 (T 35)⟩,
        ⟨(some 37), some (32, false), .call 59 [(T 36)]⟩,
        ⟨(some 38), some (32, false), .un .not (T 37)⟩,
        D 39 (.pick (T 32) (.const (.bool true)) (T 38))]) (
      .cond (T 39) (
       .seq (
        .ops [D 4 (.mv (.const (.slice none 0 0))),
         D 5 (.mv (I 1))]) (
       .ret)) (
       .skip))))) (
    .ops [D 40 (.bin .add (T 21) (I 1)),
     D 21 (.mv (T 40))]))))))) (
 .trim [0, 1] (
  .seq (
   .ops [D 41 (.mv (T 0)),
    D 42 (.len (T 41)),
    D 43 (.bin .gtr (T 42) (I 1048577))]) (
  .cond (T 43) (
   .seq (
    .ops [D 4 (.mv (.const (.slice none 0 0))),
     D 5 (.mv (I 2))]) (
   .ret)) (
   .skip))) (
 .trim [0, 1, 8] (
  .ops [D 45 (.call 27 [(I 100)]),
   D 44 (.mv (T 45)),
   D 46 (.ext (T 44) 0),
   D 47 (.ext (T 44) 1),
   D 8 (.mv (T 46)),
   D 9 (.mv (T 47))]) (
 .seq (
  .ops [D 48 (.call 10 []),
   D 10 (.mv (T 48))]) (
 .trim [10] (
  .seq (
   .ops [D 49 (.mv (T 0)),
    D 50 (.len (T 49)),
    D 51 (.mv (I 0))]) (
  .block 2 (
   .loop [1, 8, 10, 49, 50, 51] (
    .seq (
     .ops [D 52 (.bin .lss (T 51) (T 50))]) (
    .seq (
     .cond (T 52) (
      .skip) (
      .exit 2)) (
    .trim [1, 8, 10, 49, 50, 51] (
     .block 3 (
      .seq (
       .ops [D 53 (.mv (T 51)),
        D 54 (.ia 1 (T 49) (T 51)),
        D 55 (.ld1 (T 54)),
        D 11 (.mv (T 53)),
        D 12 (.mv (T 55))]) (
      .seq (
       .ops [D 56 (.mv (T 1)),
        D 57 (.mv (T 11)),
        D 58 (.ia 1 (T 56) (T 57)),
        D 59 (.ld1 (T 58)),
        D 13 (.mv (T 59))]) (
      .ops [D 61 (.mv (T 8)),
       D 62 (.mv (T 13)),
       D 63 (.mv (T 10)),
       D 64 (.mv (T 8)),
       D 65 (.mv (T 13)),
       D 66 (.ia 1 (T 64) (T 65)),
       D 67 (.ld1 (T 66)),
       D 68 (.mv (T 12)),
       D 69 (.call 11 [(T 63), (T 67), (T 68)]),
       D 60 (.mv (T 69)),
       D 70 (.ext (T 60) 0),
       D 71 (.ext (T 60) 1),
       D 72 (.ia 1 (T 61) (T 62)),
       E (.st 1 (T 72) (T 70))])))) (
    .ops [D 73 (.bin .add (T 51) (I 1)),
     D 51 (.mv (T 73))]))))))) (
 .seq (
  .ops [D 74 (.mv (T 10)),
   D 75 (.call 12 [(T 74)]),
   D 4 (.mv (T 75)),
   D 5 (.mv (I 0))]) (
 .ret))))))))⟩
theorem arith_Pack_ok : Ok Try.prog 34 arith_Pack := ⟨by kernel_rfl, by kernel_rfl⟩

/-- diorama/dioramaref13.Pack -/
def dioramaref13_Pack : AF := ⟨80, [.tmp 4, .tmp 5],
 .seq (
  .ops [D 4 (.mv (.const (.slice none 0 0))),
   D 5 (.mv (I 0))]) (
 .trim [0, 1] (
  .trim [0, 1, 22] (
   .ops [D 13 (.mv (T 0)),
    D 14 (.len (T 13)),
    D 15 (.mv (T 1)),
    D 16 (.len (T 15)),
    D 17 (.bin .neq (T 14) (T 16)),
    D 18 (.mv (T 17)),
    ⟨(some 19), some (18, false), .mv (T 1)⟩,
    ⟨(some 20), some (18, false), .call 60 [(T 19)]⟩,
    ⟨(some 21), some (18, false), .un .not (T 20)⟩,
    D 22 (.pick (T 18) (.const (.bool true)) (T 21))]) (
  .cond (T 22) (
   .seq (
    .ops [D 4 (.mv (.const (.slice none 0 0))),
     D 5 (.mv (I 1))]) (
   .ret)) (
   .skip))) (
 .trim [0, 1] (
  .seq (
   .ops [D 6 (.mv (I 0))]) (
  .block 0 (
   .loop [0, 1, 6] (
    .seq (
     .seq (
      .ops [D 23 (.mv (T 6)),
       D 24 (.mv (T 0)),
       D 25 (.len (T 24)),
       D 26 (.bin .lss (T 23) (T 25))]) (
     .cond (T 26) (
      .skip) (
      .exit 0))) (
    .trim [0, 1, 6] (
     .block 1 (
      .trim [0, 1, 6, 40] (
       .ops [D 29 (.mv (T 0)),
        D 30 (.mv (T 6)),
        D 31 (.ia 1 (T 29) (T 30)),
        D 32 (.ld1 (T 31)),
        D 33 (.bin .neq (T 32) (I 0)),
        D 34 (.mv (T 33)),
        ⟨(some 35), some (34, true), .mv (T 0)⟩,
        ⟨(some 36), some (34, true), .mv (T 6)⟩,
        ⟨(some 37), some (34, true), .ia 1 (T 35) (T 36)⟩,
        ⟨(some 38), some (34, true), .ld1 (T 37)⟩,
        ⟨(some 39), some (34, true), .bin .neq (T 38) (I 1)⟩,
        D 40 (.pick (T 34) (T 39) (.const (.bool false)))]) (
      .cond (T 40) (
       .seq (
        .ops [D 4 (.mv (.const (.slice none 0 0))),
         D 5 (.mv (I 1))]) (
       .ret)) (
       .skip)))) (
    .ops [D 27 (.mv (T 6)),
     D 28 (.bin .add (T 27) (I 1)),
     D 6 (.mv (T 28))])))))) (
 .trim [0, 1, 7] (
  .ops [D 42 (.call 28 [(I 100)]),
   D 41 (.mv (T 42)),
   D 43 (.ext (T 41) 0),
   D 44 (.ext (T 41) 1),
   D 7 (.mv (T 43)),
   D 8 (.mv (T 44))]) (
 .seq (
  .ops [D 45 (.call 14 []),
   D 9 (.mv (T 45))]) (
 .trim [9] (
  .seq (
   .ops [D 10 (.mv (I 0))]) (
  .block 2 (
   .loop [0, 1, 7, 9, 10] (
    .seq (
     .seq (
      .ops [D 46 (.mv (T 10)),
       D 47 (.mv (T 0)),
       D 48 (.len (T 47)),
       D 49 (.bin .lss (T 46) (T 48))]) (
     .cond (T 49) (
      .skip) (
      .exit 2))) (
    .trim [0, 1, 7, 9, 10] (
     .block 3 (
      .trim [0, 1, 7, 9, 10, 11, 12] (
       .draw [⟨0, 0, 0, D 53 (.mv (T 9))⟩,
        ⟨1, 0, 0, D 54 (.mv (T 7))⟩,
        ⟨2, 0, 0, D 55 (.mv (T 1))⟩,
        ⟨3, 0, 0, D 56 (.mv (T 10))⟩,
        ⟨4, 0, 12, D 57 (.ia 1 (T 55) (T 56))⟩,
        ⟨5, 1, 28, D 58 (.ld1 (T 57))⟩,
        ⟨6, 0, 62, D 59 (.ia 1 (T 54) (T 58))⟩,
        ⟨7, 1, 126, D 60 (.ld1 (T 59))⟩,
        ⟨8, 0, 0, D 61 (.mv (T 0))⟩,
        ⟨9, 0, 0, D 62 (.mv (T 10))⟩,
        ⟨10, 0, 768, D 63 (.ia 1 (T 61) (T 62))⟩,
        ⟨11, 1, 1792, D 64 (.ld1 (T 63))⟩,
        ⟨12, 4, 4095, D 65 (.call 50 [(T 53), (T 60), (T 64)])⟩,
        ⟨13, 0, 8191, D 52 (.mv (T 65))⟩,
        ⟨14, 0, 16383, D 66 (.ext (T 52) 0)⟩,
        ⟨15, 0, 16383, D 67 (.ext (T 52) 1)⟩,
        ⟨16, 0, 32767, D 11 (.mv (T 66))⟩,
        ⟨17, 0, 131071, D 12 (.mv (T 67))⟩]) (
      .trim [0, 1, 7, 9, 10, 11] (
       .seq (
        .ops [D 68 (.mv (T 12)),
         D 69 (.bin .neq (T 68) (I 0))]) (
       .cond (T 69) (
        .seq (
         .ops [D 70 (.mv (T 12)),
          D 4 (.mv (.const (.slice none 0 0))),
          D 5 (.mv (T 70))]) (
        .ret)) (
        .skip))) (
      .ops [D 71 (.mv (T 7)),
       D 72 (.mv (T 1)),
       D 73 (.mv (T 10)),
       D 74 (.ia 1 (T 72) (T 73)),
       D 75 (.ld1 (T 74)),
       D 76 (.mv (T 11)),
       D 77 (.ia 1 (T 71) (T 75)),
       E (.st 1 (T 77) (T 76))])))) (
    .ops [D 50 (.mv (T 10)),
     D 51 (.bin .add (T 50) (I 1)),
     D 10 (.mv (T 51))])))))) (
 .seq (
  .ops [D 78 (.mv (T 9)),
   D 79 (.call 23 [(T 78)]),
   D 4 (.mv (T 79)),
   D 5 (.mv (I 0))]) (
 .ret)))))))⟩
theorem dioramaref13_Pack_ok : Ok Try.prog 35 dioramaref13_Pack := ⟨by kernel_rfl, by kernel_rfl⟩

/-- diorama/arith.Unpack -/
def arith_Unpack : AF := ⟨59, [.tmp 4, .tmp 5],
 .seq (
  .ops [D 4 (.mv (.const (.slice none 0 0))),
   D 5 (.mv (I 0))]) (
 .seq (
  .seq (
   .ops [D 16 (.mv (T 1)),
    D 17 (.call 61 [(T 16), (.func 62)])]) (
  .cond (T 17) (
   .seq (
    .ops [D 4 (.mv (.const (.slice none 0 0))),
     D 5 (.mv (I 1))]) (
   .ret)) (
   .skip))) (
 .trim [1, 6, 7] (
  .ops [D 19 (.mv (T 0)),
   D 20 (.call 29 [(T 19)]),
   D 18 (.mv (T 20)),
   D 21 (.ext (T 18) 0),
   D 22 (.ext (T 18) 1),
   D 6 (.mv (T 21)),
   D 7 (.mv (T 22))]) (
 .trim [1, 6] (
  .seq (
   .ops [D 23 (.mv (T 7)),
    D 24 (.bin .neq (T 23) (I 0))]) (
  .cond (T 24) (
   .seq (
    .ops [D 25 (.mv (T 7)),
     D 4 (.mv (.const (.slice none 0 0))),
     D 5 (.mv (T 25))]) (
   .ret)) (
   .skip))) (
 .trim [1, 6, 8] (
  .ops [D 27 (.call 27 [(I 100)]),
   D 26 (.mv (T 27)),
   D 28 (.ext (T 26) 0),
   D 29 (.ext (T 26) 1),
   D 8 (.mv (T 28)),
   D 9 (.mv (T 29))]) (
 .seq (
  .ops [D 10 (.mv (.const (.slice none 0 0)))]) (
 .trim [10] (
  .seq (
   .ops [D 30 (.mv (T 1)),
    D 31 (.len (T 30)),
    D 32 (.mv (I 0))]) (
  .block 0 (
   .loop [6, 8, 10, 30, 31, 32] (
    .seq (
     .ops [D 33 (.bin .lss (T 32) (T 31))]) (
    .seq (
     .cond (T 33) (
      .skip) (
      .exit 0)) (
    .trim [6, 8, 10, 30, 31, 32] (
     .block 1 (
      .seq (
       .ops [D 34 (.ia 1 (T 30) (T 32)),
        D 35 (.ld1 (T 34)),
        D 12 (.mv (T 35))]) (
      .trim [6, 8, 10, 12, 13, 14, 15, 30, 31, 32] (
       .ops [D 37 (.mv (T 6)),
        D 38 (.mv (T 8)),
        D 39 (.mv (T 12)),
        D 40 (.ia 1 (T 38) (T 39)),
        D 41 (.ld1 (T 40)),
        D 42 (.call 40 [(T 37), (T 41)]),
        D 36 (.mv (T 42)),
        D 43 (.ext (T 36) 0),
        D 44 (.ext (T 36) 1),
        D 45 (.ext (T 36) 2),
        D 13 (.mv (T 43)),
        D 14 (.mv (T 44)),
        D 15 (.mv (T 45))]) (
      .trim [6, 8, 10, 12, 13, 14, 30, 31, 32] (
       .seq (
        .ops [D 46 (.mv (T 15)),
         D 47 (.bin .neq (T 46) (I 0))]) (
       .cond (T 47) (
        .seq (
         .ops [D 48 (.mv (T 15)),
          D 4 (.mv (.const (.slice none 0 0))),
          D 5 (.mv (T 48))]) (
        .ret)) (
        .skip))) (
      .seq (
       .ops [D 49 (.mv (T 8)),
        D 50 (.mv (T 12)),
        D 51 (.mv (T 14)),
        D 52 (.ia 1 (T 49) (T 50)),
        E (.st 1 (T 52) (T 51))]) (
      .ops [D 53 (.mv (T 10)),
       D 54 (.mv (T 13)),
       D 55 (.bslice [(.int .i64 0)] 1 [(0, 1, (T 54))]),
       D 56 (.app 1 8 (T 53) (T 55)),
       D 10 (.mv (T 56))])))))) (
    .ops [D 57 (.bin .add (T 32) (I 1)),
     D 32 (.mv (T 57))]))))))) (
 .seq (
  .ops [D 58 (.mv (T 10)),
   D 4 (.mv (T 58)),
   D 5 (.mv (I 0))]) (
 .ret))))))))⟩
theorem arith_Unpack_ok : Ok Try.prog 36 arith_Unpack := ⟨by kernel_rfl, by kernel_rfl⟩

/-- diorama/dioramaref13.Unpack -/
def dioramaref13_Unpack : AF := ⟨64, [.tmp 4, .tmp 5],
 .seq (
  .ops [D 4 (.mv (.const (.slice none 0 0))),
   D 5 (.mv (I 0))]) (
 .trim [0, 1] (
  .seq (
   .ops [D 15 (.mv (T 1)),
    D 16 (.call 60 [(T 15)]),
    D 17 (.un .not (T 16))]) (
  .cond (T 17) (
   .seq (
    .ops [D 4 (.mv (.const (.slice none 0 0))),
     D 5 (.mv (I 1))]) (
   .ret)) (
   .skip))) (
 .trim [1, 6, 7] (
  .ops [D 19 (.mv (T 0)),
   D 20 (.call 30 [(T 19)]),
   D 18 (.mv (T 20)),
   D 21 (.ext (T 18) 0),
   D 22 (.ext (T 18) 1),
   D 6 (.mv (T 21)),
   D 7 (.mv (T 22))]) (
 .trim [1, 6] (
  .seq (
   .ops [D 23 (.mv (T 7)),
    D 24 (.bin .neq (T 23) (I 0))]) (
  .cond (T 24) (
   .seq (
    .ops [D 25 (.mv (T 7)),
     D 4 (.mv (.const (.slice none 0 0))),
     D 5 (.mv (T 25))]) (
   .ret)) (
   .skip))) (
 .trim [1, 6, 8] (
  .ops [D 27 (.call 28 [(I 100)]),
   D 26 (.mv (T 27)),
   D 28 (.ext (T 26) 0),
   D 29 (.ext (T 26) 1),
   D 8 (.mv (T 28)),
   D 9 (.mv (T 29))]) (
 .seq (
  .ops [D 10 (.mv (.const (.slice none 0 0)))]) (
 .trim [10] (
  .seq (
   .ops [D 11 (.mv (I 0))]) (
  .block 0 (
   .loop [1, 6, 8, 10, 11] (
    .seq (
     .seq (
      .ops [D 30 (.mv (T 11)),
       D 31 (.mv (T 1)),
       D 32 (.len (T 31)),
       D 33 (.bin .lss (T 30) (T 32))]) (
     .cond (T 33) (
      .skip) (
      .exit 0))) (
    .trim [1, 6, 8, 10, 11] (
     .block 1 (
      .trim [1, 6, 8, 10, 11, 12, 13, 14] (
       .ops [D 37 (.mv (T 6)),
        D 38 (.mv (T 8)),
        D 39 (.mv (T 1)),
        D 40 (.mv (T 11)),
        D 41 (.ia 1 (T 39) (T 40)),
        D 42 (.ld1 (T 41)),
        D 43 (.ia 1 (T 38) (T 42)),
        D 44 (.ld1 (T 43)),
        D 45 (.call 56 [(T 37), (T 44)]),
        D 36 (.mv (T 45)),
        D 46 (.ext (T 36) 0),
        D 47 (.ext (T 36) 1),
        D 48 (.ext (T 36) 2),
        D 12 (.mv (T 46)),
        D 13 (.mv (T 47)),
        D 14 (.mv (T 48))]) (
      .trim [1, 6, 8, 10, 11, 12, 13] (
       .seq (
        .ops [D 49 (.mv (T 14)),
         D 50 (.bin .neq (T 49) (I 0))]) (
       .cond (T 50) (
        .seq (
         .ops [D 51 (.mv (T 14)),
          D 4 (.mv (.const (.slice none 0 0))),
          D 5 (.mv (T 51))]) (
        .ret)) (
        .skip))) (
      .trim [1, 6, 8, 10, 11, 12] (
       .ops [D 52 (.mv (T 8)),
        D 53 (.mv (T 1)),
        D 54 (.mv (T 11)),
        D 55 (.ia 1 (T 53) (T 54)),
        D 56 (.ld1 (T 55)),
        D 57 (.mv (T 13)),
        D 58 (.ia 1 (T 52) (T 56)),
        E (.st 1 (T 58) (T 57))]) (
      .ops [D 59 (.mv (T 10)),
       D 60 (.mv (T 12)),
       D 61 (.bslice [(.int .i64 0)] 1 [(0, 1, (T 60))]),
       D 62 (.app 1 8 (T 59) (T 61)),
       D 10 (.mv (T 62))]))))) (
    .ops [D 34 (.mv (T 11)),
     D 35 (.bin .add (T 34) (I 1)),
     D 11 (.mv (T 35))])))))) (
 .seq (
  .ops [D 63 (.mv (T 10)),
   D 4 (.mv (T 63)),
   D 5 (.mv (I 0))]) (
 .ret))))))))⟩
theorem dioramaref13_Unpack_ok : Ok Try.prog 37 dioramaref13_Unpack := ⟨by kernel_rfl, by kernel_rfl⟩

/-- (*diorama/arith.Encoder).Number -/
def arith_Encoder__Number : AF := ⟨85, [.tmp 6, .tmp 7],
 .seq (
  .ops [D 3 (.box (T 0)),
   D 6 (.mv (.const (.slice none 0 0))),
   D 7 (.mv (I 0))]) (
 .trim [1, 2, 3] (
  .seq (
   .ops [D 15 (.ld1 (T 3)),
    D 16 (.call 44 [(T 15)]),
    D 17 (.un .not (T 16))]) (
  .cond (T 17) (
   .seq (
    .ops [D 6 (.mv (.const (.slice none 0 0))),
     D 7 (.mv (I 4))]) (
   .ret)) (
   .skip))) (
 .trim [1, 2, 3] (
  .seq (
   .ops [D 18 (.mv (T 1)),
    D 19 (.len (T 18)),
    D 20 (.bin .neq (T 19) (I 32))]) (
  .cond (T 20) (
   .seq (
    .ops [D 6 (.mv (.const (.slice none 0 0))),
     D 7 (.mv (I 130))]) (
   .ret)) (
   .skip))) (
 .trim [1, 2, 3] (
  .trim [1, 2, 3, 8] (
   .ops [D 21 (.ld1 (T 3)),
    D 22 (.mv (T 1)),
    D 23 (.mv (T 2)),
    D 24 (.bin .geq (T 23) (I 0)),
    D 25 (.mv (T 24)),
    ⟨(some 26), some (25, true), .mv (T 2)⟩,
    ⟨(some 27), some (25, true), .bin .lss (T 26) (I 1048576)⟩,
    D 28 (.pick (T 25) (T 27) (.const (.bool false))),
    D 29 (.call 45 [(T 21), (T 22), (T 28)]),
    D 8 (.mv (T 29))]) (
  .seq (
   .ops [D 30 (.mv (T 8)),
    D 31 (.bin .neq (T 30) (I 0))]) (
  .cond (T 31) (
   .seq (
    .ops [D 32 (.mv (T 8)),
     D 6 (.mv (.const (.slice none 0 0))),
     D 7 (.mv (T 32))]) (
   .ret)) (
   .skip)))) (
 .seq (
  .ops [D 9 (.alloc (List.replicate 32 (.int .i64 0)))]) (
 .seq (
  .ops [D 33 (.slca 32 1 (T 9) none none none),
   D 34 (.mv (T 1)),
   D 35 (.cpy 1 (T 33) (T 34))]) (
 .seq (
  .ops [D 36 (.mkf 63 [] [(T 3), (T 9)]),
   D 10 (.mv (T 36))]) (
 .seq (
  .ops [D 37 (.mv (T 2)),
   D 38 (.bin .add (T 37) (I 1)),
   D 11 (.mv (T 38))]) (
 .seq (
  .ops [D 39 (.mv (T 11)),
   D 40 (.call 64 [(T 39)]),
   D 12 (.mv (T 40))]) (
 .trim [3, 9, 10, 11, 12] (
  .seq (
   .ops [D 41 (.mv (T 12)),
    D 42 (.bin .sub (T 41) (I 1)),
    D 43 (.mv (I 0))]) (
  .block 0 (
   .loop [3, 9, 10, 11, 12, 42, 43] (
    .seq (
     .ops [D 44 (.bin .lss (T 43) (T 42))]) (
    .seq (
     .cond (T 44) (
      .skip) (
      .exit 0)) (
    .trim [3, 9, 10, 11, 12, 42, 43] (
     .block 1 (
      .seq (
       .ops [D 45 (.mv (T 43)),
        D 13 (.mv (T 45))]) (
      .ops [D 46 (.mv (T 10)),
       D 47 (.mv (T 13)),
       D 48 (.mn [(T 47), (I 15)]),
       D 49 (.bin .add (I 0) (T 48)),
       D 50 (.callv (T 46) [(T 49), (I 1)])]))) (
    .ops [D 51 (.bin .add (T 43) (I 1)),
     D 43 (.mv (T 51))]))))))) (
 .trim [3, 9, 10, 11, 12] (
  .ops [D 52 (.mv (T 10)),
   D 53 (.mv (T 12)),
   D 54 (.bin .sub (T 53) (I 1)),
   D 55 (.mn [(T 54), (I 15)]),
   D 56 (.bin .add (I 0) (T 55)),
   D 57 (.callv (T 52) [(T 56), (I 0)])]) (
 .trim [9] (
  .seq (
   .ops [D 58 (.mv (T 12)),
    D 59 (.bin .sub (T 58) (I 2)),
    D 14 (.mv (T 59))]) (
  .block 2 (
   .loop [3, 9, 10, 11, 12, 14] (
    .seq (
     .seq (
      .ops [D 60 (.mv (T 14)),
       D 61 (.bin .geq (T 60) (I 0))]) (
     .cond (T 61) (
      .skip) (
      .exit 2))) (
    .trim [3, 9, 10, 11, 12, 14] (
     .block 3 (
      .seq (
       .ops [D 64 (.mv (T 14)),
        D 65 (.mv (T 12)),
        D 66 (.bin .sub (T 65) (I 2)),
        D 67 (.bin .eql (T 64) (T 66))]) (
      .cond (T 67) (
       .ops [D 68 (.mv (T 10)),
        D 69 (.mv (T 12)),
        D 70 (.bin .sub (T 69) (I 1)),
        D 71 (.mn [(T 70), (I 15)]),
        D 72 (.bin .add (I 16) (T 71)),
        D 73 (.mv (T 11)),
        D 74 (.mv (T 14)),
        D 75 (.bin .shr (T 73) (T 74)),
        D 76 (.bin .and (T 75) (I 1)),
        D 77 (.callv (T 68) [(T 72), (T 76)])]) (
       .draw [⟨0, 1, 0, D 78 (.ld1 (T 3))⟩,
        ⟨1, 0, 0, D 79 (.mv (T 11))⟩,
        ⟨2, 0, 0, D 80 (.mv (T 14))⟩,
        ⟨3, 0, 6, D 81 (.bin .shr (T 79) (T 80))⟩,
        ⟨4, 0, 14, D 82 (.bin .and (T 81) (I 1))⟩,
        ⟨5, 4, 31, D 83 (.call 46 [(T 78), (I 2048), (T 82)])⟩])))) (
    .ops [D 62 (.mv (T 14)),
     D 63 (.bin .sub (T 62) (I 1)),
     D 14 (.mv (T 63))])))))) (
 .seq (
  .ops [D 84 (.slca 32 1 (T 9) none none none),
   D 6 (.mv (T 84)),
   D 7 (.mv (I 0))]) (
 .ret)))))))))))))⟩
theorem arith_Encoder__Number_ok : Ok Try.prog 38 arith_Encoder__Number := ⟨by kernel_rfl, by kernel_rfl⟩

/-- (*diorama/arith.Encoder).Signed -/
def arith_Encoder__Signed : AF := ⟨38, [.tmp 6, .tmp 7],
 .seq (
  .ops [D 6 (.mv (.const (.slice none 0 0))),
   D 7 (.mv (I 0))]) (
 .seq (
  .ops [D 8 (.mv (I (-1)))]) (
 .cut [0, 1, 8] (
  .seq (
   .ops [D 9 (.mv (I 524288))]) (
  .block 0 (
   .trim [0, 1, 2, 8, 9, 10] (
    .ops [D 11 (.mv (T 2)),
     D 12 (.bin .geq (T 11) (I 0)),
     D 13 (.mv (T 12)),
     ⟨(some 14), some (13, true), .mv (T 2)⟩,
     ⟨(some 15), some (13, true), .mv (T 9)⟩,
     ⟨(some 16), some (13, true), .bin .lss (T 14) (T 15)⟩,
     D 17 (.pick (T 13) (T 16) (.const (.bool false))),
     D 10 (.mv (T 17))]) (
   .cond (T 10) (
    .ops [D 18 (.mv (T 2)),
     D 19 (.bin .mul (I 2) (T 18)),
     D 8 (.mv (T 19))]) (
    .trim [0, 1, 2, 8, 20] (
     .ops [D 21 (.mv (T 2)),
      D 22 (.bin .lss (T 21) (I 0)),
      D 23 (.mv (T 22)),
      ⟨(some 24), some (23, true), .mv (T 2)⟩,
      ⟨(some 25), some (23, true), .mv (T 9)⟩,
      ⟨(some 26), some (23, true), .un .neg (T 25)⟩,
      ⟨(some 27), some (23, true), .bin .geq (T 24) (T 26)⟩,
      D 28 (.pick (T 23) (T 27) (.const (.bool false))),
      D 20 (.mv (T 28))]) (
    .cond (T 20) (
     .ops [D 29 (.mv (T 2)),
      D 30 (.bin .mul (I (-2)) (T 29)),
      D 31 (.bin .sub (T 30) (I 1)),
      D 8 (.mv (T 31))]) (
     .skip))))))) (
 .trim [6, 7] (
  .ops [D 32 (.mv (T 0)),
   D 33 (.mv (T 1)),
   D 34 (.mv (T 8)),
   D 35 (.call 38 [(T 32), (T 33), (T 34)]),
   D 36 (.ext (T 35) 0),
   D 37 (.ext (T 35) 1),
   D 6 (.mv (T 36)),
   D 7 (.mv (T 37))]) (
 .ret))))⟩
theorem arith_Encoder__Signed_ok : Ok Try.prog 39 arith_Encoder__Signed := ⟨by kernel_rfl, by kernel_rfl⟩

/-- (*diorama/arith.Decoder).Bit -/
def arith_Decoder__Bit : AF := ⟨33, [.tmp 4, .tmp 5, .tmp 6],
 .seq (
  .ops [D 4 (.mv (I 0)),
   D 5 (.mv (I 0)),
   D 6 (.mv (I 0))]) (
 .trim [0, 1] (
  .seq (
   .ops [D 9 (.mv (T 0)),
    D 10 (.nileq false 0 (T 9) (.const (.pointer none)))]) (
  .cond (T 10) (
   .seq (
    .ops [D 4 (.mv (I 0)),
     D 5 (.mv (I 0)),
     D 6 (.mv (I 4))]) (
   .ret)) (
   .skip))) (
 .trim [0, 1] (
  .seq (
   .ops [D 11 (.mv (T 1)),
    D 12 (.call 53 [(T 11)]),
    D 13 (.un .not (T 12))]) (
  .cond (T 13) (
   .seq (
    .ops [D 4 (.mv (I 0)),
     D 5 (.mv (I 0)),
     D 6 (.mv (I 130))]) (
   .ret)) (
   .skip))) (
 .seq (
  .ops [D 14 (.mv (T 0)),
   D 15 (.nil (T 14)),
   D 16 (.ldN 4 (T 15)),
   D 7 (.alloc [(.slice none 0 0), (.int .i64 0), (.int .u64 0), (.int .u64 0)]),
   E (.st 4 (T 7) (T 16))]) (
 .trim [0, 1, 4, 7, 8] (
  .ops [D 18 (.mv (T 0)),
   D 19 (.mv (T 1)),
   D 20 (.call 65 [(T 18), (T 19)]),
   D 17 (.mv (T 20)),
   D 21 (.ext (T 17) 0),
   D 22 (.ext (T 17) 1),
   D 4 (.mv (T 21)),
   D 8 (.mv (T 22))]) (
 .trim [1, 4] (
  .seq (
   .ops [D 23 (.mv (T 8)),
    D 24 (.bin .neq (T 23) (I 0))]) (
  .cond (T 24) (
   .seq (
    .ops [D 25 (.mv (T 0)),
     D 26 (.ldN 4 (T 7)),
     D 27 (.nil (T 25)),
     E (.st 4 (T 27) (T 26))]) (
   .seq (
    .ops [D 28 (.mv (T 8)),
     D 4 (.mv (I 0)),
     D 5 (.mv (I 0)),
     D 6 (.mv (T 28))]) (
   .ret))) (
   .skip))) (
 .seq (
  .ops [D 29 (.mv (T 4)),
   D 30 (.mv (T 1)),
   D 31 (.mv (T 4)),
   D 32 (.call 47 [(T 30), (T 31)]),
   D 4 (.mv (T 29)),
   D 5 (.mv (T 32)),
   D 6 (.mv (I 0))]) (
 .ret)))))))⟩
theorem arith_Decoder__Bit_ok : Ok Try.prog 40 arith_Decoder__Bit := ⟨by kernel_rfl, by kernel_rfl⟩

/-- (*diorama/arith.Decoder).Number -/
def arith_Decoder__Number : AF := ⟨39, [.tmp 4, .tmp 5, .tmp 6],
 .seq (
  .ops [D 4 (.mv (I 0)),
   D 5 (.mv (.const (.slice none 0 0))),
   D 6 (.mv (I 0))]) (
 .trim [0, 1] (
  .seq (
   .ops [D 11 (.mv (T 0)),
    D 12 (.nileq false 0 (T 11) (.const (.pointer none)))]) (
  .cond (T 12) (
   .seq (
    .ops [D 4 (.mv (I 0)),
     D 5 (.mv (.const (.slice none 0 0))),
     D 6 (.mv (I 4))]) (
   .ret)) (
   .skip))) (
 .trim [0, 1] (
  .trim [0, 1, 19] (
   .ops [D 13 (.mv (T 1)),
    D 14 (.len (T 13)),
    D 15 (.bin .neq (T 14) (I 32)),
    D 16 (.mv (T 15)),
    ⟨(some 17), some (16, false), .mv (T 1)⟩,
    ⟨(some 18), some (16, false), .call 61 [(T 17), (.func 66)]⟩,
    D 19 (.pick (T 16) (.const (.bool true)) (T 18))]) (
  .cond (T 19) (
   .seq (
    .ops [D 4 (.mv (I 0)),
     D 5 (.mv (.const (.slice none 0 0))),
     D 6 (.mv (I 130))]) (
   .ret)) (
   .skip))) (
 .seq (
  .ops [D 20 (.mv (T 0)),
   D 21 (.nil (T 20)),
   D 22 (.ldN 4 (T 21)),
   D 7 (.alloc [(.slice none 0 0), (.int .i64 0), (.int .u64 0), (.int .u64 0)]),
   E (.st 4 (T 7) (T 22))]) (
 .seq (
  .ops [D 8 (.alloc (List.replicate 32 (.int .i64 0)))]) (
 .seq (
  .ops [D 23 (.slca 32 1 (T 8) none none none),
   D 24 (.mv (T 1)),
   D 25 (.cpy 1 (T 23) (T 24))]) (
 .trim [0, 7, 8, 9, 10] (
  .ops [D 27 (.mv (T 0)),
   D 28 (.call 67 [(T 27), (T 8)]),
   D 26 (.mv (T 28)),
   D 29 (.ext (T 26) 0),
   D 30 (.ext (T 26) 1),
   D 9 (.mv (T 29)),
   D 10 (.mv (T 30))]) (
 .trim [8, 9] (
  .seq (
   .ops [D 31 (.mv (T 10)),
    D 32 (.bin .neq (T 31) (I 0))]) (
  .cond (T 32) (
   .seq (
    .ops [D 33 (.mv (T 0)),
     D 34 (.ldN 4 (T 7)),
     D 35 (.nil (T 33)),
     E (.st 4 (T 35) (T 34))]) (
   .seq (
    .ops [D 36 (.mv (T 10)),
     D 4 (.mv (I 0)),
     D 5 (.mv (.const (.slice none 0 0))),
     D 6 (.mv (T 36))]) (
   .ret))) (
   .skip))) (
 .seq (
  .draw [⟨0, 0, 0, D 37 (.mv (T 9))⟩,
   ⟨1, 0, 0, D 38 (.slca 32 1 (T 8) none none none)⟩,
   ⟨2, 0, 1, D 4 (.mv (T 37))⟩,
   ⟨3, 0, 7, D 5 (.mv (T 38))⟩,
   ⟨4, 0, 15, D 6 (.mv (I 0))⟩]) (
 .ret)))))))))⟩
theorem arith_Decoder__Number_ok : Ok Try.prog 41 arith_Decoder__Number := ⟨by kernel_rfl, by kernel_rfl⟩

/-- (*diorama/arith.Decoder).Signed -/
def arith_Decoder__Signed : AF := ⟨31, [.tmp 4, .tmp 5, .tmp 6],
 .seq (
  .ops [D 4 (.mv (I 0)),
   D 5 (.mv (.const (.slice none 0 0))),
   D 6 (.mv (I 0))]) (
 .trim [7, 8, 9] (
  .ops [D 11 (.mv (T 0)),
   D 12 (.mv (T 1)),
   D 13 (.call 41 [(T 11), (T 12)]),
   D 10 (.mv (T 13)),
   D 14 (.ext (T 10) 0),
   D 15 (.ext (T 10) 1),
   D 16 (.ext (T 10) 2),
   D 7 (.mv (T 14)),
   D 8 (.mv (T 15)),
   D 9 (.mv (T 16))]) (
 .trim [7, 8] (
  .seq (
   .ops [D 17 (.mv (T 9)),
    D 18 (.bin .neq (T 17) (I 0))]) (
  .cond (T 18) (
   .seq (
    .ops [D 19 (.mv (T 9)),
     D 4 (.mv (I 0)),
     D 5 (.mv (.const (.slice none 0 0))),
     D 6 (.mv (T 19))]) (
   .ret)) (
   .skip))) (
 .trim [7, 8] (
  .seq (
   .ops [D 20 (.mv (T 7)),
    D 21 (.bin .and (T 20) (I 1)),
    D 22 (.bin .eql (T 21) (I 1))]) (
  .cond (T 22) (
   .trim [4, 5, 6] (
    .ops [D 23 (.mv (T 7)),
     D 24 (.bin .add (T 23) (I 1)),
     D 25 (.un .neg (T 24)),
     D 26 (.bin .quo (T 25) (I 2)),
     D 27 (.mv (T 8)),
     D 4 (.mv (T 26)),
     D 5 (.mv (T 27)),
     D 6 (.mv (I 0))]) (
   .ret)) (
   .skip))) (
 .seq (
  .ops [D 28 (.mv (T 7)),
   D 29 (.bin .quo (T 28) (I 2)),
   D 30 (.mv (T 8)),
   D 4 (.mv (T 29)),
   D 5 (.mv (T 30)),
   D 6 (.mv (I 0))]) (
 .ret)))))⟩
theorem arith_Decoder__Signed_ok : Ok Try.prog 42 arith_Decoder__Signed := ⟨by kernel_rfl, by kernel_rfl⟩

/-- diorama/dioramaref00.CopyBytes -/
def dioramaref00_CopyBytes : AF := ⟨22, [.tmp 2],
 .seq (
  .ops [D 2 (.mv (.const (.slice none 0 0)))]) (
 .seq (
  .ops [D 5 (.mv (T 0)),
   D 6 (.len (T 5)),
   D 7 (.mks [(.int .u8 0)] 1 (I 0) (T 6)),
   D 3 (.mv (T 7))]) (
 .trim [3] (
  .seq (
   .ops [D 4 (.mv (I 0))]) (
  .block 0 (
   .loop [0, 3, 4] (
    .seq (
     .seq (
      .ops [D 8 (.mv (T 4)),
       D 9 (.mv (T 0)),
       D 10 (.len (T 9)),
       D 11 (.bin .lss (T 8) (T 10))]) (
     .cond (T 11) (
      .skip) (
      .exit 0))) (
    .trim [0, 3, 4] (
     .block 1 (
      .ops [D 14 (.mv (T 3)),
       D 15 (.mv (T 0)),
       D 16 (.mv (T 4)),
       D 17 (.ia 1 (T 15) (T 16)),
       D 18 (.ld1 (T 17)),
       D 19 (.bslice [(.int .u8 0)] 1 [(0, 1, (T 18))]),
       D 20 (.app 1 1 (T 14) (T 19)),
       D 3 (.mv (T 20))])) (
    .ops [D 12 (.mv (T 4)),
     D 13 (.bin .add (T 12) (I 1)),
     D 4 (.mv (T 13))])))))) (
 .seq (
  .ops [D 21 (.mv (T 3)),
   D 2 (.mv (T 21))]) (
 .ret))))⟩
theorem dioramaref00_CopyBytes_ok : Ok Try.prog 43 dioramaref00_CopyBytes := ⟨by kernel_rfl, by kernel_rfl⟩

/-- (*diorama/arith.Encoder).usable -/
def arith_Encoder__usable : AF := ⟨17, [.tmp 2],
 .seq (
  .ops [D 2 (.mv (.const (.bool false)))]) (
 .trim [0] (
  .trim [0, 11] (
   .ops [D 3 (.mv (T 0)),
    D 4 (.nileq true 0 (T 3) (.const (.pointer none))),
    D 5 (.mv (T 4)),
    ⟨(some 6), some (5, true), .mv (T 0)⟩,
    ⟨(some 7), some (5, true), .nil (T 6)⟩,
    ⟨(some 8), some (5, true), .fa 1 (T 7)⟩,
    ⟨(some 9), some (5, true), .ld1 (T 8)⟩,
    ⟨(some 10), some (5, true), .bin .eql (T 9) (.const (.int .u64 0))⟩,
    D 11 (.pick (T 5) (T 10) (.const (.bool false)))]) (
  .cond (T 11) (
   .ops [D 12 (.mv (T 0)),
    D 13 (.nil (T 12)),
    D 14 (.fa 1 (T 13)),
    E (.st 1 (T 14) (.const (.int .u64 4294967295)))]) (
   .skip))) (
 .seq (
  .ops [D 15 (.mv (T 0)),
   D 16 (.nileq true 0 (T 15) (.const (.pointer none))),
   D 2 (.mv (T 16))]) (
 .ret)))⟩
theorem arith_Encoder__usable_ok : Ok Try.prog 44 arith_Encoder__usable := ⟨by kernel_rfl, by kernel_rfl⟩

/-- (*diorama/arith.Encoder).ready -/
def arith_Encoder__ready : AF := ⟨19, [.tmp 6],
 .seq (
  .ops [D 6 (.mv (I 0))]) (
 .trim [] (
  .block 0 (
   .seq (
    .ops [D 8 (.mv (T 1)),
     D 9 (.call 61 [(T 8), (.func 68)]),
     D 7 (.mv (T 9))]) (
   .cond (T 7) (
    .seq (
     .ops [D 6 (.mv (I 130))]) (
    .ret)) (
    .seq (
     .ops [D 11 (.mv (T 2)),
      D 12 (.un .not (T 11)),
      D 10 (.mv (T 12))]) (
    .cond (T 10) (
     .seq (
      .ops [D 6 (.mv (I 1))]) (
     .ret)) (
     .trim [13] (
      .ops [D 14 (.mv (T 0)),
       D 15 (.nil (T 14)),
       D 16 (.fa 3 (T 15)),
       D 17 (.ld1 (T 16)),
       D 18 (.bin .gtr (T 17) (I 1048576)),
       D 13 (.mv (T 18))]) (
     .cond (T 13) (
      .seq (
       .ops [D 6 (.mv (I 2))]) (
      .ret)) (
      .skip)))))))) (
 .seq (
  .ops [D 6 (.mv (I 0))]) (
 .ret)))⟩
theorem arith_Encoder__ready_ok : Ok Try.prog 45 arith_Encoder__ready := ⟨by kernel_rfl, by kernel_rfl⟩

/-- (*diorama/arith.Encoder).put -/
def arith_Encoder__put : AF := ⟨97, [],
 .trim [0, 2, 6] (
  .ops [D 7 (.mv (T 0)),
   D 8 (.nil (T 7)),
   D 9 (.fa 1 (T 8)),
   D 10 (.ld1 (T 9)),
   D 11 (.shrc (T 10) 12),
   D 12 (.mv (T 1)),
   D 13 (.cvi .u64 (T 12)),
   D 14 (.bin .mul (T 11) (T 13)),
   D 6 (.mv (T 14))]) (
 .cut [0] (
  .seq (
   .ops [D 15 (.mv (T 2)),
    D 16 (.bin .eql (T 15) (I 0))]) (
  .cond (T 16) (
   .ops [D 17 (.mv (T 0)),
    D 18 (.mv (T 6)),
    D 19 (.nil (T 17)),
    D 20 (.fa 1 (T 19)),
    E (.st 1 (T 20) (T 18))]) (
   .trim [0, 6] (
    .ops [D 21 (.mv (T 0)),
     D 22 (.nil (T 21)),
     D 23 (.fa 0 (T 22)),
     D 24 (.ld1 (T 23)),
     D 25 (.mv (T 6)),
     D 26 (.bin .add (T 24) (T 25)),
     D 27 (.nil (T 21)),
     D 28 (.fa 0 (T 27)),
     E (.st 1 (T 28) (T 26))]) (
   .trim [0] (
    .ops [D 29 (.mv (T 0)),
     D 30 (.nil (T 29)),
     D 31 (.fa 1 (T 30)),
     D 32 (.ld1 (T 31)),
     D 33 (.mv (T 6)),
     D 34 (.bin .sub (T 32) (T 33)),
     D 35 (.nil (T 29)),
     D 36 (.fa 1 (T 35)),
     E (.st 1 (T 36) (T 34))]) (
   .seq (
    .ops [D 37 (.mv (T 0)),
     D 38 (.nil (T 37)),
     D 39 (.fa 0 (T 38)),
     D 40 (.ld1 (T 39)),
     D 41 (.bin .gtr (T 40) (.const (.int .u64 4294967295)))]) (
   .cond (T 41) (
    .trim [0] (
     .ops [D 42 (.mv (T 0)),
      D 43 (.nil (T 42)),
      D 44 (.fa 0 (T 43)),
      D 45 (.ld1 (T 44)),
      D 46 (.bin .and (T 45) (.const (.int .u64 4294967295))),
      D 47 (.nil (T 42)),
      D 48 (.fa 0 (T 47)),
      E (.st 1 (T 48) (T 46))]) (
    .ops [D 49 (.mv (T 0)),
     D 50 (.nil (T 49)),
     D 51 (.fa 2 (T 50)),
     D 52 (.ld1 (T 51)),
     D 53 (.call 69 [(T 52)])])) (
    .skip))))))) (
 .trim [0] (
  .block 0 (
   .loop [0] (
    .trim [0] (
     .seq (
      .ops [D 54 (.mv (T 0)),
       D 55 (.nil (T 54)),
       D 56 (.fa 1 (T 55)),
       D 57 (.ld1 (T 56)),
       D 58 (.bin .lss (T 57) (.const (.int .u64 16777216)))]) (
     .cond (T 58) (
      .skip) (
      .exit 0))) (
    .block 1 (
     .trim [0] (
      .draw [⟨0, 0, 0, D 59 (.mv (T 0))⟩,
       ⟨1, 0, 0, D 60 (.mv (T 0))⟩,
       ⟨2, 0, 2, D 61 (.nil (T 60))⟩,
       ⟨3, 0, 6, D 62 (.fa 2 (T 61))⟩,
       ⟨4, 1, 14, D 63 (.ld1 (T 62))⟩,
       ⟨5, 0, 0, D 64 (.mv (T 0))⟩,
       ⟨6, 0, 32, D 65 (.nil (T 64))⟩,
       ⟨7, 0, 96, D 66 (.fa 0 (T 65))⟩,
       ⟨8, 1, 224, D 67 (.ld1 (T 66))⟩,
       ⟨9, 0, 480, D 68 (.shrc (T 67) 24)⟩,
       ⟨10, 0, 992, D 69 (.cvi .u8 (T 68))⟩,
       ⟨11, 2, 2016, D 70 (.bslice [(.int .u8 0)] 1 [(0, 1, (T 69))])⟩,
       ⟨12, 4, 4094, D 71 (.app 1 1 (T 63) (T 70))⟩,
       ⟨13, 0, 8191, D 72 (.nil (T 59))⟩,
       ⟨14, 0, 16383, D 73 (.fa 2 (T 72))⟩,
       ⟨15, 4, 32767, E (.st 1 (T 73) (T 71))⟩]) (
     .trim [0] (
      .ops [D 74 (.mv (T 0)),
       D 75 (.mv (T 0)),
       D 76 (.nil (T 75)),
       D 77 (.fa 0 (T 76)),
       D 78 (.ld1 (T 77)),
       D 79 (.shlc (T 78) 8),
       D 80 (.bin .and (T 79) (.const (.int .u64 4294967295))),
       D 81 (.nil (T 74)),
       D 82 (.fa 0 (T 81)),
       E (.st 1 (T 82) (T 80))]) (
     .ops [D 83 (.mv (T 0)),
      D 84 (.nil (T 83)),
      D 85 (.fa 1 (T 84)),
      D 86 (.ld1 (T 85)),
      D 87 (.shlc (T 86) 8),
      D 88 (.nil (T 83)),
      D 89 (.fa 1 (T 88)),
      E (.st 1 (T 89) (T 87))]))))))) (
 .ops [D 90 (.mv (T 0)),
  D 91 (.nil (T 90)),
  D 92 (.fa 3 (T 91)),
  D 93 (.ld1 (T 92)),
  D 94 (.bin .add (T 93) (I 1)),
  D 95 (.nil (T 90)),
  D 96 (.fa 3 (T 95)),
  E (.st 1 (T 96) (T 94))])))⟩
theorem arith_Encoder__put_ok : Ok Try.prog 46 arith_Encoder__put := ⟨by kernel_rfl, by kernel_rfl⟩

/-- diorama/arith.step -/
def arith_step : AF := ⟨16, [.tmp 4],
 .seq (
  .ops [D 4 (.mv (I 0))]) (
 .trim [0] (
  .seq (
   .ops [D 5 (.mv (T 1)),
    D 6 (.bin .eql (T 5) (I 0))]) (
  .cond (T 6) (
   .trim [4] (
    .ops [D 7 (.mv (T 0)),
     D 8 (.mv (T 0)),
     D 9 (.bin .sub (I 4096) (T 8)),
     D 10 (.shrc (T 9) 5),
     D 11 (.bin .add (T 7) (T 10)),
     D 4 (.mv (T 11))]) (
   .ret)) (
   .skip))) (
 .seq (
  .ops [D 12 (.mv (T 0)),
   D 13 (.mv (T 0)),
   D 14 (.shrc (T 13) 5),
   D 15 (.bin .sub (T 12) (T 14)),
   D 4 (.mv (T 15))]) (
 .ret)))⟩
theorem arith_step_ok : Ok Try.prog 47 arith_step := ⟨by kernel_rfl, by kernel_rfl⟩

/-- slices.Clone[[]byte,byte] -/
def slices_Clone___byte_byte_ : AF := ⟨8, [.tmp 2],
 .seq (
  .ops [D 2 (.mv (.const (.slice none 0 0)))]) (
 .seq (
  .seq (
   .ops [D 3 (.mv (T 0)),
    D 4 (.nileq false 1 (T 3) (.const (.slice none 0 0)))]) (
  .cond (T 4) (
   .seq (
    .ops [D 2 (.mv (.const (.slice none 0 0)))]) (
   .ret)) (
   .skip))) (
 .seq (
  .ops [D 5 (.bslice [] 0 []),
   D 6 (.mv (T 0)),
   D 7 (.app 1 1 (T 5) (T 6)),
   D 2 (.mv (T 7))]) (
 .ret)))⟩
theorem slices_Clone___byte_byte__ok : Ok Try.prog 48 slices_Clone___byte_byte_ := ⟨by kernel_rfl, by kernel_rfl⟩

/-- diorama/dioramaref00.Within -/
def dioramaref00_Within : AF := ⟨11, [.tmp 4],
 .seq (
  .ops [D 4 (.mv (I 0))]) (
 .trim [4] (
  .ops [D 5 (.mv (T 0)),
   D 6 (.cvi .u64 (T 5)),
   D 7 (.mv (T 1)),
   D 8 (.cvi .u64 (T 7)),
   D 9 (.bin .rem (T 6) (T 8)),
   D 10 (.cvi .i64 (T 9)),
   D 4 (.mv (T 10))]) (
 .ret))⟩
theorem dioramaref00_Within_ok : Ok Try.prog 49 dioramaref00_Within := ⟨by kernel_rfl, by kernel_rfl⟩

/-- (*diorama/dioramaref13.Encoder).Bit -/
def dioramaref13_Encoder__Bit : AF := ⟨29, [.tmp 6, .tmp 7],
 .seq (
  .ops [D 6 (.mv (I 0)),
   D 7 (.mv (I 0))]) (
 .trim [0, 1, 2, 8, 9] (
  .ops [D 11 (.mv (T 1)),
   D 12 (.mv (T 2)),
   D 13 (.call 25 [(T 11), (T 12)]),
   D 10 (.mv (T 13)),
   D 14 (.ext (T 10) 0),
   D 15 (.ext (T 10) 1),
   D 8 (.mv (T 14)),
   D 9 (.mv (T 15))]) (
 .trim [0, 1, 2, 8] (
  .seq (
   .ops [D 16 (.mv (T 9)),
    D 17 (.bin .neq (T 16) (I 0))]) (
  .cond (T 17) (
   .seq (
    .ops [D 18 (.mv (T 9)),
     D 6 (.mv (I 0)),
     D 7 (.mv (T 18))]) (
   .ret)) (
   .skip))) (
 .trim [0, 1, 2, 8] (
  .seq (
   .ops [D 19 (.mv (T 0)),
    D 20 (.nil (T 19)),
    D 21 (.fa 3 (T 20)),
    D 22 (.ld1 (T 21)),
    D 23 (.bin .gtr (T 22) (I 1048576))]) (
  .cond (T 23) (
   .seq (
    .ops [D 6 (.mv (I 0)),
     D 7 (.mv (I 2))]) (
   .ret)) (
   .skip))) (
 .seq (
  .ops [D 24 (.mv (T 0)),
   D 25 (.mv (T 1)),
   D 26 (.mv (T 2)),
   D 27 (.call 70 [(T 24), (T 25), (T 26)])]) (
 .seq (
  .ops [D 28 (.mv (T 8)),
   D 6 (.mv (T 28)),
   D 7 (.mv (I 0))]) (
 .ret))))))⟩
theorem dioramaref13_Encoder__Bit_ok : Ok Try.prog 50 dioramaref13_Encoder__Bit := ⟨by kernel_rfl, by kernel_rfl⟩

/-- (*diorama/dioramaref13.Encoder).Number -/
def dioramaref13_Encoder__Number : AF := ⟨103, [.tmp 6, .tmp 7],
 .seq (
  .ops [D 6 (.mv (.const (.slice none 0 0))),
   D 7 (.mv (I 0))]) (
 .trim [0, 1, 2] (
  .seq (
   .ops [D 17 (.mv (T 1)),
    D 18 (.call 71 [(T 17)]),
    D 19 (.un .not (T 18))]) (
  .cond (T 19) (
   .seq (
    .ops [D 6 (.mv (.const (.slice none 0 0))),
     D 7 (.mv (I 130))]) (
   .ret)) (
   .skip))) (
 .trim [0, 1, 2] (
  .trim [0, 1, 2, 25] (
   .ops [D 20 (.mv (T 2)),
    D 21 (.bin .lss (T 20) (I 0)),
    D 22 (.mv (T 21)),
    ⟨(some 23), some (22, false), .mv (T 2)⟩,
    ⟨(some 24), some (22, false), .bin .geq (T 23) (I 1048576)⟩,
    D 25 (.pick (T 22) (.const (.bool true)) (T 24))]) (
  .cond (T 25) (
   .seq (
    .ops [D 6 (.mv (.const (.slice none 0 0))),
     D 7 (.mv (I 1))]) (
   .ret)) (
   .skip))) (
 .trim [0, 1, 2] (
  .seq (
   .ops [D 26 (.mv (T 0)),
    D 27 (.nil (T 26)),
    D 28 (.fa 3 (T 27)),
    D 29 (.ld1 (T 28)),
    D 30 (.bin .gtr (T 29) (I 1048576))]) (
  .cond (T 30) (
   .seq (
    .ops [D 6 (.mv (.const (.slice none 0 0))),
     D 7 (.mv (I 2))]) (
   .ret)) (
   .skip))) (
 .seq (
  .ops [D 31 (.mv (T 1)),
   D 32 (.call 18 [(T 31)]),
   D 8 (.mv (T 32))]) (
 .seq (
  .ops [D 33 (.mv (T 2)),
   D 34 (.bin .add (T 33) (I 1)),
   D 9 (.mv (T 34))]) (
 .seq (
  .ops [D 35 (.mv (T 9)),
   D 36 (.call 72 [(T 35)]),
   D 10 (.mv (T 36))]) (
 .trim [0, 8, 9, 10] (
  .seq (
   .ops [D 11 (.mv (I 0))]) (
  .block 0 (
   .loop [0, 8, 9, 10, 11] (
    .seq (
     .seq (
      .ops [D 37 (.mv (T 11)),
       D 38 (.mv (T 10)),
       D 39 (.bin .lss (T 37) (T 38))]) (
     .cond (T 39) (
      .skip) (
      .exit 0))) (
    .trim [0, 8, 9, 10, 11] (
     .block 1 (
      .seq (
       .ops [D 12 (.mv (I 1))]) (
      .seq (
       .seq (
        .ops [D 42 (.mv (T 11)),
         D 43 (.mv (T 10)),
         D 44 (.bin .sub (T 43) (I 1)),
         D 45 (.bin .eql (T 42) (T 44))]) (
       .cond (T 45) (
        .ops [D 12 (.mv (I 0))]) (
        .skip))) (
      .seq (
       .ops [D 46 (.mv (T 11)),
        D 47 (.call 73 [(T 46)]),
        D 13 (.mv (T 47))]) (
      .trim [0, 8, 9, 10, 11, 12, 13] (
       .ops [D 48 (.mv (T 0)),
        D 49 (.mv (T 8)),
        D 50 (.mv (T 13)),
        D 51 (.ia 1 (T 49) (T 50)),
        D 52 (.ld1 (T 51)),
        D 53 (.mv (T 12)),
        D 54 (.call 70 [(T 48), (T 52), (T 53)])]) (
      .ops [D 55 (.mv (T 8)),
       D 56 (.mv (T 13)),
       D 57 (.mv (T 8)),
       D 58 (.mv (T 13)),
       D 59 (.ia 1 (T 57) (T 58)),
       D 60 (.ld1 (T 59)),
       D 61 (.mv (T 12)),
       D 62 (.call 54 [(T 60), (T 61)]),
       D 63 (.ia 1 (T 55) (T 56)),
       E (.st 1 (T 63) (T 62))])))))) (
    .ops [D 40 (.mv (T 11)),
     D 41 (.bin .add (T 40) (I 1)),
     D 11 (.mv (T 41))])))))) (
 .trim [8] (
  .seq (
   .ops [D 64 (.mv (T 10)),
    D 65 (.bin .sub (T 64) (I 2)),
    D 14 (.mv (T 65))]) (
  .block 2 (
   .loop [0, 8, 9, 10, 14] (
    .seq (
     .seq (
      .ops [D 66 (.mv (T 14)),
       D 67 (.bin .geq (T 66) (I 0))]) (
     .cond (T 67) (
      .skip) (
      .exit 2))) (
    .trim [0, 8, 9, 10, 14] (
     .block 3 (
      .trim [0, 8, 9, 10, 14, 15] (
       .ops [D 70 (.mv (T 9)),
        D 71 (.mv (T 14)),
        D 72 (.cvi .u64 (T 71)),
        D 73 (.bin .shr (T 70) (T 72)),
        D 74 (.bin .and (T 73) (I 1)),
        D 15 (.mv (T 74))]) (
      .seq (
       .ops [D 75 (.mv (T 14)),
        D 76 (.mv (T 10)),
        D 77 (.bin .sub (T 76) (I 2)),
        D 78 (.bin .eql (T 75) (T 77))]) (
      .cond (T 78) (
       .seq (
        .ops [D 79 (.mv (T 10)),
         D 80 (.bin .sub (T 79) (I 1)),
         D 81 (.call 73 [(T 80)]),
         D 82 (.bin .add (I 16) (T 81)),
         D 16 (.mv (T 82))]) (
       .trim [0, 8, 9, 10, 14, 15, 16] (
        .ops [D 83 (.mv (T 0)),
         D 84 (.mv (T 8)),
         D 85 (.mv (T 16)),
         D 86 (.ia 1 (T 84) (T 85)),
         D 87 (.ld1 (T 86)),
         D 88 (.mv (T 15)),
         D 89 (.call 70 [(T 83), (T 87), (T 88)])]) (
       .ops [D 90 (.mv (T 8)),
        D 91 (.mv (T 16)),
        D 92 (.mv (T 8)),
        D 93 (.mv (T 16)),
        D 94 (.ia 1 (T 92) (T 93)),
        D 95 (.ld1 (T 94)),
        D 96 (.mv (T 15)),
        D 97 (.call 54 [(T 95), (T 96)]),
        D 98 (.ia 1 (T 90) (T 91)),
        E (.st 1 (T 98) (T 97))]))) (
       .ops [D 99 (.mv (T 0)),
        D 100 (.mv (T 15)),
        D 101 (.call 70 [(T 99), (I 2048), (T 100)])]))))) (
    .ops [D 68 (.mv (T 14)),
     D 69 (.bin .sub (T 68) (I 1)),
     D 14 (.mv (T 69))])))))) (
 .seq (
  .ops [D 102 (.mv (T 8)),
   D 6 (.mv (T 102)),
   D 7 (.mv (I 0))]) (
 .ret))))))))))⟩
theorem dioramaref13_Encoder__Number_ok : Ok Try.prog 51 dioramaref13_Encoder__Number := ⟨by kernel_rfl, by kernel_rfl⟩

/-- (*diorama/dioramaref13.Encoder).Signed -/
def dioramaref13_Encoder__Signed : AF := ⟨24, [.tmp 6, .tmp 7],
 .seq (
  .ops [D 6 (.mv (.const (.slice none 0 0))),
   D 7 (.mv (I 0))]) (
 .trim [0, 1, 2] (
  .seq (
   .ops [D 8 (.mv (T 1)),
    D 9 (.call 71 [(T 8)]),
    D 10 (.un .not (T 9))]) (
  .cond (T 10) (
   .seq (
    .ops [D 6 (.mv (.const (.slice none 0 0))),
     D 7 (.mv (I 130))]) (
   .ret)) (
   .skip))) (
 .trim [0, 1, 2] (
  .trim [0, 1, 2, 16] (
   .ops [D 11 (.mv (T 2)),
    D 12 (.bin .lss (T 11) (I (-524288))),
    D 13 (.mv (T 12)),
    ⟨(some 14), some (13, false), .mv (T 2)⟩,
    ⟨(some 15), some (13, false), .bin .geq (T 14) (I 524288)⟩,
    D 16 (.pick (T 13) (.const (.bool true)) (T 15))]) (
  .cond (T 16) (
   .seq (
    .ops [D 6 (.mv (.const (.slice none 0 0))),
     D 7 (.mv (I 1))]) (
   .ret)) (
   .skip))) (
 .trim [6, 7] (
  .ops [D 17 (.mv (T 0)),
   D 18 (.mv (T 1)),
   D 19 (.mv (T 2)),
   D 20 (.call 74 [(T 19)]),
   D 21 (.call 51 [(T 17), (T 18), (T 20)]),
   D 22 (.ext (T 21) 0),
   D 23 (.ext (T 21) 1),
   D 6 (.mv (T 22)),
   D 7 (.mv (T 23))]) (
 .ret))))⟩
theorem dioramaref13_Encoder__Signed_ok : Ok Try.prog 52 dioramaref13_Encoder__Signed := ⟨by kernel_rfl, by kernel_rfl⟩

/-- diorama/arith.isState -/
def arith_isState : AF := ⟨9, [.tmp 2],
 .seq (
  .ops [D 2 (.mv (.const (.bool false)))]) (
 .trim [2] (
  .ops [D 3 (.mv (T 0)),
   D 4 (.bin .geq (T 3) (I 31)),
   D 5 (.mv (T 4)),
   ⟨(some 6), some (5, true), .mv (T 0)⟩,
   ⟨(some 7), some (5, true), .bin .leq (T 6) (I 4065)⟩,
   D 8 (.pick (T 5) (T 7) (.const (.bool false))),
   D 2 (.mv (T 8))]) (
 .ret))⟩
theorem arith_isState_ok : Ok Try.prog 53 arith_isState := ⟨by kernel_rfl, by kernel_rfl⟩

/-- diorama/dioramaref13.step -/
def dioramaref13_step : AF := ⟨16, [.tmp 4],
 .seq (
  .ops [D 4 (.mv (I 0))]) (
 .trim [0] (
  .seq (
   .ops [D 5 (.mv (T 1)),
    D 6 (.bin .eql (T 5) (I 0))]) (
  .cond (T 6) (
   .trim [4] (
    .ops [D 7 (.mv (T 0)),
     D 8 (.mv (T 0)),
     D 9 (.bin .sub (I 4096) (T 8)),
     D 10 (.bin .quo (T 9) (I 32)),
     D 11 (.bin .add (T 7) (T 10)),
     D 4 (.mv (T 11))]) (
   .ret)) (
   .skip))) (
 .seq (
  .ops [D 12 (.mv (T 0)),
   D 13 (.mv (T 0)),
   D 14 (.bin .quo (T 13) (I 32)),
   D 15 (.bin .sub (T 12) (T 14)),
   D 4 (.mv (T 15))]) (
 .ret)))⟩
theorem dioramaref13_step_ok : Ok Try.prog 54 dioramaref13_step := ⟨by kernel_rfl, by kernel_rfl⟩

/-- slices.Repeat[[]int,int] -/
def slices_Repeat___int_int_ : AF := ⟨48, [.tmp 4],
 .seq (
  .ops [D 4 (.mv (.const (.slice none 0 0)))]) (
 .seq (
  .seq (
   .ops [D 9 (.mv (T 1)),
    D 10 (.bin .lss (T 9) (I 0))]) (
  .cond (T 10) (
   .ops [D 11 (.mkif 9 (.const (.string ⟨#[99, 97, 110, 110, 111, 116, 32, 98, 101, 32, 110, 101, 103, 97, 116, 105, 118, 101]⟩))),
    E (.stuck)]) (
   .skip))) (
 .trim [0, 5, 6] (
  .ops [D 13 (.mv (T 0)),
   D 14 (.len (T 13)),
   D 15 (.cvi .u64 (T 14)),
   D 16 (.mv (T 1)),
   D 17 (.cvi .u64 (T 16)),
   D 18 (.call 75 [(T 15), (T 17)]),
   D 12 (.mv (T 18)),
   D 19 (.ext (T 12) 0),
   D 20 (.ext (T 12) 1),
   D 5 (.mv (T 19)),
   D 6 (.mv (T 20))]) (
 .trim [0, 6] (
  .trim [0, 6, 26] (
   .ops [D 21 (.mv (T 5)),
    D 22 (.bin .gtr (T 21) (.const (.int .u64 0))),
    D 23 (.mv (T 22)),
    ⟨(some 24), some (23, false), .mv (T 6)⟩,
    ⟨(some 25), some (23, false), .bin .gtr (T 24) (.const (.int .u64 9223372036854775807))⟩,
    D 26 (.pick (T 23) (.const (.bool true)) (T 25))]) (
  .cond (T 26) (
   .ops [D 27 (.mkif 9 (.const (.string ⟨#[116, 104, 101, 32, 114, 101, 115, 117, 108, 116, 32, 111, 102, 32, 40, 108, 101, 110, 40, 120, 41, 32, 42, 32, 99, 111, 117, 110, 116, 41, 32, 111, 118, 101, 114, 102, 108, 111, 119, 115]⟩))),
    E (.stuck)]) (
   .skip))) (
 .seq (
  .ops [D 28 (.mv (T 6)),
   D 29 (.cvi .i64 (T 28)),
   D 30 (.mks [(.int .i64 0)] 8 (T 29) (T 29)),
   D 7 (.mv (T 30))]) (
 .seq (
  .ops [D 31 (.mv (T 7)),
   D 32 (.mv (T 0)),
   D 33 (.cpy 1 (T 31) (T 32)),
   D 8 (.mv (T 33))]) (
 .trim [7] (
  .block 0 (
   .loop [7, 8] (
    .seq (
     .seq (
      .ops [D 34 (.mv (T 8)),
       D 35 (.mv (T 7)),
       D 36 (.len (T 35)),
       D 37 (.bin .lss (T 34) (T 36))]) (
     .cond (T 37) (
      .skip) (
      .exit 0))) (
    .block 1 (
     .draw [⟨0, 0, 0, D 38 (.mv (T 8))⟩,
      ⟨1, 0, 0, D 39 (.mv (T 7))⟩,
      ⟨2, 0, 0, D 40 (.mv (T 8))⟩,
      ⟨3, 0, 6, D 41 (.slc 1 (T 39) (some (T 40)) none none)⟩,
      ⟨4, 0, 0, D 42 (.mv (T 7))⟩,
      ⟨5, 0, 0, D 43 (.mv (T 8))⟩,
      ⟨6, 0, 48, D 44 (.slc 1 (T 42) none (some (T 43)) none)⟩,
      ⟨7, 4, 126, D 45 (.cpy 1 (T 41) (T 44))⟩,
      ⟨8, 0, 255, D 46 (.bin .add (T 38) (T 45))⟩,
      ⟨9, 0, 511, D 8 (.mv (T 46))⟩]))))) (
 .seq (
  .ops [D 47 (.mv (T 7)),
   D 4 (.mv (T 47))]) (
 .ret))))))))⟩
theorem slices_Repeat___int_int__ok : Ok Try.prog 55 slices_Repeat___int_int_ := ⟨by kernel_rfl, by kernel_rfl⟩

/-- (*diorama/dioramaref13.Decoder).Bit -/
def dioramaref13_Decoder__Bit : AF := ⟨30, [.tmp 4, .tmp 5, .tmp 6],
 .seq (
  .ops [D 4 (.mv (I 0)),
   D 5 (.mv (I 0)),
   D 6 (.mv (I 0))]) (
 .trim [0, 1] (
  .seq (
   .ops [D 10 (.mv (T 1)),
    D 11 (.call 26 [(T 10)]),
    D 12 (.un .not (T 11))]) (
  .cond (T 12) (
   .seq (
    .ops [D 4 (.mv (I 0)),
     D 5 (.mv (I 0)),
     D 6 (.mv (I 130))]) (
   .ret)) (
   .skip))) (
 .seq (
  .ops [D 13 (.mv (T 0)),
   D 14 (.nil (T 13)),
   D 15 (.ldN 4 (T 14)),
   D 7 (.alloc [(.int .i64 0), (.int .i64 0), (.int .i64 0), (.slice none 0 0)]),
   E (.st 4 (T 7) (T 15))]) (
 .trim [0, 1, 7, 8, 9] (
  .ops [D 17 (.mv (T 1)),
   D 18 (.call 76 [(T 7), (T 17)]),
   D 16 (.mv (T 18)),
   D 19 (.ext (T 16) 0),
   D 20 (.ext (T 16) 1),
   D 8 (.mv (T 19)),
   D 9 (.mv (T 20))]) (
 .trim [0, 1, 7, 8] (
  .seq (
   .ops [D 21 (.mv (T 9)),
    D 22 (.un .not (T 21))]) (
  .cond (T 22) (
   .seq (
    .ops [D 4 (.mv (I 0)),
     D 5 (.mv (I 0)),
     D 6 (.mv (I 3))]) (
   .ret)) (
   .skip))) (
 .seq (
  .ops [D 23 (.mv (T 0)),
   D 24 (.ldN 4 (T 7)),
   D 25 (.nil (T 23)),
   E (.st 4 (T 25) (T 24))]) (
 .seq (
  .ops [D 26 (.mv (T 8)),
   D 27 (.mv (T 1)),
   D 28 (.mv (T 8)),
   D 29 (.call 54 [(T 27), (T 28)]),
   D 4 (.mv (T 26)),
   D 5 (.mv (T 29)),
   D 6 (.mv (I 0))]) (
 .ret)))))))⟩
theorem dioramaref13_Decoder__Bit_ok : Ok Try.prog 56 dioramaref13_Decoder__Bit := ⟨by kernel_rfl, by kernel_rfl⟩

/-- (*diorama/dioramaref13.Decoder).Number -/
def dioramaref13_Decoder__Number : AF := ⟨101, [.tmp 4, .tmp 5, .tmp 6],
 .seq (
  .ops [D 4 (.mv (I 0)),
   D 5 (.mv (.const (.slice none 0 0))),
   D 6 (.mv (I 0))]) (
 .trim [0, 1] (
  .seq (
   .ops [D 19 (.mv (T 1)),
    D 20 (.call 71 [(T 19)]),
    D 21 (.un .not (T 20))]) (
  .cond (T 21) (
   .seq (
    .ops [D 4 (.mv (I 0)),
     D 5 (.mv (.const (.slice none 0 0))),
     D 6 (.mv (I 130))]) (
   .ret)) (
   .skip))) (
 .seq (
  .ops [D 22 (.mv (T 0)),
   D 23 (.nil (T 22)),
   D 24 (.ldN 4 (T 23)),
   D 7 (.alloc [(.int .i64 0), (.int .i64 0), (.int .i64 0), (.slice none 0 0)]),
   E (.st 4 (T 7) (T 24))]) (
 .seq (
  .ops [D 25 (.mv (T 1)),
   D 26 (.call 18 [(T 25)]),
   D 8 (.mv (T 26))]) (
 .seq (
  .ops [D 9 (.mv (I 0))]) (
 .trim [0, 7, 8, 9] (
  .block 0 (
   .loop [0, 7, 8, 9] (
    .block 1 (
     .seq (
      .ops [D 27 (.mv (T 9)),
       D 28 (.call 73 [(T 27)]),
       D 10 (.mv (T 28))]) (
     .trim [0, 7, 8, 9, 10, 11, 12] (
      .ops [D 30 (.mv (T 8)),
       D 31 (.mv (T 10)),
       D 32 (.ia 1 (T 30) (T 31)),
       D 33 (.ld1 (T 32)),
       D 34 (.call 76 [(T 7), (T 33)]),
       D 29 (.mv (T 34)),
       D 35 (.ext (T 29) 0),
       D 36 (.ext (T 29) 1),
       D 11 (.mv (T 35)),
       D 12 (.mv (T 36))]) (
     .trim [0, 7, 8, 9, 10, 11] (
      .seq (
       .ops [D 37 (.mv (T 12)),
        D 38 (.un .not (T 37))]) (
      .cond (T 38) (
       .seq (
        .ops [D 4 (.mv (I 0)),
         D 5 (.mv (.const (.slice none 0 0))),
         D 6 (.mv (I 3))]) (
       .ret)) (
       .skip))) (
     .trim [0, 7, 8, 9, 11] (
      .ops [D 39 (.mv (T 8)),
       D 40 (.mv (T 10)),
       D 41 (.mv (T 8)),
       D 42 (.mv (T 10)),
       D 43 (.ia 1 (T 41) (T 42)),
       D 44 (.ld1 (T 43)),
       D 45 (.mv (T 11)),
       D 46 (.call 54 [(T 44), (T 45)]),
       D 47 (.ia 1 (T 39) (T 40)),
       E (.st 1 (T 47) (T 46))]) (
     .seq (
      .ops [D 48 (.mv (T 9)),
       D 49 (.bin .add (T 48) (I 1)),
       D 9 (.mv (T 49))]) (
     .seq (
      .seq (
       .ops [D 50 (.mv (T 11)),
        D 51 (.bin .eql (T 50) (I 0))]) (
      .cond (T 51) (
       .exit 0) (
       .skip))) (
     .seq (
      .ops [D 52 (.mv (T 9)),
       D 53 (.bin .gtr (T 52) (I 20))]) (
     .cond (T 53) (
      .seq (
       .ops [D 4 (.mv (I 0)),
        D 5 (.mv (.const (.slice none 0 0))),
        D 6 (.mv (I 4))]) (
      .ret)) (
      .skip)))))))))))) (
 .seq (
  .ops [D 13 (.mv (I 1))]) (
 .trim [0, 7, 8, 13] (
  .seq (
   .ops [D 54 (.mv (T 9)),
    D 55 (.bin .sub (T 54) (I 2)),
    D 14 (.mv (T 55))]) (
  .block 2 (
   .loop [0, 7, 8, 9, 13, 14] (
    .seq (
     .seq (
      .ops [D 56 (.mv (T 14)),
       D 57 (.bin .geq (T 56) (I 0))]) (
     .cond (T 57) (
      .skip) (
      .exit 2))) (
    .trim [0, 7, 8, 9, 13, 14] (
     .block 3 (
      .seq (
       .ops [D 60 (.mv (T 9)),
        D 61 (.bin .sub (T 60) (I 1)),
        D 62 (.call 73 [(T 61)]),
        D 63 (.bin .add (I 16) (T 62)),
        D 15 (.mv (I 2048)),
        D 16 (.mv (T 63))]) (
      .trim [0, 7, 8, 9, 13, 14, 15, 16] (
       .seq (
        .ops [D 64 (.mv (T 14)),
         D 65 (.mv (T 9)),
         D 66 (.bin .sub (T 65) (I 2)),
         D 67 (.bin .eql (T 64) (T 66))]) (
       .cond (T 67) (
        .ops [D 68 (.mv (T 8)),
         D 69 (.mv (T 16)),
         D 70 (.ia 1 (T 68) (T 69)),
         D 71 (.ld1 (T 70)),
         D 15 (.mv (T 71))]) (
        .skip))) (
      .trim [0, 7, 8, 9, 13, 14, 15, 16, 17, 18] (
       .ops [D 73 (.mv (T 15)),
        D 74 (.call 76 [(T 7), (T 73)]),
        D 72 (.mv (T 74)),
        D 75 (.ext (T 72) 0),
        D 76 (.ext (T 72) 1),
        D 17 (.mv (T 75)),
        D 18 (.mv (T 76))]) (
      .trim [0, 7, 8, 9, 13, 14, 15, 16, 17] (
       .seq (
        .ops [D 77 (.mv (T 18)),
         D 78 (.un .not (T 77))]) (
       .cond (T 78) (
        .seq (
         .ops [D 4 (.mv (I 0)),
          D 5 (.mv (.const (.slice none 0 0))),
          D 6 (.mv (I 3))]) (
        .ret)) (
        .skip))) (
      .trim [0, 7, 8, 9, 13, 14, 17] (
       .seq (
        .ops [D 79 (.mv (T 14)),
         D 80 (.mv (T 9)),
         D 81 (.bin .sub (T 80) (I 2)),
         D 82 (.bin .eql (T 79) (T 81))]) (
       .cond (T 82) (
        .ops [D 83 (.mv (T 8)),
         D 84 (.mv (T 16)),
         D 85 (.mv (T 15)),
         D 86 (.mv (T 17)),
         D 87 (.call 54 [(T 85), (T 86)]),
         D 88 (.ia 1 (T 83) (T 84)),
         E (.st 1 (T 88) (T 87))]) (
        .skip))) (
      .ops [D 89 (.mv (T 13)),
       D 90 (.bin .mul (I 2) (T 89)),
       D 91 (.mv (T 17)),
       D 92 (.bin .add (T 90) (T 91)),
       D 13 (.mv (T 92))]))))))) (
    .ops [D 58 (.mv (T 14)),
     D 59 (.bin .sub (T 58) (I 1)),
     D 14 (.mv (T 59))])))))) (
 .trim [0, 7, 8, 13] (
  .seq (
   .ops [D 93 (.mv (T 13)),
    D 94 (.bin .gtr (T 93) (I 1048576))]) (
  .cond (T 94) (
   .seq (
    .ops [D 4 (.mv (I 0)),
     D 5 (.mv (.const (.slice none 0 0))),
     D 6 (.mv (I 4))]) (
   .ret)) (
   .skip))) (
 .seq (
  .ops [D 95 (.mv (T 0)),
   D 96 (.ldN 4 (T 7)),
   D 97 (.nil (T 95)),
   E (.st 4 (T 97) (T 96))]) (
 .seq (
  .ops [D 98 (.mv (T 13)),
   D 99 (.bin .sub (T 98) (I 1)),
   D 100 (.mv (T 8)),
   D 4 (.mv (T 99)),
   D 5 (.mv (T 100)),
   D 6 (.mv (I 0))]) (
 .ret)))))))))))⟩
theorem dioramaref13_Decoder__Number_ok : Ok Try.prog 57 dioramaref13_Decoder__Number := ⟨by kernel_rfl, by kernel_rfl⟩

/-- (*diorama/dioramaref13.Decoder).Signed -/
def dioramaref13_Decoder__Signed : AF := ⟨23, [.tmp 4, .tmp 5, .tmp 6],
 .seq (
  .ops [D 4 (.mv (I 0)),
   D 5 (.mv (.const (.slice none 0 0))),
   D 6 (.mv (I 0))]) (
 .trim [7, 8, 9] (
  .ops [D 11 (.mv (T 0)),
   D 12 (.mv (T 1)),
   D 13 (.call 57 [(T 11), (T 12)]),
   D 10 (.mv (T 13)),
   D 14 (.ext (T 10) 0),
   D 15 (.ext (T 10) 1),
   D 16 (.ext (T 10) 2),
   D 7 (.mv (T 14)),
   D 8 (.mv (T 15)),
   D 9 (.mv (T 16))]) (
 .trim [7, 8] (
  .seq (
   .ops [D 17 (.mv (T 9)),
    D 18 (.bin .neq (T 17) (I 0))]) (
  .cond (T 18) (
   .seq (
    .ops [D 19 (.mv (T 9)),
     D 4 (.mv (I 0)),
     D 5 (.mv (.const (.slice none 0 0))),
     D 6 (.mv (T 19))]) (
   .ret)) (
   .skip))) (
 .seq (
  .ops [D 20 (.mv (T 7)),
   D 21 (.call 77 [(T 20)]),
   D 22 (.mv (T 8)),
   D 4 (.mv (T 21)),
   D 5 (.mv (T 22)),
   D 6 (.mv (I 0))]) (
 .ret))))⟩
theorem dioramaref13_Decoder__Signed_ok : Ok Try.prog 58 dioramaref13_Decoder__Signed := ⟨by kernel_rfl, by kernel_rfl⟩

/-- diorama/arith.isContext -/
def arith_isContext : AF := ⟨9, [.tmp 2],
 .seq (
  .ops [D 2 (.mv (.const (.bool false)))]) (
 .trim [2] (
  .ops [D 3 (.mv (T 0)),
   D 4 (.bin .geq (T 3) (I 0)),
   D 5 (.mv (T 4)),
   ⟨(some 6), some (5, true), .mv (T 0)⟩,
   ⟨(some 7), some (5, true), .bin .leq (T 6) (I 99)⟩,
   D 8 (.pick (T 5) (T 7) (.const (.bool false))),
   D 2 (.mv (T 8))]) (
 .ret))⟩
theorem arith_isContext_ok : Ok Try.prog 59 arith_isContext := ⟨by kernel_rfl, by kernel_rfl⟩

/-- diorama/dioramaref13.contexts -/
def dioramaref13_contexts : AF := ⟨22, [.tmp 2],
 .seq (
  .ops [D 2 (.mv (.const (.bool false)))]) (
 .trim [] (
  .seq (
   .ops [D 3 (.mv (I 0))]) (
  .block 0 (
   .loop [0, 3] (
    .seq (
     .seq (
      .ops [D 4 (.mv (T 3)),
       D 5 (.mv (T 0)),
       D 6 (.len (T 5)),
       D 7 (.bin .lss (T 4) (T 6))]) (
     .cond (T 7) (
      .skip) (
      .exit 0))) (
    .trim [0, 3] (
     .block 1 (
      .trim [0, 3, 21] (
       .ops [D 10 (.mv (T 0)),
        D 11 (.mv (T 3)),
        D 12 (.ia 1 (T 10) (T 11)),
        D 13 (.ld1 (T 12)),
        D 14 (.bin .lss (T 13) (I 0)),
        D 15 (.mv (T 14)),
        ⟨(some 16), some (15, false), .mv (T 0)⟩,
        ⟨(some 17), some (15, false), .mv (T 3)⟩,
        ⟨(some 18), some (15, false), .ia 1 (T 16) (T 17)⟩,
        ⟨(some 19), some (15, false), .ld1 (T 18)⟩,
        ⟨(some 20), some (15, false), .bin .gtr (T 19) (I 99)⟩,
        D 21 (.pick (T 15) (.const (.bool true)) (T 20))]) (
      .cond (T 21) (
       .seq (
        .ops [D 2 (.mv (.const (.bool false)))]) (
       .ret)) (
       .skip)))) (
    .ops [D 8 (.mv (T 3)),
     D 9 (.bin .add (T 8) (I 1)),
     D 3 (.mv (T 9))])))))) (
 .seq (
  .ops [D 2 (.mv (.const (.bool true)))]) (
 .ret)))⟩
theorem dioramaref13_contexts_ok : Ok Try.prog 60 dioramaref13_contexts := ⟨by kernel_rfl, by kernel_rfl⟩

/-- slices.ContainsFunc[[]int,int] -/
def slices_ContainsFunc___int_int_ : AF := ⟨9, [.tmp 4],
 .seq (
  .ops [D 4 (.mv (.const (.bool false)))]) (
 .seq (
  .ops [D 5 (.mv (T 0)),
   D 6 (.mv (T 1)),
   D 7 (.call 78 [(T 5), (T 6)]),
   D 8 (.bin .geq (T 7) (I 0)),
   D 4 (.mv (T 8))]) (
 .ret))⟩
theorem slices_ContainsFunc___int_int__ok : Ok Try.prog 61 slices_ContainsFunc___int_int_ := ⟨by kernel_rfl, by kernel_rfl⟩

/-- diorama/arith.Unpack$1 -/
def arith_Unpack_1 : AF := ⟨6, [.tmp 2],
 .seq (
  .ops [D 2 (.mv (.const (.bool false)))]) (
 .seq (
  .ops [D 3 (.mv (T 0)),
   D 4 (.call 59 [(T 3)]),
   D 5 (.un .not (T 4)),
   D 2 (.mv (T 5))]) (
 .ret))⟩
theorem arith_Unpack_1_ok : Ok Try.prog 62 arith_Unpack_1 := ⟨by kernel_rfl, by kernel_rfl⟩

/-- (*diorama/arith.Encoder).Number$1 -/
def arith_Encoder__Number_1 : AF := ⟨19, [],
 .trim [0, 1, 3] (
  .draw [⟨0, 1, 0, D 6 (.ld1 (T 2))⟩,
   ⟨1, 0, 0, D 7 (.mv (T 0))⟩,
   ⟨2, 0, 2, D 8 (.iaa 32 1 (T 3) (T 7))⟩,
   ⟨3, 1, 6, D 9 (.ld1 (T 8))⟩,
   ⟨4, 0, 0, D 10 (.mv (T 1))⟩,
   ⟨5, 4, 31, D 11 (.call 46 [(T 6), (T 9), (T 10)])⟩]) (
 .ops [D 12 (.mv (T 0)),
  D 13 (.mv (T 0)),
  D 14 (.iaa 32 1 (T 3) (T 13)),
  D 15 (.ld1 (T 14)),
  D 16 (.mv (T 1)),
  D 17 (.call 47 [(T 15), (T 16)]),
  D 18 (.iaa 32 1 (T 3) (T 12)),
  E (.st 1 (T 18) (T 17))])⟩
theorem arith_Encoder__Number_1_ok : Ok Try.prog 63 arith_Encoder__Number_1 := ⟨by kernel_rfl, by kernel_rfl⟩

/-- diorama/arith.length -/
def arith_length : AF := ⟨17, [.tmp 2],
 .seq (
  .ops [D 2 (.mv (I 0))]) (
 .seq (
  .ops [D 5 (.build (List.replicate 16 (.int .i64 0)) [(0, 1, (I 0)), (1, 1, (I 1)), (2, 1, (I 2)), (3, 1, (I 2)), (4, 1, (I 3)), (5, 1, (I 3)), (6, 1, (I 3)), (7, 1, (I 3)), (8, 1, (I 4)), (9, 1, (I 4)), (10, 1, (I 4)), (11, 1, (I 4)), (12, 1, (I 4)), (13, 1, (I 4)), (14, 1, (I 4)), (15, 1, (I 4))]),
   D 3 (.alloc (List.replicate 16 (.int .i64 0))),
   E (.st 16 (T 3) (T 5))]) (
 .seq (
  .ops [D 4 (.mv (I 0))]) (
 .trim [0, 3, 4] (
  .block 0 (
   .loop [0, 3, 4] (
    .seq (
     .seq (
      .ops [D 6 (.mv (T 0)),
       D 7 (.bin .gtr (T 6) (I 15))]) (
     .cond (T 7) (
      .skip) (
      .exit 0))) (
    .seq (
     .block 1 (
      .ops [D 10 (.mv (T 4)),
       D 11 (.bin .add (T 10) (I 4)),
       D 4 (.mv (T 11))])) (
    .ops [D 8 (.mv (T 0)),
     D 9 (.shrc (T 8) 4),
     D 0 (.mv (T 9))]))))) (
 .trim [2] (
  .ops [D 12 (.mv (T 4)),
   D 13 (.mv (T 0)),
   D 14 (.iaa 16 1 (T 3) (T 13)),
   D 15 (.ld1 (T 14)),
   D 16 (.bin .add (T 12) (T 15)),
   D 2 (.mv (T 16))]) (
 .ret)))))⟩
theorem arith_length_ok : Ok Try.prog 64 arith_length := ⟨by kernel_rfl, by kernel_rfl⟩

/-- (*diorama/arith.Decoder).get -/
def arith_Decoder__get : AF := ⟨93, [.tmp 4, .tmp 5],
 .seq (
  .ops [D 4 (.mv (I 0)),
   D 5 (.mv (I 0))]) (
 .trim [0, 6] (
  .ops [D 8 (.mv (T 0)),
   D 9 (.nil (T 8)),
   D 10 (.fa 3 (T 9)),
   D 11 (.ld1 (T 10)),
   D 12 (.shrc (T 11) 12),
   D 13 (.mv (T 1)),
   D 14 (.cvi .u64 (T 13)),
   D 15 (.bin .mul (T 12) (T 14)),
   D 6 (.mv (T 15))]) (
 .seq (
  .ops [D 7 (.mv (I 0))]) (
 .cut [0, 7] (
  .trim [0, 6, 7, 21] (
   .ops [D 16 (.mv (T 0)),
    D 17 (.nil (T 16)),
    D 18 (.fa 2 (T 17)),
    D 19 (.ld1 (T 18)),
    D 20 (.mv (T 6)),
    D 21 (.bin .lss (T 19) (T 20))]) (
  .cond (T 21) (
   .ops [D 22 (.mv (T 0)),
    D 23 (.mv (T 6)),
    D 24 (.nil (T 22)),
    D 25 (.fa 3 (T 24)),
    E (.st 1 (T 25) (T 23))]) (
   .seq (
    .ops [D 7 (.mv (I 1))]) (
   .trim [0, 6, 7] (
    .ops [D 26 (.mv (T 0)),
     D 27 (.nil (T 26)),
     D 28 (.fa 2 (T 27)),
     D 29 (.ld1 (T 28)),
     D 30 (.mv (T 6)),
     D 31 (.bin .sub (T 29) (T 30)),
     D 32 (.nil (T 26)),
     D 33 (.fa 2 (T 32)),
     E (.st 1 (T 33) (T 31))]) (
   .ops [D 34 (.mv (T 0)),
    D 35 (.nil (T 34)),
    D 36 (.fa 3 (T 35)),
    D 37 (.ld1 (T 36)),
    D 38 (.mv (T 6)),
    D 39 (.bin .sub (T 37) (T 38)),
    D 40 (.nil (T 34)),
    D 41 (.fa 3 (T 40)),
    E (.st 1 (T 41) (T 39))]))))) (
 .trim [7] (
  .block 0 (
   .loop [0, 7] (
    .trim [0, 7] (
     .seq (
      .ops [D 42 (.mv (T 0)),
       D 43 (.nil (T 42)),
       D 44 (.fa 3 (T 43)),
       D 45 (.ld1 (T 44)),
       D 46 (.bin .lss (T 45) (.const (.int .u64 16777216)))]) (
     .cond (T 46) (
      .skip) (
      .exit 0))) (
    .block 1 (
     .trim [0, 7] (
      .trim [0, 7, 56] (
       .draw [⟨0, 0, 0, D 47 (.mv (T 0))⟩,
        ⟨1, 0, 1, D 48 (.nil (T 47))⟩,
        ⟨2, 0, 3, D 49 (.fa 1 (T 48))⟩,
        ⟨3, 1, 7, D 50 (.ld1 (T 49))⟩,
        ⟨4, 0, 0, D 51 (.mv (T 0))⟩,
        ⟨5, 0, 16, D 52 (.nil (T 51))⟩,
        ⟨6, 0, 48, D 53 (.fa 0 (T 52))⟩,
        ⟨7, 1, 112, D 54 (.ld1 (T 53))⟩,
        ⟨8, 0, 240, D 55 (.len (T 54))⟩,
        ⟨9, 0, 511, D 56 (.bin .eql (T 50) (T 55))⟩]) (
      .cond (T 56) (
       .seq (
        .ops [D 4 (.mv (I 0)),
         D 5 (.mv (I 3))]) (
       .ret)) (
       .skip))) (
     .trim [0, 7] (
      .draw [⟨0, 0, 0, D 57 (.mv (T 0))⟩,
       ⟨1, 0, 0, D 58 (.mv (T 0))⟩,
       ⟨2, 0, 2, D 59 (.nil (T 58))⟩,
       ⟨3, 0, 6, D 60 (.fa 2 (T 59))⟩,
       ⟨4, 1, 14, D 61 (.ld1 (T 60))⟩,
       ⟨5, 0, 30, D 62 (.shlc (T 61) 8)⟩,
       ⟨6, 0, 0, D 63 (.mv (T 0))⟩,
       ⟨7, 0, 64, D 64 (.nil (T 63))⟩,
       ⟨8, 0, 192, D 65 (.fa 0 (T 64))⟩,
       ⟨9, 1, 448, D 66 (.ld1 (T 65))⟩,
       ⟨10, 0, 0, D 67 (.mv (T 0))⟩,
       ⟨11, 0, 1024, D 68 (.nil (T 67))⟩,
       ⟨12, 0, 3072, D 69 (.fa 1 (T 68))⟩,
       ⟨13, 1, 7168, D 70 (.ld1 (T 69))⟩,
       ⟨14, 0, 16320, D 71 (.ia 1 (T 66) (T 70))⟩,
       ⟨15, 1, 32704, D 72 (.ld1 (T 71))⟩,
       ⟨16, 0, 65472, D 73 (.cvi .u64 (T 72))⟩,
       ⟨17, 0, 131070, D 74 (.bin .or (T 62) (T 73))⟩,
       ⟨18, 0, 262142, D 75 (.bin .and (T 74) (.const (.int .u64 4294967295)))⟩,
       ⟨19, 0, 524287, D 76 (.nil (T 57))⟩,
       ⟨20, 0, 1048575, D 77 (.fa 2 (T 76))⟩,
       ⟨21, 4, 2097151, E (.st 1 (T 77) (T 75))⟩]) (
     .trim [0, 7] (
      .ops [D 78 (.mv (T 0)),
       D 79 (.nil (T 78)),
       D 80 (.fa 3 (T 79)),
       D 81 (.ld1 (T 80)),
       D 82 (.shlc (T 81) 8),
       D 83 (.nil (T 78)),
       D 84 (.fa 3 (T 83)),
       E (.st 1 (T 84) (T 82))]) (
     .ops [D 85 (.mv (T 0)),
      D 86 (.nil (T 85)),
      D 87 (.fa 1 (T 86)),
      D 88 (.ld1 (T 87)),
      D 89 (.bin .add (T 88) (I 1)),
      D 90 (.nil (T 85)),
      D 91 (.fa 1 (T 90)),
      E (.st 1 (T 91) (T 89))])))))))) (
 .seq (
  .ops [D 92 (.mv (T 7)),
   D 4 (.mv (T 92)),
   D 5 (.mv (I 0))]) (
 .ret))))))⟩
theorem arith_Decoder__get_ok : Ok Try.prog 65 arith_Decoder__get := ⟨by kernel_rfl, by kernel_rfl⟩

/-- (*diorama/arith.Decoder).Number$1 -/
def arith_Decoder__Number_1 : AF := ⟨6, [.tmp 2],
 .seq (
  .ops [D 2 (.mv (.const (.bool false)))]) (
 .seq (
  .ops [D 3 (.mv (T 0)),
   D 4 (.call 53 [(T 3)]),
   D 5 (.un .not (T 4)),
   D 2 (.mv (T 5))]) (
 .ret))⟩
theorem arith_Decoder__Number_1_ok : Ok Try.prog 66 arith_Decoder__Number_1 := ⟨by kernel_rfl, by kernel_rfl⟩

/-- (*diorama/arith.Decoder).number -/
def arith_Decoder__number : AF := ⟨67, [.tmp 4, .tmp 5],
 .seq (
  .ops [D 2 (.box (T 0)),
   D 3 (.box (T 1)),
   D 4 (.mv (I 0)),
   D 5 (.mv (I 0))]) (
 .seq (
  .ops [D 14 (.mkf 79 [] [(T 2), (T 3)]),
   D 6 (.mv (T 14))]) (
 .seq (
  .ops [D 7 (.mv (I 1))]) (
 .trim [2, 6, 7] (
  .block 0 (
   .loop [2, 6, 7] (
    .block 1 (
     .trim [2, 6, 7, 8, 9] (
      .ops [D 16 (.mv (T 6)),
       D 17 (.mv (T 7)),
       D 18 (.bin .sub (T 17) (I 1)),
       D 19 (.mn [(T 18), (I 15)]),
       D 20 (.bin .add (I 0) (T 19)),
       D 21 (.callv (T 16) [(T 20)]),
       D 15 (.mv (T 21)),
       D 22 (.ext (T 15) 0),
       D 23 (.ext (T 15) 1),
       D 8 (.mv (T 22)),
       D 9 (.mv (T 23))]) (
     .trim [2, 6, 7, 8] (
      .seq (
       .ops [D 24 (.mv (T 9)),
        D 25 (.bin .neq (T 24) (I 0))]) (
      .cond (T 25) (
       .seq (
        .ops [D 26 (.mv (T 9)),
         D 4 (.mv (I 0)),
         D 5 (.mv (T 26))]) (
       .ret)) (
       .skip))) (
     .seq (
      .seq (
       .ops [D 27 (.mv (T 8)),
        D 28 (.bin .eql (T 27) (I 0))]) (
      .cond (T 28) (
       .exit 0) (
       .skip))) (
     .seq (
      .ops [D 29 (.mv (T 7)),
       D 30 (.bin .add (T 29) (I 1)),
       D 7 (.mv (T 30))]) (
     .seq (
      .ops [D 31 (.mv (T 7)),
       D 32 (.bin .gtr (T 31) (I 21))]) (
     .cond (T 32) (
      .seq (
       .ops [D 4 (.mv (I 0)),
        D 5 (.mv (I 4))]) (
      .ret)) (
      .skip)))))))))) (
 .seq (
  .ops [D 10 (.mv (I 1))]) (
 .trim [10] (
  .seq (
   .ops [D 33 (.mv (T 7)),
    D 34 (.bin .sub (T 33) (I 1)),
    D 35 (.mv (I 0))]) (
  .block 2 (
   .loop [2, 6, 7, 10, 34, 35] (
    .seq (
     .ops [D 36 (.bin .lss (T 35) (T 34))]) (
    .seq (
     .cond (T 36) (
      .skip) (
      .exit 2)) (
    .trim [2, 6, 7, 10, 34, 35] (
     .block 3 (
      .seq (
       .ops [D 37 (.mv (T 35)),
        D 11 (.mv (T 37))]) (
      .seq (
       .ops [D 12 (.mv (I 0)),
        D 13 (.mv (I 0))]) (
      .trim [2, 6, 7, 10, 12, 13, 34, 35] (
       .seq (
        .ops [D 38 (.mv (T 11)),
         D 39 (.bin .eql (T 38) (I 0))]) (
       .cond (T 39) (
        .ops [D 41 (.mv (T 6)),
         D 42 (.mv (T 7)),
         D 43 (.bin .sub (T 42) (I 1)),
         D 44 (.mn [(T 43), (I 15)]),
         D 45 (.bin .add (I 16) (T 44)),
         D 46 (.callv (T 41) [(T 45)]),
         D 40 (.mv (T 46)),
         D 47 (.ext (T 40) 0),
         D 48 (.ext (T 40) 1),
         D 12 (.mv (T 47)),
         D 13 (.mv (T 48))]) (
        .ops [D 50 (.ld1 (T 2)),
         D 51 (.call 65 [(T 50), (I 2048)]),
         D 49 (.mv (T 51)),
         D 52 (.ext (T 49) 0),
         D 53 (.ext (T 49) 1),
         D 12 (.mv (T 52)),
         D 13 (.mv (T 53))]))) (
      .trim [2, 6, 7, 10, 12, 34, 35] (
       .seq (
        .ops [D 54 (.mv (T 13)),
         D 55 (.bin .neq (T 54) (I 0))]) (
       .cond (T 55) (
        .seq (
         .ops [D 56 (.mv (T 13)),
          D 4 (.mv (I 0)),
          D 5 (.mv (T 56))]) (
        .ret)) (
        .skip))) (
      .ops [D 57 (.mv (T 10)),
       D 58 (.shlc (T 57) 1),
       D 59 (.mv (T 12)),
       D 60 (.bin .or (T 58) (T 59)),
       D 10 (.mv (T 60))])))))) (
    .ops [D 61 (.bin .add (T 35) (I 1)),
     D 35 (.mv (T 61))]))))))) (
 .trim [10] (
  .seq (
   .ops [D 62 (.mv (T 10)),
    D 63 (.bin .sub (T 62) (I 1)),
    D 64 (.bin .geq (T 63) (I 1048576))]) (
  .cond (T 64) (
   .seq (
    .ops [D 4 (.mv (I 0)),
     D 5 (.mv (I 4))]) (
   .ret)) (
   .skip))) (
 .seq (
  .ops [D 65 (.mv (T 10)),
   D 66 (.bin .sub (T 65) (I 1)),
   D 4 (.mv (T 66)),
   D 5 (.mv (I 0))]) (
 .ret))))))))⟩
theorem arith_Decoder__number_ok : Ok Try.prog 67 arith_Decoder__number := ⟨by kernel_rfl, by kernel_rfl⟩

/-- (*diorama/arith.Encoder).ready$1 -/
def arith_Encoder__ready_1 : AF := ⟨6, [.tmp 2],
 .seq (
  .ops [D 2 (.mv (.const (.bool false)))]) (
 .seq (
  .ops [D 3 (.mv (T 0)),
   D 4 (.call 53 [(T 3)]),
   D 5 (.un .not (T 4)),
   D 2 (.mv (T 5))]) (
 .ret))⟩
theorem arith_Encoder__ready_1_ok : Ok Try.prog 68 arith_Encoder__ready_1 := ⟨by kernel_rfl, by kernel_rfl⟩

/-- diorama/arith.carry -/
def arith_carry : AF := ⟨21, [],
 .seq (
  .ops [D 3 (.mv (T 0)),
   D 4 (.len (T 3)),
   D 5 (.bin .sub (T 4) (I 1)),
   D 2 (.mv (T 5))]) (
 .block 0 (
  .loop [0, 2] (
   .seq (
    .seq (
     .ops [D 6 (.mv (T 2)),
      D 7 (.bin .geq (T 6) (I 0))]) (
    .cond (T 7) (
     .skip) (
     .exit 0))) (
   .trim [0, 2] (
    .block 1 (
     .trim [0, 2] (
      .ops [D 10 (.mv (T 0)),
       D 11 (.mv (T 2)),
       D 12 (.ia 1 (T 10) (T 11)),
       D 13 (.ld1 (T 12)),
       D 14 (.bin .add (T 13) (.const (.int .u8 1))),
       D 15 (.ia 1 (T 10) (T 11)),
       E (.st 1 (T 15) (T 14))]) (
     .seq (
      .ops [D 16 (.mv (T 0)),
       D 17 (.mv (T 2)),
       D 18 (.ia 1 (T 16) (T 17)),
       D 19 (.ld1 (T 18)),
       D 20 (.bin .neq (T 19) (.const (.int .u8 0)))]) (
     .cond (T 20) (
      .ret) (
      .skip))))) (
   .ops [D 8 (.mv (T 2)),
    D 9 (.bin .sub (T 8) (I 1)),
    D 2 (.mv (T 9))])))))⟩
theorem arith_carry_ok : Ok Try.prog 69 arith_carry := ⟨by kernel_rfl, by kernel_rfl⟩

/-- (*diorama/dioramaref13.Encoder).put -/
def dioramaref13_Encoder__put : AF := ⟨133, [],
 .trim [0, 2, 6] (
  .ops [D 8 (.mv (T 0)),
   D 9 (.nil (T 8)),
   D 10 (.fa 1 (T 9)),
   D 11 (.ld1 (T 10)),
   D 12 (.bin .quo (T 11) (I 4096)),
   D 13 (.mv (T 1)),
   D 14 (.bin .mul (T 12) (T 13)),
   D 6 (.mv (T 14))]) (
 .cut [0] (
  .seq (
   .ops [D 15 (.mv (T 2)),
    D 16 (.bin .eql (T 15) (I 0))]) (
  .cond (T 16) (
   .ops [D 17 (.mv (T 0)),
    D 18 (.mv (T 6)),
    D 19 (.nil (T 17)),
    D 20 (.fa 1 (T 19)),
    E (.st 1 (T 20) (T 18))]) (
   .trim [0, 6] (
    .ops [D 21 (.mv (T 0)),
     D 22 (.mv (T 0)),
     D 23 (.nil (T 22)),
     D 24 (.fa 0 (T 23)),
     D 25 (.ld1 (T 24)),
     D 26 (.mv (T 6)),
     D 27 (.bin .add (T 25) (T 26)),
     D 28 (.nil (T 21)),
     D 29 (.fa 0 (T 28)),
     E (.st 1 (T 29) (T 27))]) (
   .ops [D 30 (.mv (T 0)),
    D 31 (.mv (T 0)),
    D 32 (.nil (T 31)),
    D 33 (.fa 1 (T 32)),
    D 34 (.ld1 (T 33)),
    D 35 (.mv (T 6)),
    D 36 (.bin .sub (T 34) (T 35)),
    D 37 (.nil (T 30)),
    D 38 (.fa 1 (T 37)),
    E (.st 1 (T 38) (T 36))])))) (
 .cut [0] (
  .seq (
   .ops [D 39 (.mv (T 0)),
    D 40 (.nil (T 39)),
    D 41 (.fa 0 (T 40)),
    D 42 (.ld1 (T 41)),
    D 43 (.bin .geq (T 42) (I 4294967296))]) (
  .cond (T 43) (
   .trim [0] (
    .ops [D 44 (.mv (T 0)),
     D 45 (.mv (T 0)),
     D 46 (.nil (T 45)),
     D 47 (.fa 0 (T 46)),
     D 48 (.ld1 (T 47)),
     D 49 (.bin .sub (T 48) (I 4294967296)),
     D 50 (.nil (T 44)),
     D 51 (.fa 0 (T 50)),
     E (.st 1 (T 51) (T 49))]) (
   .trim [0, 7] (
    .ops [D 52 (.mv (T 0)),
     D 53 (.nil (T 52)),
     D 54 (.fa 2 (T 53)),
     D 55 (.ld1 (T 54)),
     D 56 (.len (T 55)),
     D 57 (.bin .sub (T 56) (I 1)),
     D 7 (.mv (T 57))]) (
   .trim [0, 7] (
    .block 0 (
     .loop [0, 7] (
      .trim [0, 7] (
       .trim [0, 7, 69] (
        .ops [D 58 (.mv (T 7)),
         D 59 (.bin .geq (T 58) (I 0)),
         D 60 (.mv (T 59)),
         ⟨(some 61), some (60, true), .mv (T 0)⟩,
         ⟨(some 62), some (60, true), .nil (T 61)⟩,
         ⟨(some 63), some (60, true), .fa 2 (T 62)⟩,
         ⟨(some 64), some (60, true), .ld1 (T 63)⟩,
         ⟨(some 65), some (60, true), .mv (T 7)⟩,
         ⟨(some 66), some (60, true), .ia 1 (T 64) (T 65)⟩,
         ⟨(some 67), some (60, true), .ld1 (T 66)⟩,
         ⟨(some 68), some (60, true), .bin .eql (T 67) (.const (.int .u8 255))⟩,
         D 69 (.pick (T 60) (T 68) (.const (.bool false)))]) (
       .cond (T 69) (
        .skip) (
        .exit 0))) (
      .block 1 (
       .trim [0, 7] (
        .ops [D 70 (.mv (T 0)),
         D 71 (.nil (T 70)),
         D 72 (.fa 2 (T 71)),
         D 73 (.ld1 (T 72)),
         D 74 (.mv (T 7)),
         D 75 (.ia 1 (T 73) (T 74)),
         E (.st 1 (T 75) (.const (.int .u8 0)))]) (
       .ops [D 76 (.mv (T 7)),
        D 77 (.bin .sub (T 76) (I 1)),
        D 7 (.mv (T 77))])))))) (
   .seq (
    .ops [D 78 (.mv (T 7)),
     D 79 (.bin .geq (T 78) (I 0))]) (
   .cond (T 79) (
    .ops [D 80 (.mv (T 0)),
     D 81 (.nil (T 80)),
     D 82 (.fa 2 (T 81)),
     D 83 (.ld1 (T 82)),
     D 84 (.mv (T 7)),
     D 85 (.ia 1 (T 83) (T 84)),
     D 86 (.ld1 (T 85)),
     D 87 (.bin .add (T 86) (.const (.int .u8 1))),
     D 88 (.ia 1 (T 83) (T 84)),
     E (.st 1 (T 88) (T 87))]) (
    .skip)))))) (
   .skip))) (
 .trim [0] (
  .block 2 (
   .loop [0] (
    .trim [0] (
     .seq (
      .ops [D 89 (.mv (T 0)),
       D 90 (.nil (T 89)),
       D 91 (.fa 1 (T 90)),
       D 92 (.ld1 (T 91)),
       D 93 (.bin .lss (T 92) (I 16777216))]) (
     .cond (T 93) (
      .skip) (
      .exit 2))) (
    .block 3 (
     .trim [0] (
      .draw [⟨0, 0, 0, D 94 (.mv (T 0))⟩,
       ⟨1, 0, 0, D 95 (.mv (T 0))⟩,
       ⟨2, 0, 2, D 96 (.nil (T 95))⟩,
       ⟨3, 0, 6, D 97 (.fa 2 (T 96))⟩,
       ⟨4, 1, 14, D 98 (.ld1 (T 97))⟩,
       ⟨5, 0, 0, D 99 (.mv (T 0))⟩,
       ⟨6, 0, 32, D 100 (.nil (T 99))⟩,
       ⟨7, 0, 96, D 101 (.fa 0 (T 100))⟩,
       ⟨8, 1, 224, D 102 (.ld1 (T 101))⟩,
       ⟨9, 0, 480, D 103 (.shrc (T 102) 24)⟩,
       ⟨10, 0, 992, D 104 (.cvi .u8 (T 103))⟩,
       ⟨11, 2, 2016, D 105 (.bslice [(.int .u8 0)] 1 [(0, 1, (T 104))])⟩,
       ⟨12, 4, 4094, D 106 (.app 1 1 (T 98) (T 105))⟩,
       ⟨13, 0, 8191, D 107 (.nil (T 94))⟩,
       ⟨14, 0, 16383, D 108 (.fa 2 (T 107))⟩,
       ⟨15, 4, 32767, E (.st 1 (T 108) (T 106))⟩]) (
     .trim [0] (
      .ops [D 109 (.mv (T 0)),
       D 110 (.mv (T 0)),
       D 111 (.nil (T 110)),
       D 112 (.fa 0 (T 111)),
       D 113 (.ld1 (T 112)),
       D 114 (.bin .rem (T 113) (I 16777216)),
       D 115 (.bin .mul (T 114) (I 256)),
       D 116 (.nil (T 109)),
       D 117 (.fa 0 (T 116)),
       E (.st 1 (T 117) (T 115))]) (
     .ops [D 118 (.mv (T 0)),
      D 119 (.mv (T 0)),
      D 120 (.nil (T 119)),
      D 121 (.fa 1 (T 120)),
      D 122 (.ld1 (T 121)),
      D 123 (.bin .mul (T 122) (I 256)),
      D 124 (.nil (T 118)),
      D 125 (.fa 1 (T 124)),
      E (.st 1 (T 125) (T 123))]))))))) (
 .ops [D 126 (.mv (T 0)),
  D 127 (.nil (T 126)),
  D 128 (.fa 3 (T 127)),
  D 129 (.ld1 (T 128)),
  D 130 (.bin .add (T 129) (I 1)),
  D 131 (.nil (T 126)),
  D 132 (.fa 3 (T 131)),
  E (.st 1 (T 132) (T 130))]))))⟩
theorem dioramaref13_Encoder__put_ok : Ok Try.prog 70 dioramaref13_Encoder__put := ⟨by kernel_rfl, by kernel_rfl⟩

/-- diorama/dioramaref13.good -/
def dioramaref13_good : AF := ⟨19, [.tmp 2],
 .seq (
  .ops [D 2 (.mv (.const (.bool false)))]) (
 .trim [0] (
  .seq (
   .ops [D 3 (.mv (I 0))]) (
  .block 0 (
   .loop [0, 3] (
    .seq (
     .seq (
      .ops [D 4 (.mv (T 3)),
       D 5 (.mv (T 0)),
       D 6 (.len (T 5)),
       D 7 (.bin .lss (T 4) (T 6))]) (
     .cond (T 7) (
      .skip) (
      .exit 0))) (
    .trim [0, 3] (
     .block 1 (
      .trim [0, 3, 15] (
       .ops [D 10 (.mv (T 0)),
        D 11 (.mv (T 3)),
        D 12 (.ia 1 (T 10) (T 11)),
        D 13 (.ld1 (T 12)),
        D 14 (.call 26 [(T 13)]),
        D 15 (.un .not (T 14))]) (
      .cond (T 15) (
       .seq (
        .ops [D 2 (.mv (.const (.bool false)))]) (
       .ret)) (
       .skip)))) (
    .ops [D 8 (.mv (T 3)),
     D 9 (.bin .add (T 8) (I 1)),
     D 3 (.mv (T 9))])))))) (
 .seq (
  .ops [D 16 (.mv (T 0)),
   D 17 (.len (T 16)),
   D 18 (.bin .eql (T 17) (I 32)),
   D 2 (.mv (T 18))]) (
 .ret)))⟩
theorem dioramaref13_good_ok : Ok Try.prog 71 dioramaref13_good := ⟨by kernel_rfl, by kernel_rfl⟩

/-- diorama/dioramaref01.Length -/
def dioramaref01_Length : AF := ⟨11, [.tmp 2],
 .seq (
  .ops [D 2 (.mv (I 0))]) (
 .seq (
  .ops [D 3 (.mv (I 0))]) (
 .trim [3] (
  .block 0 (
   .loop [0, 3] (
    .seq (
     .seq (
      .ops [D 4 (.mv (T 0)),
       D 5 (.bin .gtr (T 4) (I 0))]) (
     .cond (T 5) (
      .skip) (
      .exit 0))) (
    .block 1 (
     .seq (
      .ops [D 6 (.mv (T 0)),
       D 7 (.bin .quo (T 6) (I 2)),
       D 0 (.mv (T 7))]) (
     .ops [D 8 (.mv (T 3)),
      D 9 (.bin .add (T 8) (I 1)),
      D 3 (.mv (T 9))])))))) (
 .seq (
  .ops [D 10 (.mv (T 3)),
   D 2 (.mv (T 10))]) (
 .ret))))⟩
theorem dioramaref01_Length_ok : Ok Try.prog 72 dioramaref01_Length := ⟨by kernel_rfl, by kernel_rfl⟩

/-- diorama/dioramaref13.first -/
def dioramaref13_first : AF := ⟨6, [.tmp 2],
 .seq (
  .ops [D 2 (.mv (I 0))]) (
 .seq (
  .seq (
   .ops [D 3 (.mv (T 0)),
    D 4 (.bin .gtr (T 3) (I 15))]) (
  .cond (T 4) (
   .seq (
    .ops [D 2 (.mv (I 15))]) (
   .ret)) (
   .skip))) (
 .seq (
  .ops [D 5 (.mv (T 0)),
   D 2 (.mv (T 5))]) (
 .ret)))⟩
theorem dioramaref13_first_ok : Ok Try.prog 73 dioramaref13_first := ⟨by kernel_rfl, by kernel_rfl⟩

/-- diorama/dioramaref01.Fold -/
def dioramaref01_Fold : AF := ⟨16, [.tmp 2],
 .seq (
  .ops [D 2 (.mv (I 0))]) (
 .trim [0] (
  .trim [0, 8] (
   .ops [D 3 (.mv (T 0)),
    D 4 (.bin .lss (T 3) (I (-2305843009213693952))),
    D 5 (.mv (T 4)),
    ⟨(some 6), some (5, false), .mv (T 0)⟩,
    ⟨(some 7), some (5, false), .bin .gtr (T 6) (I 2305843009213693952)⟩,
    D 8 (.pick (T 5) (.const (.bool true)) (T 7))]) (
  .cond (T 8) (
   .seq (
    .ops [D 2 (.mv (I 0))]) (
   .ret)) (
   .skip))) (
 .trim [0] (
  .seq (
   .ops [D 9 (.mv (T 0)),
    D 10 (.bin .lss (T 9) (I 0))]) (
  .cond (T 10) (
   .seq (
    .ops [D 11 (.mv (T 0)),
     D 12 (.bin .mul (I (-2)) (T 11)),
     D 13 (.bin .sub (T 12) (I 1)),
     D 2 (.mv (T 13))]) (
   .ret)) (
   .skip))) (
 .seq (
  .ops [D 14 (.mv (T 0)),
   D 15 (.bin .mul (I 2) (T 14)),
   D 2 (.mv (T 15))]) (
 .ret))))⟩
theorem dioramaref01_Fold_ok : Ok Try.prog 74 dioramaref01_Fold := ⟨by kernel_rfl, by kernel_rfl⟩

/-- math/bits.Mul -/
def bits_Mul : AF := ⟨30, [.tmp 4, .tmp 5],
 .seq (
  .ops [D 4 (.mv (.const (.int .u64 0))),
   D 5 (.mv (.const (.int .u64 0)))]) (
 .trim [0, 1] (
  .cond (.const (.bool false)) (
   .trim [6, 7] (
    .ops [D 11 (.mv (T 0)),
     D 12 (.cvi .u32 (T 11)),
     D 13 (.mv (T 1)),
     D 14 (.cvi .u32 (T 13)),
     D 15 (.call 80 [(T 12), (T 14)]),
     D 10 (.mv (T 15)),
     D 16 (.ext (T 10) 0),
     D 17 (.ext (T 10) 1),
     D 6 (.mv (T 16)),
     D 7 (.mv (T 17))]) (
   .seq (
    .ops [D 18 (.mv (T 6)),
     D 19 (.cvi .u64 (T 18)),
     D 20 (.mv (T 7)),
     D 21 (.cvi .u64 (T 20)),
     D 4 (.mv (T 19)),
     D 5 (.mv (T 21))]) (
   .ret))) (
   .skip)) (
 .trim [8, 9] (
  .ops [D 23 (.mv (T 0)),
   D 24 (.mv (T 1)),
   D 25 (.call 81 [(T 23), (T 24)]),
   D 22 (.mv (T 25)),
   D 26 (.ext (T 22) 0),
   D 27 (.ext (T 22) 1),
   D 8 (.mv (T 26)),
   D 9 (.mv (T 27))]) (
 .seq (
  .ops [D 28 (.mv (T 8)),
   D 29 (.mv (T 9)),
   D 4 (.mv (T 28)),
   D 5 (.mv (T 29))]) (
 .ret))))⟩
theorem bits_Mul_ok : Ok Try.prog 75 bits_Mul := ⟨by kernel_rfl, by kernel_rfl⟩

/-- (*diorama/dioramaref13.Decoder).get -/
def dioramaref13_Decoder__get : AF := ⟨95, [.tmp 4, .tmp 5],
 .seq (
  .ops [D 4 (.mv (I 0)),
   D 5 (.mv (.const (.bool false)))]) (
 .trim [0, 6] (
  .ops [D 8 (.mv (T 0)),
   D 9 (.nil (T 8)),
   D 10 (.fa 1 (T 9)),
   D 11 (.ld1 (T 10)),
   D 12 (.bin .quo (T 11) (I 4096)),
   D 13 (.mv (T 1)),
   D 14 (.bin .mul (T 12) (T 13)),
   D 6 (.mv (T 14))]) (
 .seq (
  .ops [D 7 (.mv (I 0))]) (
 .cut [0, 7] (
  .trim [0, 6, 7, 20] (
   .ops [D 15 (.mv (T 0)),
    D 16 (.nil (T 15)),
    D 17 (.fa 0 (T 16)),
    D 18 (.ld1 (T 17)),
    D 19 (.mv (T 6)),
    D 20 (.bin .lss (T 18) (T 19))]) (
  .cond (T 20) (
   .ops [D 21 (.mv (T 0)),
    D 22 (.mv (T 6)),
    D 23 (.nil (T 21)),
    D 24 (.fa 1 (T 23)),
    E (.st 1 (T 24) (T 22))]) (
   .seq (
    .ops [D 7 (.mv (I 1))]) (
   .trim [0, 6, 7] (
    .ops [D 25 (.mv (T 0)),
     D 26 (.mv (T 0)),
     D 27 (.nil (T 26)),
     D 28 (.fa 0 (T 27)),
     D 29 (.ld1 (T 28)),
     D 30 (.mv (T 6)),
     D 31 (.bin .sub (T 29) (T 30)),
     D 32 (.nil (T 25)),
     D 33 (.fa 0 (T 32)),
     E (.st 1 (T 33) (T 31))]) (
   .ops [D 34 (.mv (T 0)),
    D 35 (.mv (T 0)),
    D 36 (.nil (T 35)),
    D 37 (.fa 1 (T 36)),
    D 38 (.ld1 (T 37)),
    D 39 (.mv (T 6)),
    D 40 (.bin .sub (T 38) (T 39)),
    D 41 (.nil (T 34)),
    D 42 (.fa 1 (T 41)),
    E (.st 1 (T 42) (T 40))]))))) (
 .trim [7] (
  .block 0 (
   .loop [0, 7] (
    .trim [0, 7] (
     .seq (
      .ops [D 43 (.mv (T 0)),
       D 44 (.nil (T 43)),
       D 45 (.fa 1 (T 44)),
       D 46 (.ld1 (T 45)),
       D 47 (.bin .lss (T 46) (I 16777216))]) (
     .cond (T 47) (
      .skip) (
      .exit 0))) (
    .block 1 (
     .trim [0, 7] (
      .trim [0, 7, 57] (
       .draw [⟨0, 0, 0, D 48 (.mv (T 0))⟩,
        ⟨1, 0, 1, D 49 (.nil (T 48))⟩,
        ⟨2, 0, 3, D 50 (.fa 2 (T 49))⟩,
        ⟨3, 1, 7, D 51 (.ld1 (T 50))⟩,
        ⟨4, 0, 0, D 52 (.mv (T 0))⟩,
        ⟨5, 0, 16, D 53 (.nil (T 52))⟩,
        ⟨6, 0, 48, D 54 (.fa 3 (T 53))⟩,
        ⟨7, 1, 112, D 55 (.ld1 (T 54))⟩,
        ⟨8, 0, 240, D 56 (.len (T 55))⟩,
        ⟨9, 0, 511, D 57 (.bin .geq (T 51) (T 56))⟩]) (
      .cond (T 57) (
       .seq (
        .ops [D 4 (.mv (I 0)),
         D 5 (.mv (.const (.bool false)))]) (
       .ret)) (
       .skip))) (
     .trim [0, 7] (
      .draw [⟨0, 0, 0, D 58 (.mv (T 0))⟩,
       ⟨1, 0, 0, D 59 (.mv (T 0))⟩,
       ⟨2, 0, 2, D 60 (.nil (T 59))⟩,
       ⟨3, 0, 6, D 61 (.fa 0 (T 60))⟩,
       ⟨4, 1, 14, D 62 (.ld1 (T 61))⟩,
       ⟨5, 0, 30, D 63 (.bin .rem (T 62) (I 16777216))⟩,
       ⟨6, 0, 62, D 64 (.bin .mul (T 63) (I 256))⟩,
       ⟨7, 0, 0, D 65 (.mv (T 0))⟩,
       ⟨8, 0, 128, D 66 (.nil (T 65))⟩,
       ⟨9, 0, 384, D 67 (.fa 3 (T 66))⟩,
       ⟨10, 1, 896, D 68 (.ld1 (T 67))⟩,
       ⟨11, 0, 0, D 69 (.mv (T 0))⟩,
       ⟨12, 0, 2048, D 70 (.nil (T 69))⟩,
       ⟨13, 0, 6144, D 71 (.fa 2 (T 70))⟩,
       ⟨14, 1, 14336, D 72 (.ld1 (T 71))⟩,
       ⟨15, 0, 32640, D 73 (.ia 1 (T 68) (T 72))⟩,
       ⟨16, 1, 65408, D 74 (.ld1 (T 73))⟩,
       ⟨17, 0, 130944, D 75 (.cvi .i64 (T 74))⟩,
       ⟨18, 0, 262142, D 76 (.bin .add (T 64) (T 75))⟩,
       ⟨19, 0, 524287, D 77 (.nil (T 58))⟩,
       ⟨20, 0, 1048575, D 78 (.fa 0 (T 77))⟩,
       ⟨21, 4, 2097151, E (.st 1 (T 78) (T 76))⟩]) (
     .trim [0, 7] (
      .ops [D 79 (.mv (T 0)),
       D 80 (.mv (T 0)),
       D 81 (.nil (T 80)),
       D 82 (.fa 1 (T 81)),
       D 83 (.ld1 (T 82)),
       D 84 (.bin .mul (T 83) (I 256)),
       D 85 (.nil (T 79)),
       D 86 (.fa 1 (T 85)),
       E (.st 1 (T 86) (T 84))]) (
     .ops [D 87 (.mv (T 0)),
      D 88 (.nil (T 87)),
      D 89 (.fa 2 (T 88)),
      D 90 (.ld1 (T 89)),
      D 91 (.bin .add (T 90) (I 1)),
      D 92 (.nil (T 87)),
      D 93 (.fa 2 (T 92)),
      E (.st 1 (T 93) (T 91))])))))))) (
 .seq (
  .ops [D 94 (.mv (T 7)),
   D 4 (.mv (T 94)),
   D 5 (.mv (.const (.bool true)))]) (
 .ret))))))⟩
theorem dioramaref13_Decoder__get_ok : Ok Try.prog 76 dioramaref13_Decoder__get := ⟨by kernel_rfl, by kernel_rfl⟩

/-- diorama/dioramaref01.Unfold -/
def dioramaref01_Unfold : AF := ⟨18, [.tmp 2],
 .seq (
  .ops [D 2 (.mv (I 0))]) (
 .trim [0] (
  .trim [0, 8] (
   .ops [D 3 (.mv (T 0)),
    D 4 (.bin .lss (T 3) (I 0)),
    D 5 (.mv (T 4)),
    ⟨(some 6), some (5, false), .mv (T 0)⟩,
    ⟨(some 7), some (5, false), .bin .gtr (T 6) (I 4611686018427387904)⟩,
    D 8 (.pick (T 5) (.const (.bool true)) (T 7))]) (
  .cond (T 8) (
   .seq (
    .ops [D 2 (.mv (I 0))]) (
   .ret)) (
   .skip))) (
 .trim [0] (
  .seq (
   .ops [D 9 (.mv (T 0)),
    D 10 (.bin .rem (T 9) (I 2)),
    D 11 (.bin .eql (T 10) (I 1))]) (
  .cond (T 11) (
   .seq (
    .ops [D 12 (.mv (T 0)),
     D 13 (.bin .quo (T 12) (I 2)),
     D 14 (.un .neg (T 13)),
     D 15 (.bin .sub (T 14) (I 1)),
     D 2 (.mv (T 15))]) (
   .ret)) (
   .skip))) (
 .seq (
  .ops [D 16 (.mv (T 0)),
   D 17 (.bin .quo (T 16) (I 2)),
   D 2 (.mv (T 17))]) (
 .ret))))⟩
theorem dioramaref01_Unfold_ok : Ok Try.prog 77 dioramaref01_Unfold := ⟨by kernel_rfl, by kernel_rfl⟩

/-- slices.IndexFunc[[]int,int] -/
def slices_IndexFunc___int_int_ : AF := ⟨19, [.tmp 4],
 .seq (
  .ops [D 4 (.mv (I 0))]) (
 .trim [] (
  .seq (
   .ops [D 6 (.mv (T 0)),
    D 7 (.len (T 6)),
    D 8 (.mv (I 0))]) (
  .block 0 (
   .loop [0, 1, 7, 8] (
    .seq (
     .ops [D 9 (.bin .lss (T 8) (T 7))]) (
    .seq (
     .cond (T 9) (
      .skip) (
      .exit 0)) (
    .trim [0, 1, 7, 8] (
     .block 1 (
      .seq (
       .ops [D 10 (.mv (T 8)),
        D 5 (.mv (T 10))]) (
      .trim [0, 1, 5, 7, 8, 16] (
       .ops [D 11 (.mv (T 1)),
        D 12 (.mv (T 0)),
        D 13 (.mv (T 5)),
        D 14 (.ia 1 (T 12) (T 13)),
        D 15 (.ld1 (T 14)),
        D 16 (.callv (T 11) [(T 15)])]) (
      .cond (T 16) (
       .seq (
        .ops [D 17 (.mv (T 5)),
         D 4 (.mv (T 17))]) (
       .ret)) (
       .skip))))) (
    .ops [D 18 (.bin .add (T 8) (I 1)),
     D 8 (.mv (T 18))]))))))) (
 .seq (
  .ops [D 4 (.mv (I (-1)))]) (
 .ret)))⟩
theorem slices_IndexFunc___int_int__ok : Ok Try.prog 78 slices_IndexFunc___int_int_ := ⟨by kernel_rfl, by kernel_rfl⟩

/-- (*diorama/arith.Decoder).number$1 -/
def arith_Decoder__number_1 : AF := ⟨33, [.tmp 4, .tmp 5],
 .seq (
  .ops [D 4 (.mv (I 0)),
   D 5 (.mv (I 0))]) (
 .trim [0, 2, 6, 7] (
  .draw [⟨0, 1, 0, D 9 (.ld1 (T 1))⟩,
   ⟨1, 1, 0, D 10 (.ld1 (T 2))⟩,
   ⟨2, 0, 0, D 11 (.mv (T 0))⟩,
   ⟨3, 0, 2, D 12 (.nil (T 10))⟩,
   ⟨4, 0, 14, D 13 (.iaa 32 1 (T 12) (T 11))⟩,
   ⟨5, 1, 30, D 14 (.ld1 (T 13))⟩,
   ⟨6, 4, 63, D 15 (.call 65 [(T 9), (T 14)])⟩,
   ⟨7, 0, 127, D 8 (.mv (T 15))⟩,
   ⟨8, 0, 255, D 16 (.ext (T 8) 0)⟩,
   ⟨9, 0, 255, D 17 (.ext (T 8) 1)⟩,
   ⟨10, 0, 511, D 6 (.mv (T 16))⟩,
   ⟨11, 0, 2047, D 7 (.mv (T 17))⟩]) (
 .trim [6, 7] (
  .seq (
   .ops [D 18 (.mv (T 7)),
    D 19 (.bin .eql (T 18) (I 0))]) (
  .cond (T 19) (
   .draw [⟨0, 1, 0, D 20 (.ld1 (T 2))⟩,
    ⟨1, 0, 0, D 21 (.mv (T 0))⟩,
    ⟨2, 1, 0, D 22 (.ld1 (T 2))⟩,
    ⟨3, 0, 0, D 23 (.mv (T 0))⟩,
    ⟨4, 0, 4, D 24 (.nil (T 22))⟩,
    ⟨5, 0, 28, D 25 (.iaa 32 1 (T 24) (T 23))⟩,
    ⟨6, 1, 60, D 26 (.ld1 (T 25))⟩,
    ⟨7, 0, 0, D 27 (.mv (T 6))⟩,
    ⟨9, 0, 1, D 29 (.nil (T 20))⟩,
    ⟨8, 4, 252, D 28 (.call 47 [(T 26), (T 27)])⟩,
    ⟨10, 0, 1023, D 30 (.iaa 32 1 (T 29) (T 21))⟩,
    ⟨11, 4, 2047, E (.st 1 (T 30) (T 28))⟩]) (
   .skip))) (
 .seq (
  .ops [D 31 (.mv (T 6)),
   D 32 (.mv (T 7)),
   D 4 (.mv (T 31)),
   D 5 (.mv (T 32))]) (
 .ret))))⟩
theorem arith_Decoder__number_1_ok : Ok Try.prog 79 arith_Decoder__number_1 := ⟨by kernel_rfl, by kernel_rfl⟩

/-- math/bits.Mul32 -/
def bits_Mul32 : AF := ⟨17, [.tmp 4, .tmp 5],
 .seq (
  .ops [D 4 (.mv (.const (.int .u32 0))),
   D 5 (.mv (.const (.int .u32 0)))]) (
 .trim [6] (
  .ops [D 7 (.mv (T 0)),
   D 8 (.cvi .u64 (T 7)),
   D 9 (.mv (T 1)),
   D 10 (.cvi .u64 (T 9)),
   D 11 (.bin .mul (T 8) (T 10)),
   D 6 (.mv (T 11))]) (
 .trim [4, 5] (
  .ops [D 12 (.mv (T 6)),
   D 13 (.shrc (T 12) 32),
   D 14 (.cvi .u32 (T 13)),
   D 15 (.mv (T 6)),
   D 16 (.cvi .u32 (T 15)),
   D 4 (.mv (T 14)),
   D 5 (.mv (T 16))]) (
 .ret)))⟩
theorem bits_Mul32_ok : Ok Try.prog 80 bits_Mul32 := ⟨by kernel_rfl, by kernel_rfl⟩

/-- math/bits.Mul64 -/
def bits_Mul64 : AF := ⟨51, [.tmp 4, .tmp 5],
 .seq (
  .ops [D 4 (.mv (.const (.int .u64 0))),
   D 5 (.mv (.const (.int .u64 0)))]) (
 .seq (
  .ops [D 14 (.mv (T 0)),
   D 15 (.bin .and (T 14) (.const (.int .u64 4294967295))),
   D 6 (.mv (T 15))]) (
 .seq (
  .ops [D 16 (.mv (T 0)),
   D 17 (.shrc (T 16) 32),
   D 7 (.mv (T 17))]) (
 .seq (
  .ops [D 18 (.mv (T 1)),
   D 19 (.bin .and (T 18) (.const (.int .u64 4294967295))),
   D 8 (.mv (T 19))]) (
 .seq (
  .ops [D 20 (.mv (T 1)),
   D 21 (.shrc (T 20) 32),
   D 9 (.mv (T 21))]) (
 .seq (
  .ops [D 22 (.mv (T 6)),
   D 23 (.mv (T 8)),
   D 24 (.bin .mul (T 22) (T 23)),
   D 10 (.mv (T 24))]) (
 .trim [0, 1, 6, 7, 9, 11] (
  .ops [D 25 (.mv (T 7)),
   D 26 (.mv (T 8)),
   D 27 (.bin .mul (T 25) (T 26)),
   D 28 (.mv (T 10)),
   D 29 (.shrc (T 28) 32),
   D 30 (.bin .add (T 27) (T 29)),
   D 11 (.mv (T 30))]) (
 .seq (
  .ops [D 31 (.mv (T 11)),
   D 32 (.bin .and (T 31) (.const (.int .u64 4294967295))),
   D 12 (.mv (T 32))]) (
 .seq (
  .ops [D 33 (.mv (T 11)),
   D 34 (.shrc (T 33) 32),
   D 13 (.mv (T 34))]) (
 .trim [0, 1, 7, 9, 12, 13] (
  .ops [D 35 (.mv (T 12)),
   D 36 (.mv (T 6)),
   D 37 (.mv (T 9)),
   D 38 (.bin .mul (T 36) (T 37)),
   D 39 (.bin .add (T 35) (T 38)),
   D 12 (.mv (T 39))]) (
 .trim [0, 1, 4] (
  .ops [D 40 (.mv (T 7)),
   D 41 (.mv (T 9)),
   D 42 (.bin .mul (T 40) (T 41)),
   D 43 (.mv (T 13)),
   D 44 (.bin .add (T 42) (T 43)),
   D 45 (.mv (T 12)),
   D 46 (.shrc (T 45) 32),
   D 47 (.bin .add (T 44) (T 46)),
   D 4 (.mv (T 47))]) (
 .seq (
  .ops [D 48 (.mv (T 0)),
   D 49 (.mv (T 1)),
   D 50 (.bin .mul (T 48) (T 49)),
   D 5 (.mv (T 50))]) (
 .ret))))))))))))⟩
theorem bits_Mul64_ok : Ok Try.prog 81 bits_Mul64 := ⟨by kernel_rfl, by kernel_rfl⟩

end Go.Proofs.Ytholkooikmbamaa.Af
