/- The functions of the program in the abstract machine's words, printed by a program of ours; each is the program's by the kernel's reckoning.
   Conditions: none. -/
import Derived.Test.YtloonniiffbopaaAmZ
import Derived.Test.YtloonniiffbopaaProg
namespace Go.Proofs.Ytloonniiffbopaa.Af
open Go Go.RowKit Go.Proofs.Ytloonniiffbopaa.Am
theorem hm : Try.prog.follows .mixedOrders = true := by kernel_rfl
/-- diorama/dioramalaw21.CryptBlocks -/
def dioramalaw21_CryptBlocks : AF := ⟨100, [.tmp 2],
 .seq (
  .ops [D 1 (.box (T 0)),
   D 2 (.mv (.const (.bool false)))]) (
 .trim [3, 4, 5, 6, 7] (
  .draw [⟨0, 0, 0, D 16 (.fa 0 (T 1))⟩,
   ⟨1, 1, 1, D 17 (.ld1 (T 16))⟩,
   ⟨2, 0, 0, D 18 (.fa 1 (T 1))⟩,
   ⟨3, 1, 4, D 19 (.ld1 (T 18))⟩,
   ⟨4, 0, 0, D 20 (.fa 2 (T 1))⟩,
   ⟨5, 1, 16, D 21 (.ld1 (T 20))⟩,
   ⟨6, 0, 0, D 22 (.fa 3 (T 1))⟩,
   ⟨7, 1, 64, D 23 (.ld1 (T 22))⟩,
   ⟨8, 0, 0, D 24 (.fa 4 (T 1))⟩,
   ⟨9, 1, 256, D 25 (.ld1 (T 24))⟩,
   ⟨10, 0, 3, D 3 (.mv (T 17))⟩,
   ⟨11, 0, 1039, D 4 (.mv (T 19))⟩,
   ⟨12, 0, 3135, D 5 (.mv (T 21))⟩,
   ⟨13, 0, 7423, D 6 (.mv (T 23))⟩,
   ⟨14, 0, 16383, D 7 (.mv (T 25))⟩]) (
 .trim [3, 4, 5, 6, 7] (
  .trim [3, 4, 5, 6, 7, 33] (
   .ops [D 26 (.mv (T 3)),
    D 27 (.len (T 26)),
    D 28 (.bin .gtr (T 27) (I 100)),
    D 29 (.mv (T 28)),
    ⟨(some 30), some (29, false), .mv (T 6)⟩,
    ⟨(some 31), some (29, false), .len (T 30)⟩,
    ⟨(some 32), some (29, false), .bin .gtr (T 31) (I 100)⟩,
    D 33 (.pick (T 29) (.const (.bool true)) (T 32))]) (
  .cond (T 33) (
   .seq (
    .ops [D 2 (.mv (.const (.bool true)))]) (
   .ret)) (
   .skip))) (
 .trim [3, 4, 5, 6, 7, 8, 9] (
  .ops [D 35 (.mv (T 3)),
   D 36 (.mv (T 4)),
   D 37 (.mv (T 5)),
   D 38 (.call 8 [(T 35), (T 36), (T 37)]),
   D 34 (.mv (T 38)),
   D 39 (.ext (T 34) 0),
   D 40 (.ext (T 34) 1),
   D 8 (.mv (T 39)),
   D 9 (.mv (T 40))]) (
 .trim [3, 4, 5, 6, 7, 8, 9, 10, 11] (
  .ops [D 42 (.mv (T 3)),
   D 43 (.mv (T 4)),
   D 44 (.mv (T 5)),
   D 45 (.call 9 [(T 42), (T 43), (T 44)]),
   D 41 (.mv (T 45)),
   D 46 (.ext (T 41) 0),
   D 47 (.ext (T 41) 1),
   D 10 (.mv (T 46)),
   D 11 (.mv (T 47))]) (
 .trim [3, 4, 5, 6, 7, 8, 9] (
  .trim [3, 4, 5, 6, 7, 8, 9, 56] (
   .ops [D 48 (.mv (T 9)),
    D 49 (.mv (T 11)),
    D 50 (.bin .neq (T 48) (T 49)),
    D 51 (.mv (T 50)),
    ⟨(some 52), some (51, false), .mv (T 8)⟩,
    ⟨(some 53), some (51, false), .mv (T 10)⟩,
    ⟨(some 54), some (51, false), .call 10 [(T 52), (T 53)]⟩,
    ⟨(some 55), some (51, false), .un .not (T 54)⟩,
    D 56 (.pick (T 51) (.const (.bool true)) (T 55))]) (
  .cond (T 56) (
   .seq (
    .ops [D 2 (.mv (.const (.bool false)))]) (
   .ret)) (
   .skip))) (
 .seq (
  .seq (
   .ops [D 57 (.mv (T 9)),
    D 58 (.bin .neq (T 57) (I 0))]) (
  .cond (T 58) (
   .seq (
    .ops [D 59 (.call 11 []),
     D 2 (.mv (T 59))]) (
   .ret)) (
   .skip))) (
 .trim [3, 4, 5, 6, 7, 8, 12, 13] (
  .ops [D 61 (.mv (T 6)),
   D 62 (.mv (T 4)),
   D 63 (.mv (T 5)),
   D 64 (.call 8 [(T 61), (T 62), (T 63)]),
   D 60 (.mv (T 64)),
   D 65 (.ext (T 60) 0),
   D 66 (.ext (T 60) 1),
   D 12 (.mv (T 65)),
   D 13 (.mv (T 66))]) (
 .trim [3, 4, 5, 7, 8] (
  .trim [3, 4, 5, 7, 8, 79] (
   .ops [D 67 (.mv (T 13)),
    D 68 (.bin .eql (T 67) (I 0)),
    D 69 (.mv (T 68)),
    ⟨(some 70), some (69, true), .mv (T 6)⟩,
    ⟨(some 71), some (69, true), .mv (T 3)⟩,
    ⟨(some 72), some (69, true), .call 10 [(T 70), (T 71)]⟩,
    ⟨(some 73), some (69, true), .un .not (T 72)⟩,
    D 74 (.pick (T 69) (T 73) (.const (.bool false))),
    D 75 (.mv (T 74)),
    ⟨(some 76), some (75, true), .mv (T 12)⟩,
    ⟨(some 77), some (75, true), .mv (T 8)⟩,
    ⟨(some 78), some (75, true), .call 10 [(T 76), (T 77)]⟩,
    D 79 (.pick (T 75) (T 78) (.const (.bool false)))]) (
  .cond (T 79) (
   .seq (
    .ops [D 2 (.mv (.const (.bool false)))]) (
   .ret)) (
   .skip))) (
 .trim [4, 7, 8, 14, 15] (
  .ops [D 81 (.mv (T 3)),
   D 82 (.mv (T 7)),
   D 83 (.mv (T 5)),
   D 84 (.call 8 [(T 81), (T 82), (T 83)]),
   D 80 (.mv (T 84)),
   D 85 (.ext (T 80) 0),
   D 86 (.ext (T 80) 1),
   D 14 (.mv (T 85)),
   D 15 (.mv (T 86))]) (
 .trim [] (
  .trim [98] (
   .ops [D 87 (.mv (T 15)),
    D 88 (.bin .eql (T 87) (I 0)),
    D 89 (.mv (T 88)),
    ⟨(some 90), some (89, true), .mv (T 7)⟩,
    ⟨(some 91), some (89, true), .mv (T 4)⟩,
    ⟨(some 92), some (89, true), .bin .neq (T 90) (T 91)⟩,
    D 93 (.pick (T 89) (T 92) (.const (.bool false))),
    D 94 (.mv (T 93)),
    ⟨(some 95), some (94, true), .mv (T 14)⟩,
    ⟨(some 96), some (94, true), .mv (T 8)⟩,
    ⟨(some 97), some (94, true), .call 10 [(T 95), (T 96)]⟩,
    D 98 (.pick (T 94) (T 97) (.const (.bool false)))]) (
  .cond (T 98) (
   .seq (
    .ops [D 2 (.mv (.const (.bool false)))]) (
   .ret)) (
   .skip))) (
 .seq (
  .ops [D 99 (.call 11 []),
   D 2 (.mv (T 99))]) (
 .ret))))))))))))⟩
theorem dioramalaw21_CryptBlocks_ok : Ok Try.prog 3 dioramalaw21_CryptBlocks := ⟨by kernel_rfl, by kernel_rfl⟩

/-- diorama/dioramalaw21.CryptSecrets -/
def dioramalaw21_CryptSecrets : AF := ⟨43, [.tmp 4],
 .seq (
  .ops [D 2 (.box (T 0)),
   D 4 (.mv (.const (.bool false)))]) (
 .trim [1, 2] (
  .seq (
   .ops [D 9 (.fa 4 (T 2)),
    D 10 (.ld1 (T 9)),
    D 11 (.len (T 10)),
    D 12 (.bin .gtr (T 11) (I 100))]) (
  .cond (T 12) (
   .seq (
    .ops [D 4 (.mv (.const (.bool true)))]) (
   .ret)) (
   .skip))) (
 .trim [1, 2, 5, 6] (
  .ops [D 14 (.ldN 5 (T 2)),
   D 15 (.mv (T 1)),
   D 16 (.call 12 [(T 14), (T 15)]),
   D 13 (.mv (T 16)),
   D 17 (.ext (T 13) 0),
   D 18 (.ext (T 13) 1),
   D 5 (.mv (T 17)),
   D 6 (.mv (T 18))]) (
 .trim [2, 5, 6, 7, 8] (
  .ops [D 20 (.ldN 5 (T 2)),
   D 21 (.mv (T 1)),
   D 22 (.call 13 [(T 20), (T 21)]),
   D 19 (.mv (T 22)),
   D 23 (.ext (T 19) 0),
   D 24 (.ext (T 19) 1),
   D 7 (.mv (T 23)),
   D 8 (.mv (T 24))]) (
 .trim [4] (
  .draw [⟨0, 0, 0, D 25 (.mv (T 6))⟩,
   ⟨1, 0, 0, D 26 (.mv (T 8))⟩,
   ⟨2, 0, 3, D 27 (.bin .eql (T 25) (T 26))⟩,
   ⟨3, 0, 7, D 28 (.mv (T 27))⟩,
   ⟨4, 0, 15, ⟨(some 29), some (28, true), .mv (T 5)⟩⟩,
   ⟨5, 0, 15, ⟨(some 30), some (28, true), .mv (T 7)⟩⟩,
   ⟨6, 4, 63, ⟨(some 31), some (28, true), .call 14 [(T 29), (T 30)]⟩⟩,
   ⟨7, 0, 127, D 32 (.pick (T 28) (T 31) (.const (.bool false)))⟩,
   ⟨8, 0, 255, D 33 (.mv (T 32))⟩,
   ⟨9, 1, 511, ⟨(some 34), some (33, true), .ldN 5 (T 2)⟩⟩,
   ⟨11, 1, 511, ⟨(some 36), some (33, true), .ldN 5 (T 2)⟩⟩,
   ⟨10, 4, 1023, ⟨(some 35), some (33, true), .call 15 [(T 34)]⟩⟩,
   ⟨12, 4, 4095, ⟨(some 37), some (33, true), .call 16 [(T 36)]⟩⟩,
   ⟨13, 0, 8191, ⟨(some 38), some (33, true), .bin .eql (T 35) (T 37)⟩⟩,
   ⟨14, 0, 16383, D 39 (.pick (T 33) (T 38) (.const (.bool false)))⟩,
   ⟨15, 0, 32767, D 40 (.mv (T 39))⟩,
   ⟨16, 4, 65535, ⟨(some 41), some (40, true), .call 11 []⟩⟩,
   ⟨17, 0, 131071, D 42 (.pick (T 40) (T 41) (.const (.bool false)))⟩,
   ⟨18, 0, 262143, D 4 (.mv (T 42))⟩]) (
 .ret)))))⟩
theorem dioramalaw21_CryptSecrets_ok : Ok Try.prog 4 dioramalaw21_CryptSecrets := ⟨by kernel_rfl, by kernel_rfl⟩

/-- diorama/dioramalaw21.CryptProtects -/
def dioramalaw21_CryptProtects : AF := ⟨127, [.tmp 6],
 .seq (
  .ops [D 4 (.box (T 1)),
   D 6 (.mv (.const (.bool false)))]) (
 .trim [0, 2, 4] (
  .trim [0, 2, 4, 30] (
   .ops [D 17 (.mv (T 0)),
    D 18 (.len (T 17)),
    D 19 (.bin .gtr (T 18) (I 70000)),
    D 20 (.mv (T 19)),
    ⟨(some 21), some (20, false), .fa 4 (T 4)⟩,
    ⟨(some 22), some (20, false), .ld1 (T 21)⟩,
    ⟨(some 23), some (20, false), .len (T 22)⟩,
    ⟨(some 24), some (20, false), .bin .gtr (T 23) (I 100)⟩,
    D 25 (.pick (T 20) (.const (.bool true)) (T 24)),
    D 26 (.mv (T 25)),
    ⟨(some 27), some (26, false), .mv (T 2)⟩,
    ⟨(some 28), some (26, false), .len (T 27)⟩,
    ⟨(some 29), some (26, false), .bin .gtr (T 28) (I 20)⟩,
    D 30 (.pick (T 26) (.const (.bool true)) (T 29))]) (
  .cond (T 30) (
   .seq (
    .ops [D 6 (.mv (.const (.bool true)))]) (
   .ret)) (
   .skip))) (
 .trim [0, 2, 4, 7, 8] (
  .ops [D 32 (.mv (T 0)),
   D 33 (.ldN 5 (T 4)),
   D 34 (.mv (T 2)),
   D 35 (.call 17 [(T 32), (T 33), (T 34)]),
   D 31 (.mv (T 35)),
   D 36 (.ext (T 31) 0),
   D 37 (.ext (T 31) 1),
   D 7 (.mv (T 36)),
   D 8 (.mv (T 37))]) (
 .trim [0, 2, 4, 7, 8, 9, 10] (
  .ops [D 39 (.mv (T 0)),
   D 40 (.ldN 5 (T 4)),
   D 41 (.mv (T 2)),
   D 42 (.call 18 [(T 39), (T 40), (T 41)]),
   D 38 (.mv (T 42)),
   D 43 (.ext (T 38) 0),
   D 44 (.ext (T 38) 1),
   D 9 (.mv (T 43)),
   D 10 (.mv (T 44))]) (
 .trim [0, 2, 4, 7, 8] (
  .trim [0, 2, 4, 7, 8, 53] (
   .ops [D 45 (.mv (T 8)),
    D 46 (.mv (T 10)),
    D 47 (.bin .neq (T 45) (T 46)),
    D 48 (.mv (T 47)),
    ⟨(some 49), some (48, false), .mv (T 7)⟩,
    ⟨(some 50), some (48, false), .mv (T 9)⟩,
    ⟨(some 51), some (48, false), .call 10 [(T 49), (T 50)]⟩,
    ⟨(some 52), some (48, false), .un .not (T 51)⟩,
    D 53 (.pick (T 48) (.const (.bool true)) (T 52))]) (
  .cond (T 53) (
   .seq (
    .ops [D 6 (.mv (.const (.bool false)))]) (
   .ret)) (
   .skip))) (
 .seq (
  .seq (
   .ops [D 54 (.mv (T 8)),
    D 55 (.bin .neq (T 54) (I 0))]) (
  .cond (T 55) (
   .seq (
    .ops [D 56 (.call 11 []),
     D 6 (.mv (T 56))]) (
   .ret)) (
   .skip))) (
 .trim [0, 4, 7, 11, 12] (
  .ops [D 58 (.mv (T 7)),
   D 59 (.ldN 5 (T 4)),
   D 60 (.mv (T 2)),
   D 61 (.call 17 [(T 58), (T 59), (T 60)]),
   D 57 (.mv (T 61)),
   D 62 (.ext (T 57) 0),
   D 63 (.ext (T 57) 1),
   D 11 (.mv (T 62)),
   D 12 (.mv (T 63))]) (
 .trim [0, 4, 7] (
  .trim [0, 4, 7, 71] (
   .ops [D 64 (.mv (T 12)),
    D 65 (.bin .neq (T 64) (I 0)),
    D 66 (.mv (T 65)),
    ⟨(some 67), some (66, false), .mv (T 11)⟩,
    ⟨(some 68), some (66, false), .mv (T 0)⟩,
    ⟨(some 69), some (66, false), .call 10 [(T 67), (T 68)]⟩,
    ⟨(some 70), some (66, false), .un .not (T 69)⟩,
    D 71 (.pick (T 66) (.const (.bool true)) (T 70))]) (
  .cond (T 71) (
   .seq (
    .ops [D 6 (.mv (.const (.bool false)))]) (
   .ret)) (
   .skip))) (
 .trim [0, 7, 13, 14] (
  .ops [D 73 (.ldN 5 (T 4)),
   D 74 (.mv (T 0)),
   D 75 (.len (T 74)),
   D 76 (.call 12 [(T 73), (T 75)]),
   D 72 (.mv (T 76)),
   D 77 (.ext (T 72) 0),
   D 78 (.ext (T 72) 1),
   D 13 (.mv (T 77)),
   D 14 (.mv (T 78))]) (
 .seq (
  .seq (
   .ops [D 79 (.mv (T 14)),
    D 80 (.bin .neq (T 79) (I 0))]) (
  .cond (T 80) (
   .seq (
    .ops [D 6 (.mv (.const (.bool false)))]) (
   .ret)) (
   .skip))) (
 .seq (
  .ops [D 15 (.mv (I 0))]) (
 .trim [] (
  .seq (
   .ops [D 16 (.mv (I 0))]) (
  .block 0 (
   .loop [0, 7, 13, 15, 16] (
    .seq (
     .seq (
      .ops [D 81 (.mv (T 16)),
       D 82 (.mv (T 0)),
       D 83 (.len (T 82)),
       D 84 (.bin .lss (T 81) (T 83))]) (
     .cond (T 84) (
      .skip) (
      .exit 0))) (
    .trim [0, 7, 13, 15, 16] (
     .block 1 (
      .trim [0, 7, 13, 15, 16] (
       .block 2 (
        .loop [0, 7, 13, 15, 16] (
         .trim [0, 7, 13, 15, 16] (
          .trim [0, 7, 13, 15, 16, 99] (
           .ops [D 87 (.mv (T 15)),
            D 88 (.mv (T 13)),
            D 89 (.len (T 88)),
            D 90 (.bin .lss (T 87) (T 89)),
            D 91 (.mv (T 90)),
            ⟨(some 92), some (91, true), .mv (T 13)⟩,
            ⟨(some 93), some (91, true), .mv (T 15)⟩,
            ⟨(some 94), some (91, true), .ia 2 (T 92) (T 93)⟩,
            ⟨(some 95), some (91, true), .iaa 2 1 (T 94) (I 1)⟩,
            ⟨(some 96), some (91, true), .ld1 (T 95)⟩,
            ⟨(some 97), some (91, true), .mv (T 16)⟩,
            ⟨(some 98), some (91, true), .bin .leq (T 96) (T 97)⟩,
            D 99 (.pick (T 91) (T 98) (.const (.bool false)))]) (
          .cond (T 99) (
           .skip) (
           .exit 2))) (
         .block 3 (
          .ops [D 100 (.mv (T 15)),
           D 101 (.bin .add (T 100) (I 1)),
           D 15 (.mv (T 101))]))))) (
      .trim [0, 7, 13, 15, 16, 125] (
       .draw [⟨0, 0, 0, D 102 (.mv (T 15))⟩,
        ⟨1, 0, 0, D 103 (.mv (T 13))⟩,
        ⟨2, 0, 2, D 104 (.len (T 103))⟩,
        ⟨3, 0, 7, D 105 (.bin .geq (T 102) (T 104))⟩,
        ⟨4, 0, 15, D 106 (.mv (T 105))⟩,
        ⟨5, 0, 31, ⟨(some 107), some (106, false), .mv (T 16)⟩⟩,
        ⟨6, 0, 31, ⟨(some 108), some (106, false), .mv (T 13)⟩⟩,
        ⟨7, 0, 31, ⟨(some 109), some (106, false), .mv (T 15)⟩⟩,
        ⟨8, 0, 223, ⟨(some 110), some (106, false), .ia 2 (T 108) (T 109)⟩⟩,
        ⟨9, 0, 479, ⟨(some 111), some (106, false), .iaa 2 1 (T 110) (I 0)⟩⟩,
        ⟨10, 1, 991, ⟨(some 112), some (106, false), .ld1 (T 111)⟩⟩,
        ⟨11, 0, 2047, ⟨(some 113), some (106, false), .bin .lss (T 107) (T 112)⟩⟩,
        ⟨12, 0, 4095, D 114 (.pick (T 106) (.const (.bool true)) (T 113))⟩,
        ⟨13, 0, 8191, D 115 (.mv (T 114))⟩,
        ⟨14, 0, 16383, ⟨(some 116), some (115, true), .mv (T 7)⟩⟩,
        ⟨15, 0, 16383, ⟨(some 117), some (115, true), .mv (T 16)⟩⟩,
        ⟨16, 0, 65535, ⟨(some 118), some (115, true), .ia 1 (T 116) (T 117)⟩⟩,
        ⟨17, 1, 131071, ⟨(some 119), some (115, true), .ld1 (T 118)⟩⟩,
        ⟨18, 0, 16383, ⟨(some 120), some (115, true), .mv (T 0)⟩⟩,
        ⟨19, 0, 16383, ⟨(some 121), some (115, true), .mv (T 16)⟩⟩,
        ⟨20, 0, 802815, ⟨(some 122), some (115, true), .ia 1 (T 120) (T 121)⟩⟩,
        ⟨21, 1, 1851391, ⟨(some 123), some (115, true), .ld1 (T 122)⟩⟩,
        ⟨22, 0, 4194303, ⟨(some 124), some (115, true), .bin .neq (T 119) (T 123)⟩⟩,
        ⟨23, 0, 8388607, D 125 (.pick (T 115) (T 124) (.const (.bool false)))⟩]) (
      .cond (T 125) (
       .seq (
        .ops [D 6 (.mv (.const (.bool false)))]) (
       .ret)) (
       .skip))))) (
    .ops [D 85 (.mv (T 16)),
     D 86 (.bin .add (T 85) (I 1)),
     D 16 (.mv (T 86))])))))) (
 .seq (
  .ops [D 126 (.call 11 []),
   D 6 (.mv (T 126))]) (
 .ret)))))))))))))⟩
theorem dioramalaw21_CryptProtects_ok : Ok Try.prog 5 dioramalaw21_CryptProtects := ⟨by kernel_rfl, by kernel_rfl⟩

/-- diorama/dioramalaw21.CryptWhole -/
def dioramalaw21_CryptWhole : AF := ⟨66, [.tmp 6],
 .seq (
  .ops [D 3 (.box (T 0)),
   D 6 (.mv (.const (.bool false)))]) (
 .seq (
  .ops [D 12 (.fa 3 (T 3)),
   E (.st 1 (T 12) (I 0)),
   D 13 (.fa 4 (T 3)),
   E (.st 1 (T 13) (I 0)),
   D 14 (.fa 5 (T 3)),
   E (.st 1 (T 14) (I 0))]) (
 .trim [2, 7, 8, 9] (
  .ops [D 16 (.ldN 6 (T 3)),
   D 17 (.call 20 [(T 16)]),
   D 18 (.mv (T 1)),
   D 19 (.mv (T 2)),
   D 20 (.call 19 [(T 17), (T 18), (T 19)]),
   D 15 (.mv (T 20)),
   D 21 (.ext (T 15) 0),
   D 22 (.ext (T 15) 1),
   D 23 (.ext (T 15) 2),
   D 7 (.alloc [(.int .i64 0), (.int .i64 0), (.int .i64 0), (.int .i64 0), (.slice none 0 0)]),
   E (.st 5 (T 7) (T 21)),
   D 8 (.mv (T 22)),
   D 9 (.mv (T 23))]) (
 .trim [2, 7] (
  .trim [2, 7, 29] (
   .ops [D 24 (.mv (T 9)),
    D 25 (.bin .neq (T 24) (I 0)),
    D 26 (.mv (T 25)),
    ⟨(some 27), some (26, false), .mv (T 8)⟩,
    ⟨(some 28), some (26, false), .un .not (T 27)⟩,
    D 29 (.pick (T 26) (.const (.bool true)) (T 28))]) (
  .cond (T 29) (
   .seq (
    .ops [D 30 (.call 11 []),
     D 6 (.mv (T 30))]) (
   .ret)) (
   .skip))) (
 .trim [2, 10, 11] (
  .ops [D 32 (.ldN 5 (T 7)),
   D 33 (.mv (T 2)),
   D 34 (.call 12 [(T 32), (T 33)]),
   D 31 (.mv (T 34)),
   D 35 (.ext (T 31) 0),
   D 36 (.ext (T 31) 1),
   D 10 (.mv (T 35)),
   D 11 (.mv (T 36))]) (
 .trim [2, 10] (
  .trim [2, 10, 47] (
   .ops [D 37 (.mv (T 11)),
    D 38 (.bin .neq (T 37) (I 0)),
    D 39 (.mv (T 38)),
    ⟨(some 40), some (39, false), .mv (T 2)⟩,
    ⟨(some 41), some (39, false), .bin .eql (T 40) (I 0)⟩,
    ⟨(some 42), some (39, false), .mv (T 41)⟩,
    ⟨(some 43), some (42, true), .mv (T 10)⟩,
    ⟨(some 44), some (42, true), .len (T 43)⟩,
    ⟨(some 45), some (42, true), .bin .neq (T 44) (I 0)⟩,
    ⟨(some 46), some (39, false), .pick (T 42) (T 45) (.const (.bool false))⟩,
    D 47 (.pick (T 39) (.const (.bool true)) (T 46))]) (
  .cond (T 47) (
   .seq (
    .ops [D 6 (.mv (.const (.bool false)))]) (
   .ret)) (
   .skip))) (
 .trim [6] (
  .ops [D 48 (.mv (T 2)),
   D 49 (.bin .eql (T 48) (I 0)),
   D 50 (.mv (T 49)),
   ⟨(some 51), some (50, false), .mv (T 10)⟩,
   ⟨(some 52), some (50, false), .len (T 51)⟩,
   ⟨(some 53), some (50, false), .bin .eql (T 52) (I 1)⟩,
   ⟨(some 54), some (50, false), .mv (T 53)⟩,
   ⟨(some 55), some (54, true), .mv (T 10)⟩,
   ⟨(some 56), some (54, true), .ia 2 (T 55) (I 0)⟩,
   ⟨(some 57), some (54, true), .ldN 2 (T 56)⟩,
   ⟨(some 58), some (54, true), .mv (T 2)⟩,
   ⟨(some 59), some (54, true), .build [(.int .i64 0), (.int .i64 0)] [(0, 1, (I 0)), (1, 1, (T 58))]⟩,
   ⟨(some 60), some (54, true), .eqa false [1, 1] (T 57) (T 59)⟩,
   ⟨(some 61), some (50, false), .pick (T 54) (T 60) (.const (.bool false))⟩,
   D 62 (.pick (T 50) (.const (.bool true)) (T 61)),
   D 63 (.mv (T 62)),
   ⟨(some 64), some (63, true), .call 11 []⟩,
   D 65 (.pick (T 63) (T 64) (.const (.bool false))),
   D 6 (.mv (T 65))]) (
 .ret)))))))⟩
theorem dioramalaw21_CryptWhole_ok : Ok Try.prog 6 dioramalaw21_CryptWhole := ⟨by kernel_rfl, by kernel_rfl⟩

/-- diorama/dioramalaw21.CryptBytes -/
def dioramalaw21_CryptBytes : AF := ⟨99, [.tmp 4],
 .seq (
  .ops [D 2 (.box (T 0)),
   D 4 (.mv (.const (.bool false)))]) (
 .trim [1, 2] (
  .trim [1, 2, 26] (
   .ops [D 18 (.fa 4 (T 2)),
    D 19 (.ld1 (T 18)),
    D 20 (.len (T 19)),
    D 21 (.bin .gtr (T 20) (I 100)),
    D 22 (.mv (T 21)),
    ⟨(some 23), some (22, false), .mv (T 1)⟩,
    ⟨(some 24), some (22, false), .len (T 23)⟩,
    ⟨(some 25), some (22, false), .bin .gtr (T 24) (I 1000)⟩,
    D 26 (.pick (T 22) (.const (.bool true)) (T 25))]) (
  .cond (T 26) (
   .seq (
    .ops [D 4 (.mv (.const (.bool true)))]) (
   .ret)) (
   .skip))) (
 .trim [1, 2, 5, 6] (
  .ops [D 28 (.ldN 5 (T 2)),
   D 29 (.call 21 [(T 28)]),
   D 27 (.mv (T 29)),
   D 30 (.ext (T 27) 0),
   D 31 (.ext (T 27) 1),
   D 5 (.mv (T 30)),
   D 6 (.mv (T 31))]) (
 .trim [1, 2, 5, 6, 7, 8] (
  .ops [D 33 (.ldN 5 (T 2)),
   D 34 (.call 22 [(T 33)]),
   D 32 (.mv (T 34)),
   D 35 (.ext (T 32) 0),
   D 36 (.ext (T 32) 1),
   D 7 (.mv (T 35)),
   D 8 (.mv (T 36))]) (
 .trim [1, 2, 5, 6] (
  .trim [1, 2, 5, 6, 45] (
   .ops [D 37 (.mv (T 6)),
    D 38 (.mv (T 8)),
    D 39 (.bin .neq (T 37) (T 38)),
    D 40 (.mv (T 39)),
    ⟨(some 41), some (40, false), .mv (T 5)⟩,
    ⟨(some 42), some (40, false), .mv (T 7)⟩,
    ⟨(some 43), some (40, false), .call 10 [(T 41), (T 42)]⟩,
    ⟨(some 44), some (40, false), .un .not (T 43)⟩,
    D 45 (.pick (T 40) (.const (.bool true)) (T 44))]) (
  .cond (T 45) (
   .seq (
    .ops [D 4 (.mv (.const (.bool false)))]) (
   .ret)) (
   .skip))) (
 .cut [1] (
  .seq (
   .ops [D 46 (.mv (T 6)),
    D 47 (.bin .eql (T 46) (I 0))]) (
  .cond (T 47) (
   .trim [1, 2, 5, 9, 10, 11] (
    .ops [D 49 (.mv (T 5)),
     D 50 (.call 24 [(T 49)]),
     D 51 (.mv (T 1)),
     D 52 (.app 1 1 (T 50) (T 51)),
     D 53 (.call 23 [(T 52)]),
     D 48 (.mv (T 53)),
     D 54 (.ext (T 48) 0),
     D 55 (.ext (T 48) 1),
     D 56 (.ext (T 48) 2),
     D 9 (.alloc [(.int .i64 0), (.int .i64 0), (.int .i64 0), (.int .i64 0), (.slice none 0 0)]),
     E (.st 5 (T 9) (T 54)),
     D 10 (.mv (T 55)),
     D 11 (.mv (T 56))]) (
   .trim [1, 70] (
    .ops [D 57 (.mv (T 11)),
     D 58 (.bin .neq (T 57) (I 0)),
     D 59 (.mv (T 58)),
     ⟨(some 60), some (59, false), .mv (T 10)⟩,
     ⟨(some 61), some (59, false), .mv (T 5)⟩,
     ⟨(some 62), some (59, false), .len (T 61)⟩,
     ⟨(some 63), some (59, false), .bin .neq (T 60) (T 62)⟩,
     D 64 (.pick (T 59) (.const (.bool true)) (T 63)),
     D 65 (.mv (T 64)),
     ⟨(some 66), some (65, false), .ldN 5 (T 9)⟩,
     ⟨(some 67), some (65, false), .ldN 5 (T 2)⟩,
     ⟨(some 68), some (65, false), .call 25 [(T 66), (T 67)]⟩,
     ⟨(some 69), some (65, false), .un .not (T 68)⟩,
     D 70 (.pick (T 65) (.const (.bool true)) (T 69))]) (
   .cond (T 70) (
    .seq (
     .ops [D 4 (.mv (.const (.bool false)))]) (
    .ret)) (
    .skip)))) (
   .skip))) (
 .trim [1, 12, 13, 14] (
  .ops [D 72 (.mv (T 1)),
   D 73 (.call 23 [(T 72)]),
   D 71 (.mv (T 73)),
   D 74 (.ext (T 71) 0),
   D 75 (.ext (T 71) 1),
   D 76 (.ext (T 71) 2),
   D 12 (.alloc [(.int .i64 0), (.int .i64 0), (.int .i64 0), (.int .i64 0), (.slice none 0 0)]),
   E (.st 5 (T 12) (T 74)),
   D 13 (.mv (T 75)),
   D 14 (.mv (T 76))]) (
 .trim [12, 13, 14, 15, 16, 17] (
  .ops [D 78 (.mv (T 1)),
   D 79 (.call 26 [(T 78)]),
   D 77 (.mv (T 79)),
   D 80 (.ext (T 77) 0),
   D 81 (.ext (T 77) 1),
   D 82 (.ext (T 77) 2),
   D 15 (.alloc [(.int .i64 0), (.int .i64 0), (.int .i64 0), (.int .i64 0), (.slice none 0 0)]),
   E (.st 5 (T 15) (T 80)),
   D 16 (.mv (T 81)),
   D 17 (.mv (T 82))]) (
 .trim [4] (
  .ops [D 83 (.mv (T 14)),
   D 84 (.mv (T 17)),
   D 85 (.bin .eql (T 83) (T 84)),
   D 86 (.mv (T 85)),
   ⟨(some 87), some (86, true), .mv (T 13)⟩,
   ⟨(some 88), some (86, true), .mv (T 16)⟩,
   ⟨(some 89), some (86, true), .bin .eql (T 87) (T 88)⟩,
   D 90 (.pick (T 86) (T 89) (.const (.bool false))),
   D 91 (.mv (T 90)),
   ⟨(some 92), some (91, true), .ldN 5 (T 12)⟩,
   ⟨(some 93), some (91, true), .ldN 5 (T 15)⟩,
   ⟨(some 94), some (91, true), .call 25 [(T 92), (T 93)]⟩,
   D 95 (.pick (T 91) (T 94) (.const (.bool false))),
   D 96 (.mv (T 95)),
   ⟨(some 97), some (96, true), .call 11 []⟩,
   D 98 (.pick (T 96) (T 97) (.const (.bool false))),
   D 4 (.mv (T 98))]) (
 .ret)))))))))⟩
theorem dioramalaw21_CryptBytes_ok : Ok Try.prog 7 dioramalaw21_CryptBytes := ⟨by kernel_rfl, by kernel_rfl⟩

/-- diorama/crypt.Block -/
def crypt_Block : AF := ⟨27, [.tmp 6, .tmp 7],
 .seq (
  .ops [D 6 (.mv (.const (.slice none 0 0))),
   D 7 (.mv (I 0))]) (
 .trim [0, 1, 2] (
  .seq (
   .ops [D 9 (.mv (T 0)),
    D 10 (.len (T 9)),
    D 11 (.bin .neq (T 10) (I 16))]) (
  .cond (T 11) (
   .seq (
    .ops [D 6 (.mv (.const (.slice none 0 0))),
     D 7 (.mv (I 4))]) (
   .ret)) (
   .skip))) (
 .trim [0, 1, 2] (
  .trim [0, 1, 2, 19] (
   .ops [D 12 (.mv (T 1)),
    D 13 (.call 27 [(T 12), (I 0), (I 2199023255552)]),
    D 14 (.un .not (T 13)),
    D 15 (.mv (T 14)),
    ⟨(some 16), some (15, false), .mv (T 2)⟩,
    ⟨(some 17), some (15, false), .call 27 [(T 16), (I 0), (I 1048576)]⟩,
    ⟨(some 18), some (15, false), .un .not (T 17)⟩,
    D 19 (.pick (T 15) (.const (.bool true)) (T 18))]) (
  .cond (T 19) (
   .seq (
    .ops [D 6 (.mv (.const (.slice none 0 0))),
     D 7 (.mv (I 1))]) (
   .ret)) (
   .skip))) (
 .trim [8] (
  .ops [D 20 (.mv (T 0)),
   D 21 (.mv (T 1)),
   D 22 (.call 28 [(T 20), (T 21)]),
   D 23 (.fld1 0 (T 22)),
   D 24 (.mv (T 2)),
   D 25 (.callv (T 23) [(T 24)]),
   D 8 (.alloc (List.replicate 16 (.int .u8 0))),
   E (.st 16 (T 8) (T 25))]) (
 .seq (
  .ops [D 26 (.slca 16 1 (T 8) none none none),
   D 6 (.mv (T 26)),
   D 7 (.mv (I 0))]) (
 .ret)))))⟩
theorem crypt_Block_ok : Ok Try.prog 8 crypt_Block := ⟨by kernel_rfl, by kernel_rfl⟩

/-- diorama/dioramaref21.Block -/
def dioramaref21_Block : AF := ⟨23, [.tmp 6, .tmp 7],
 .seq (
  .ops [D 6 (.mv (.const (.slice none 0 0))),
   D 7 (.mv (I 0))]) (
 .trim [0, 1, 2] (
  .seq (
   .ops [D 8 (.mv (T 0)),
    D 9 (.len (T 8)),
    D 10 (.bin .neq (T 9) (I 16))]) (
  .cond (T 10) (
   .seq (
    .ops [D 6 (.mv (.const (.slice none 0 0))),
     D 7 (.mv (I 4))]) (
   .ret)) (
   .skip))) (
 .trim [0, 1, 2] (
  .trim [0, 1, 2, 18] (
   .ops [D 11 (.mv (T 1)),
    D 12 (.call 29 [(T 11), (I 0), (I 2199023255552)]),
    D 13 (.un .not (T 12)),
    D 14 (.mv (T 13)),
    ⟨(some 15), some (14, false), .mv (T 2)⟩,
    ⟨(some 16), some (14, false), .call 29 [(T 15), (I 0), (I 1048576)]⟩,
    ⟨(some 17), some (14, false), .un .not (T 16)⟩,
    D 18 (.pick (T 14) (.const (.bool true)) (T 17))]) (
  .cond (T 18) (
   .seq (
    .ops [D 6 (.mv (.const (.slice none 0 0))),
     D 7 (.mv (I 1))]) (
   .ret)) (
   .skip))) (
 .seq (
  .ops [D 19 (.mv (T 0)),
   D 20 (.mv (T 1)),
   D 21 (.mv (T 2)),
   D 22 (.call 30 [(T 19), (T 20), (T 21)]),
   D 6 (.mv (T 22)),
   D 7 (.mv (I 0))]) (
 .ret))))⟩
theorem dioramaref21_Block_ok : Ok Try.prog 9 dioramaref21_Block := ⟨by kernel_rfl, by kernel_rfl⟩

/-- diorama/dioramaref00.EqBytes -/
def dioramaref00_EqBytes : AF := ⟨26, [.tmp 4],
 .seq (
  .ops [D 4 (.mv (.const (.bool false)))]) (
 .trim [0, 1] (
  .seq (
   .ops [D 6 (.mv (T 0)),
    D 7 (.len (T 6)),
    D 8 (.mv (T 1)),
    D 9 (.len (T 8)),
    D 10 (.bin .neq (T 7) (T 9))]) (
  .cond (T 10) (
   .seq (
    .ops [D 4 (.mv (.const (.bool false)))]) (
   .ret)) (
   .skip))) (
 .trim [] (
  .seq (
   .ops [D 5 (.mv (I 0))]) (
  .block 0 (
   .loop [0, 1, 5] (
    .seq (
     .seq (
      .ops [D 11 (.mv (T 5)),
       D 12 (.mv (T 0)),
       D 13 (.len (T 12)),
       D 14 (.bin .lss (T 11) (T 13))]) (
     .cond (T 14) (
      .skip) (
      .exit 0))) (
    .trim [0, 1, 5] (
     .block 1 (
      .trim [0, 1, 5, 25] (
       .draw [⟨0, 0, 0, D 17 (.mv (T 0))⟩,
        ⟨1, 0, 0, D 18 (.mv (T 5))⟩,
        ⟨2, 0, 3, D 19 (.ia 1 (T 17) (T 18))⟩,
        ⟨3, 1, 7, D 20 (.ld1 (T 19))⟩,
        ⟨4, 0, 0, D 21 (.mv (T 1))⟩,
        ⟨5, 0, 0, D 22 (.mv (T 5))⟩,
        ⟨6, 0, 48, D 23 (.ia 1 (T 21) (T 22))⟩,
        ⟨7, 1, 112, D 24 (.ld1 (T 23))⟩,
        ⟨8, 0, 255, D 25 (.bin .neq (T 20) (T 24))⟩]) (
      .cond (T 25) (
       .seq (
        .ops [D 4 (.mv (.const (.bool false)))]) (
       .ret)) (
       .skip)))) (
    .ops [D 15 (.mv (T 5)),
     D 16 (.bin .add (T 15) (I 1)),
     D 5 (.mv (T 16))])))))) (
 .seq (
  .ops [D 4 (.mv (.const (.bool true)))]) (
 .ret))))⟩
theorem dioramaref00_EqBytes_ok : Ok Try.prog 10 dioramaref00_EqBytes := ⟨by kernel_rfl, by kernel_rfl⟩

/-- diorama/dioramalaw21.awake -/
def dioramalaw21_awake : AF := ⟨46, [.tmp 0],
 .seq (
  .ops [D 0 (.mv (.const (.bool false)))]) (
 .seq (
  .ops [D 7 (.mks [(.int .u8 0)] 1 (I 16) (I 16)),
   D 8 (.bslice [(.slice none 0 0)] 1 [(0, 1, (T 7))]),
   D 1 (.mv (T 8))]) (
 .seq (
  .ops [D 9 (.build [(.int .i64 0), (.int .i64 0)] [(0, 1, (I 1)), (1, 1, (I 2))]),
   D 10 (.bslice [(.int .i64 0), (.int .i64 0)] 1 [(0, 2, (T 9))]),
   D 11 (.build [(.int .i64 0), (.int .i64 0), (.int .i64 0), (.int .i64 0), (.slice none 0 0)] [(0, 1, (I 1)), (4, 1, (T 10))]),
   D 2 (.alloc [(.int .i64 0), (.int .i64 0), (.int .i64 0), (.int .i64 0), (.slice none 0 0)]),
   E (.st 5 (T 2) (T 11))]) (
 .trim [1, 2, 3, 4] (
  .ops [D 13 (.bslice [(.int .u8 0), (.int .u8 0), (.int .u8 0)] 3 [(0, 1, (.const (.int .u8 1))), (1, 1, (.const (.int .u8 2))), (2, 1, (.const (.int .u8 3)))]),
   D 14 (.ldN 5 (T 2)),
   D 15 (.mv (T 1)),
   D 16 (.call 17 [(T 13), (T 14), (T 15)]),
   D 12 (.mv (T 16)),
   D 17 (.ext (T 12) 0),
   D 18 (.ext (T 12) 1),
   D 3 (.mv (T 17)),
   D 4 (.mv (T 18))]) (
 .trim [1, 2, 3] (
  .trim [1, 2, 3, 31] (
   .ops [D 19 (.mv (T 4)),
    D 20 (.bin .neq (T 19) (I 0)),
    D 21 (.mv (T 20)),
    ⟨(some 22), some (21, false), .mv (T 3)⟩,
    ⟨(some 23), some (21, false), .len (T 22)⟩,
    ⟨(some 24), some (21, false), .bin .neq (T 23) (I 3)⟩,
    D 25 (.pick (T 21) (.const (.bool true)) (T 24)),
    D 26 (.mv (T 25)),
    ⟨(some 27), some (26, false), .mv (T 3)⟩,
    ⟨(some 28), some (26, false), .ia 1 (T 27) (I 0)⟩,
    ⟨(some 29), some (26, false), .ld1 (T 28)⟩,
    ⟨(some 30), some (26, false), .bin .neq (T 29) (.const (.int .u8 1))⟩,
    D 31 (.pick (T 26) (.const (.bool true)) (T 30))]) (
  .cond (T 31) (
   .seq (
    .ops [D 0 (.mv (.const (.bool false)))]) (
   .ret)) (
   .skip))) (
 .trim [5, 6] (
  .ops [D 33 (.mv (T 3)),
   D 34 (.ldN 5 (T 2)),
   D 35 (.mv (T 1)),
   D 36 (.call 17 [(T 33), (T 34), (T 35)]),
   D 32 (.mv (T 36)),
   D 37 (.ext (T 32) 0),
   D 38 (.ext (T 32) 1),
   D 5 (.mv (T 37)),
   D 6 (.mv (T 38))]) (
 .trim [0] (
  .ops [D 39 (.mv (T 6)),
   D 40 (.bin .eql (T 39) (I 0)),
   D 41 (.mv (T 40)),
   ⟨(some 42), some (41, true), .mv (T 5)⟩,
   ⟨(some 43), some (41, true), .bslice [(.int .u8 0), (.int .u8 0), (.int .u8 0)] 3 [(0, 1, (.const (.int .u8 1))), (1, 1, (.const (.int .u8 2))), (2, 1, (.const (.int .u8 3)))]⟩,
   ⟨(some 44), some (41, true), .call 10 [(T 42), (T 43)]⟩,
   D 45 (.pick (T 41) (T 44) (.const (.bool false))),
   D 0 (.mv (T 45))]) (
 .ret)))))))⟩
theorem dioramalaw21_awake_ok : Ok Try.prog 11 dioramalaw21_awake := ⟨by kernel_rfl, by kernel_rfl⟩

/-- diorama/crypt.Secret -/
def crypt_Secret : AF := ⟨67, [.tmp 4, .tmp 5],
 .seq (
  .ops [D 2 (.box (T 0)),
   D 4 (.mv (.const (.slice none 0 0))),
   D 5 (.mv (I 0))]) (
 .trim [1, 2] (
  .seq (
   .ops [D 13 (.ldN 5 (T 2)),
    D 14 (.call 15 [(T 13)]),
    D 6 (.mv (T 14))]) (
  .seq (
   .ops [D 15 (.mv (T 6)),
    D 16 (.bin .neq (T 15) (I 0))]) (
  .cond (T 16) (
   .seq (
    .ops [D 17 (.mv (T 6)),
     D 4 (.mv (.const (.slice none 0 0))),
     D 5 (.mv (T 17))]) (
   .ret)) (
   .skip)))) (
 .trim [1, 2] (
  .seq (
   .ops [D 18 (.mv (T 1)),
    D 19 (.call 27 [(T 18), (I 0), (I 65536)]),
    D 20 (.un .not (T 19))]) (
  .cond (T 20) (
   .seq (
    .ops [D 4 (.mv (.const (.slice none 0 0))),
     D 5 (.mv (I 1))]) (
   .ret)) (
   .skip))) (
 .trim [7, 8] (
  .ops [D 22 (.ldN 5 (T 2)),
   D 23 (.mv (T 1)),
   D 24 (.call 31 [(T 22), (T 23)]),
   D 21 (.mv (T 24)),
   D 25 (.ext (T 21) 0),
   D 26 (.ext (T 21) 1),
   D 7 (.mv (T 25)),
   D 8 (.mv (T 26))]) (
 .seq (
  .seq (
   .ops [D 27 (.mv (T 8)),
    D 28 (.un .not (T 27))]) (
  .cond (T 28) (
   .seq (
    .ops [D 4 (.mv (.const (.slice none 0 0))),
     D 5 (.mv (I 211))]) (
   .ret)) (
   .skip))) (
 .seq (
  .ops [D 9 (.mv (.const (.slice none 0 0)))]) (
 .trim [9] (
  .seq (
   .ops [D 29 (.mv (T 7)),
    D 30 (.len (T 29)),
    D 31 (.mv (I 0))]) (
  .block 0 (
   .loop [9, 29, 30, 31] (
    .seq (
     .ops [D 32 (.bin .lss (T 31) (T 30))]) (
    .seq (
     .cond (T 32) (
      .skip) (
      .exit 0)) (
    .trim [9, 29, 30, 31] (
     .block 1 (
      .seq (
       .ops [D 33 (.ia 4 (T 29) (T 31)),
        D 34 (.ldN 4 (T 33)),
        D 11 (.alloc [(.int .i64 0), (.int .i64 0), (.int .i64 0), (.int .i64 0)]),
        E (.st 4 (T 11) (T 34))]) (
      .seq (
       .ops [D 35 (.mv (T 9)),
        D 36 (.len (T 35)),
        D 12 (.mv (T 36))]) (
      .trim [9, 11, 12, 29, 30, 31, 49] (
       .draw [⟨0, 0, 0, D 37 (.mv (T 12))⟩,
        ⟨1, 0, 1, D 38 (.bin .gtr (T 37) (I 0))⟩,
        ⟨2, 0, 3, D 39 (.mv (T 38))⟩,
        ⟨3, 0, 7, ⟨(some 40), some (39, true), .mv (T 9)⟩⟩,
        ⟨4, 0, 7, ⟨(some 41), some (39, true), .mv (T 12)⟩⟩,
        ⟨5, 0, 23, ⟨(some 42), some (39, true), .bin .sub (T 41) (I 1)⟩⟩,
        ⟨6, 0, 63, ⟨(some 43), some (39, true), .ia 2 (T 40) (T 42)⟩⟩,
        ⟨7, 0, 127, ⟨(some 44), some (39, true), .iaa 2 1 (T 43) (I 1)⟩⟩,
        ⟨8, 1, 255, ⟨(some 45), some (39, true), .ld1 (T 44)⟩⟩,
        ⟨9, 0, 7, ⟨(some 46), some (39, true), .fa 0 (T 11)⟩⟩,
        ⟨10, 1, 519, ⟨(some 47), some (39, true), .ld1 (T 46)⟩⟩,
        ⟨11, 0, 2047, ⟨(some 48), some (39, true), .bin .eql (T 45) (T 47)⟩⟩,
        ⟨12, 0, 4095, D 49 (.pick (T 39) (T 48) (.const (.bool false)))⟩]) (
      .cond (T 49) (
       .draw [⟨0, 0, 0, D 50 (.mv (T 9))⟩,
        ⟨1, 0, 0, D 51 (.mv (T 12))⟩,
        ⟨2, 0, 2, D 52 (.bin .sub (T 51) (I 1))⟩,
        ⟨3, 0, 0, D 53 (.fa 1 (T 11))⟩,
        ⟨4, 1, 8, D 54 (.ld1 (T 53))⟩,
        ⟨5, 0, 7, D 55 (.ia 2 (T 50) (T 52))⟩,
        ⟨6, 0, 63, D 56 (.iaa 2 1 (T 55) (I 1))⟩,
        ⟨7, 4, 127, E (.st 1 (T 56) (T 54))⟩]) (
       .ops [D 57 (.mv (T 9)),
        D 58 (.fa 0 (T 11)),
        D 59 (.ld1 (T 58)),
        D 60 (.fa 1 (T 11)),
        D 61 (.ld1 (T 60)),
        D 62 (.build [(.int .i64 0), (.int .i64 0)] [(0, 1, (T 59)), (1, 1, (T 61))]),
        D 63 (.bslice [(.int .i64 0), (.int .i64 0)] 1 [(0, 2, (T 62))]),
        D 64 (.app 2 16 (T 57) (T 63)),
        D 9 (.mv (T 64))])))))) (
    .ops [D 65 (.bin .add (T 31) (I 1)),
     D 31 (.mv (T 65))]))))))) (
 .seq (
  .ops [D 66 (.mv (T 9)),
   D 4 (.mv (T 66)),
   D 5 (.mv (I 0))]) (
 .ret))))))))⟩
theorem crypt_Secret_ok : Ok Try.prog 12 crypt_Secret := ⟨by kernel_rfl, by kernel_rfl⟩

/-- diorama/dioramaref21.Secret -/
def dioramaref21_Secret : AF := ⟨66, [.tmp 4, .tmp 5],
 .seq (
  .ops [D 2 (.box (T 0)),
   D 4 (.mv (.const (.slice none 0 0))),
   D 5 (.mv (I 0))]) (
 .seq (
  .ops [D 12 (.ldN 5 (T 2)),
   D 13 (.call 16 [(T 12)]),
   D 6 (.mv (T 13))]) (
 .trim [1, 2] (
  .seq (
   .ops [D 14 (.mv (T 6)),
    D 15 (.bin .neq (T 14) (I 0))]) (
  .cond (T 15) (
   .seq (
    .ops [D 16 (.mv (T 6)),
     D 4 (.mv (.const (.slice none 0 0))),
     D 5 (.mv (T 16))]) (
   .ret)) (
   .skip))) (
 .trim [1, 2] (
  .seq (
   .ops [D 17 (.mv (T 1)),
    D 18 (.call 29 [(T 17), (I 0), (I 65536)]),
    D 19 (.un .not (T 18))]) (
  .cond (T 19) (
   .seq (
    .ops [D 4 (.mv (.const (.slice none 0 0))),
     D 5 (.mv (I 1))]) (
   .ret)) (
   .skip))) (
 .trim [1, 7, 8] (
  .ops [D 21 (.ldN 5 (T 2)),
   D 22 (.mv (T 1)),
   D 23 (.call 32 [(T 21), (T 22)]),
   D 20 (.mv (T 23)),
   D 24 (.ext (T 20) 0),
   D 25 (.ext (T 20) 1),
   D 7 (.mv (T 24)),
   D 8 (.mv (T 25))]) (
 .seq (
  .seq (
   .ops [D 26 (.mv (T 8)),
    D 27 (.un .not (T 26))]) (
  .cond (T 27) (
   .seq (
    .ops [D 4 (.mv (.const (.slice none 0 0))),
     D 5 (.mv (I 211))]) (
   .ret)) (
   .skip))) (
 .seq (
  .ops [D 9 (.mv (.const (.slice none 0 0)))]) (
 .trim [9] (
  .seq (
   .ops [D 10 (.mv (I 0))]) (
  .block 0 (
   .loop [1, 7, 9, 10] (
    .seq (
     .seq (
      .ops [D 28 (.mv (T 10)),
       D 29 (.mv (T 1)),
       D 30 (.bin .lss (T 28) (T 29))]) (
     .cond (T 30) (
      .skip) (
      .exit 0))) (
    .trim [1, 7, 9, 10] (
     .block 1 (
      .trim [1, 7, 9, 10] (
       .seq (
        .ops [D 33 (.mv (T 7)),
         D 34 (.mv (T 10)),
         D 35 (.ia 1 (T 33) (T 34)),
         D 36 (.ld1 (T 35)),
         D 37 (.bin .lss (T 36) (I 0))]) (
       .cond (T 37) (
        .exit 1) (
        .skip))) (
      .seq (
       .ops [D 38 (.mv (T 9)),
        D 39 (.len (T 38)),
        D 40 (.bin .sub (T 39) (I 1)),
        D 11 (.mv (T 40))]) (
      .trim [1, 7, 9, 10, 11, 51] (
       .ops [D 41 (.mv (T 11)),
        D 42 (.bin .geq (T 41) (I 0)),
        D 43 (.mv (T 42)),
        ⟨(some 44), some (43, true), .mv (T 9)⟩,
        ⟨(some 45), some (43, true), .mv (T 11)⟩,
        ⟨(some 46), some (43, true), .ia 2 (T 44) (T 45)⟩,
        ⟨(some 47), some (43, true), .iaa 2 1 (T 46) (I 1)⟩,
        ⟨(some 48), some (43, true), .ld1 (T 47)⟩,
        ⟨(some 49), some (43, true), .mv (T 10)⟩,
        ⟨(some 50), some (43, true), .bin .eql (T 48) (T 49)⟩,
        D 51 (.pick (T 43) (T 50) (.const (.bool false)))]) (
      .cond (T 51) (
       .ops [D 52 (.mv (T 9)),
        D 53 (.mv (T 11)),
        D 54 (.mv (T 10)),
        D 55 (.bin .add (T 54) (I 1)),
        D 56 (.ia 2 (T 52) (T 53)),
        D 57 (.iaa 2 1 (T 56) (I 1)),
        E (.st 1 (T 57) (T 55))]) (
       .ops [D 58 (.mv (T 9)),
        D 59 (.mv (T 10)),
        D 60 (.mv (T 10)),
        D 61 (.bin .add (T 60) (I 1)),
        D 62 (.build [(.int .i64 0), (.int .i64 0)] [(0, 1, (T 59)), (1, 1, (T 61))]),
        D 63 (.bslice [(.int .i64 0), (.int .i64 0)] 1 [(0, 2, (T 62))]),
        D 64 (.app 2 16 (T 58) (T 63)),
        D 9 (.mv (T 64))])))))) (
    .ops [D 31 (.mv (T 10)),
     D 32 (.bin .add (T 31) (I 1)),
     D 10 (.mv (T 32))])))))) (
 .seq (
  .ops [D 65 (.mv (T 9)),
   D 4 (.mv (T 65)),
   D 5 (.mv (I 0))]) (
 .ret)))))))))⟩
theorem dioramaref21_Secret_ok : Ok Try.prog 13 dioramaref21_Secret := ⟨by kernel_rfl, by kernel_rfl⟩

/-- diorama/dioramaref00.EqPairs -/
def dioramaref00_EqPairs : AF := ⟨26, [.tmp 4],
 .seq (
  .ops [D 4 (.mv (.const (.bool false)))]) (
 .trim [0, 1] (
  .seq (
   .ops [D 6 (.mv (T 0)),
    D 7 (.len (T 6)),
    D 8 (.mv (T 1)),
    D 9 (.len (T 8)),
    D 10 (.bin .neq (T 7) (T 9))]) (
  .cond (T 10) (
   .seq (
    .ops [D 4 (.mv (.const (.bool false)))]) (
   .ret)) (
   .skip))) (
 .trim [] (
  .seq (
   .ops [D 5 (.mv (I 0))]) (
  .block 0 (
   .loop [0, 1, 5] (
    .seq (
     .seq (
      .ops [D 11 (.mv (T 5)),
       D 12 (.mv (T 0)),
       D 13 (.len (T 12)),
       D 14 (.bin .lss (T 11) (T 13))]) (
     .cond (T 14) (
      .skip) (
      .exit 0))) (
    .trim [0, 1, 5] (
     .block 1 (
      .trim [0, 1, 5, 25] (
       .draw [⟨0, 0, 0, D 17 (.mv (T 0))⟩,
        ⟨1, 0, 0, D 18 (.mv (T 5))⟩,
        ⟨2, 0, 3, D 19 (.ia 2 (T 17) (T 18))⟩,
        ⟨3, 1, 7, D 20 (.ldN 2 (T 19))⟩,
        ⟨4, 0, 0, D 21 (.mv (T 1))⟩,
        ⟨5, 0, 0, D 22 (.mv (T 5))⟩,
        ⟨6, 0, 48, D 23 (.ia 2 (T 21) (T 22))⟩,
        ⟨7, 1, 112, D 24 (.ldN 2 (T 23))⟩,
        ⟨8, 0, 255, D 25 (.eqa true [1, 1] (T 20) (T 24))⟩]) (
      .cond (T 25) (
       .seq (
        .ops [D 4 (.mv (.const (.bool false)))]) (
       .ret)) (
       .skip)))) (
    .ops [D 15 (.mv (T 5)),
     D 16 (.bin .add (T 15) (I 1)),
     D 5 (.mv (T 16))])))))) (
 .seq (
  .ops [D 4 (.mv (.const (.bool true)))]) (
 .ret))))⟩
theorem dioramaref00_EqPairs_ok : Ok Try.prog 14 dioramaref00_EqPairs := ⟨by kernel_rfl, by kernel_rfl⟩

/-- diorama/crypt.Check -/
def crypt_Check : AF := ⟨32, [.tmp 2],
 .seq (
  .ops [D 1 (.box (T 0)),
   D 2 (.mv (I 0))]) (
 .seq (
  .ops [D 3 (.mv (.func 33))]) (
 .trim [1] (
  .trim [1, 27] (
   .ops [D 4 (.fa 0 (T 1)),
    D 5 (.ld1 (T 4)),
    D 6 (.call 27 [(T 5), (I 1), (I 4)]),
    D 7 (.un .not (T 6)),
    D 8 (.mv (T 7)),
    ⟨(some 9), some (8, false), .fa 1 (T 1)⟩,
    ⟨(some 10), some (8, false), .ld1 (T 9)⟩,
    ⟨(some 11), some (8, false), .call 27 [(T 10), (I 0), (I 1099511627776)]⟩,
    ⟨(some 12), some (8, false), .un .not (T 11)⟩,
    D 13 (.pick (T 8) (.const (.bool true)) (T 12)),
    D 14 (.mv (T 13)),
    ⟨(some 15), some (14, false), .fa 2 (T 1)⟩,
    ⟨(some 16), some (14, false), .ld1 (T 15)⟩,
    ⟨(some 17), some (14, false), .fa 3 (T 1)⟩,
    ⟨(some 18), some (14, false), .ld1 (T 17)⟩,
    ⟨(some 19), some (14, false), .call 34 [(T 16), (T 18)]⟩,
    ⟨(some 20), some (14, false), .un .not (T 19)⟩,
    D 21 (.pick (T 14) (.const (.bool true)) (T 20)),
    D 22 (.mv (T 21)),
    ⟨(some 23), some (22, false), .fa 4 (T 1)⟩,
    ⟨(some 24), some (22, false), .ld1 (T 23)⟩,
    ⟨(some 25), some (22, false), .mv (T 3)⟩,
    ⟨(some 26), some (22, false), .call 35 [(T 24), (T 25)]⟩,
    D 27 (.pick (T 22) (.const (.bool true)) (T 26))]) (
  .cond (T 27) (
   .seq (
    .ops [D 2 (.mv (I 1))]) (
   .ret)) (
   .skip))) (
 .trim [] (
  .seq (
   .ops [D 28 (.fa 4 (T 1)),
    D 29 (.ld1 (T 28)),
    D 30 (.len (T 29)),
    D 31 (.bin .gtr (T 30) (I 40))]) (
  .cond (T 31) (
   .seq (
    .ops [D 2 (.mv (I 2))]) (
   .ret)) (
   .skip))) (
 .seq (
  .ops [D 2 (.mv (I 0))]) (
 .ret)))))⟩
theorem crypt_Check_ok : Ok Try.prog 15 crypt_Check := ⟨by kernel_rfl, by kernel_rfl⟩

/-- diorama/dioramaref21.Check -/
def dioramaref21_Check : AF := ⟨51, [.tmp 2],
 .seq (
  .ops [D 1 (.box (T 0)),
   D 2 (.mv (I 0))]) (
 .trim [1] (
  .trim [1, 21] (
   .ops [D 4 (.fa 0 (T 1)),
    D 5 (.ld1 (T 4)),
    D 6 (.call 29 [(T 5), (I 1), (I 4)]),
    D 7 (.un .not (T 6)),
    D 8 (.mv (T 7)),
    ⟨(some 9), some (8, false), .fa 1 (T 1)⟩,
    ⟨(some 10), some (8, false), .ld1 (T 9)⟩,
    ⟨(some 11), some (8, false), .call 29 [(T 10), (I 0), (I 1099511627776)]⟩,
    ⟨(some 12), some (8, false), .un .not (T 11)⟩,
    D 13 (.pick (T 8) (.const (.bool true)) (T 12)),
    D 14 (.mv (T 13)),
    ⟨(some 15), some (14, false), .fa 2 (T 1)⟩,
    ⟨(some 16), some (14, false), .ld1 (T 15)⟩,
    ⟨(some 17), some (14, false), .fa 3 (T 1)⟩,
    ⟨(some 18), some (14, false), .ld1 (T 17)⟩,
    ⟨(some 19), some (14, false), .call 36 [(T 16), (T 18)]⟩,
    ⟨(some 20), some (14, false), .un .not (T 19)⟩,
    D 21 (.pick (T 14) (.const (.bool true)) (T 20))]) (
  .cond (T 21) (
   .seq (
    .ops [D 2 (.mv (I 1))]) (
   .ret)) (
   .skip))) (
 .trim [1] (
  .seq (
   .ops [D 3 (.mv (I 0))]) (
  .block 0 (
   .loop [1, 3] (
    .trim [1, 3] (
     .seq (
      .ops [D 22 (.mv (T 3)),
       D 23 (.fa 4 (T 1)),
       D 24 (.ld1 (T 23)),
       D 25 (.len (T 24)),
       D 26 (.bin .lss (T 22) (T 25))]) (
     .cond (T 26) (
      .skip) (
      .exit 0))) (
    .trim [1, 3] (
     .block 1 (
      .trim [1, 3, 46] (
       .ops [D 29 (.fa 4 (T 1)),
        D 30 (.ld1 (T 29)),
        D 31 (.mv (T 3)),
        D 32 (.ia 2 (T 30) (T 31)),
        D 33 (.fa 0 (T 32)),
        D 34 (.ld1 (T 33)),
        D 35 (.call 29 [(T 34), (I 0), (I 65536)]),
        D 36 (.un .not (T 35)),
        D 37 (.mv (T 36)),
        ⟨(some 38), some (37, false), .fa 4 (T 1)⟩,
        ⟨(some 39), some (37, false), .ld1 (T 38)⟩,
        ⟨(some 40), some (37, false), .mv (T 3)⟩,
        ⟨(some 41), some (37, false), .ia 2 (T 39) (T 40)⟩,
        ⟨(some 42), some (37, false), .fa 1 (T 41)⟩,
        ⟨(some 43), some (37, false), .ld1 (T 42)⟩,
        ⟨(some 44), some (37, false), .call 29 [(T 43), (I 0), (I 65536)]⟩,
        ⟨(some 45), some (37, false), .un .not (T 44)⟩,
        D 46 (.pick (T 37) (.const (.bool true)) (T 45))]) (
      .cond (T 46) (
       .seq (
        .ops [D 2 (.mv (I 1))]) (
       .ret)) (
       .skip)))) (
    .ops [D 27 (.mv (T 3)),
     D 28 (.bin .add (T 27) (I 1)),
     D 3 (.mv (T 28))])))))) (
 .trim [] (
  .seq (
   .ops [D 47 (.fa 4 (T 1)),
    D 48 (.ld1 (T 47)),
    D 49 (.len (T 48)),
    D 50 (.bin .gtr (T 49) (I 40))]) (
  .cond (T 50) (
   .seq (
    .ops [D 2 (.mv (I 2))]) (
   .ret)) (
   .skip))) (
 .seq (
  .ops [D 2 (.mv (I 0))]) (
 .ret)))))⟩
theorem dioramaref21_Check_ok : Ok Try.prog 16 dioramaref21_Check := ⟨by kernel_rfl, by kernel_rfl⟩

/-- diorama/crypt.Protect -/
def crypt_Protect : AF := ⟨42, [.tmp 6, .tmp 7],
 .seq (
  .ops [D 4 (.box (T 1)),
   D 6 (.mv (.const (.slice none 0 0))),
   D 7 (.mv (I 0))]) (
 .trim [0, 2, 4] (
  .seq (
   .ops [D 11 (.ldN 5 (T 4)),
    D 12 (.call 15 [(T 11)]),
    D 8 (.mv (T 12))]) (
  .seq (
   .ops [D 13 (.mv (T 8)),
    D 14 (.bin .neq (T 13) (I 0))]) (
  .cond (T 14) (
   .seq (
    .ops [D 15 (.mv (T 8)),
     D 6 (.mv (.const (.slice none 0 0))),
     D 7 (.mv (T 15))]) (
   .ret)) (
   .skip)))) (
 .trim [0, 2, 4] (
  .seq (
   .ops [D 16 (.mv (T 0)),
    D 17 (.len (T 16)),
    D 18 (.bin .gtr (T 17) (I 65536))]) (
  .cond (T 18) (
   .seq (
    .ops [D 6 (.mv (.const (.slice none 0 0))),
     D 7 (.mv (I 2))]) (
   .ret)) (
   .skip))) (
 .trim [0, 2, 4] (
  .trim [0, 2, 4, 10] (
   .ops [D 20 (.ldN 5 (T 4)),
    D 21 (.mv (T 0)),
    D 22 (.len (T 21)),
    D 23 (.call 31 [(T 20), (T 22)]),
    D 19 (.mv (T 23)),
    D 24 (.ext (T 19) 0),
    D 25 (.ext (T 19) 1),
    D 9 (.mv (T 24)),
    D 10 (.mv (T 25))]) (
  .seq (
   .ops [D 26 (.mv (T 10)),
    D 27 (.un .not (T 26))]) (
  .cond (T 27) (
   .seq (
    .ops [D 6 (.mv (.const (.slice none 0 0))),
     D 7 (.mv (I 211))]) (
   .ret)) (
   .skip)))) (
 .trim [0, 2, 4] (
  .seq (
   .ops [D 28 (.mv (T 2)),
    D 29 (.fa 0 (T 4)),
    D 30 (.ld1 (T 29)),
    D 31 (.call 37 [(T 28), (T 30)]),
    D 32 (.un .not (T 31))]) (
  .cond (T 32) (
   .seq (
    .ops [D 6 (.mv (.const (.slice none 0 0))),
     D 7 (.mv (I 210))]) (
   .ret)) (
   .skip))) (
 .trim [6, 7] (
  .draw [⟨0, 0, 0, D 33 (.mv (T 0))⟩,
   ⟨1, 1, 0, D 34 (.ldN 5 (T 4))⟩,
   ⟨2, 0, 0, D 35 (.mv (T 2))⟩,
   ⟨3, 0, 0, D 36 (.fa 0 (T 4))⟩,
   ⟨4, 1, 8, D 37 (.ld1 (T 36))⟩,
   ⟨5, 0, 24, D 38 (.bin .sub (T 37) (I 1))⟩,
   ⟨6, 0, 60, D 39 (.ia 1 (T 35) (T 38))⟩,
   ⟨7, 1, 124, D 40 (.ld1 (T 39))⟩,
   ⟨8, 4, 255, D 41 (.call 38 [(T 33), (T 34), (T 40)])⟩,
   ⟨9, 0, 511, D 6 (.mv (T 41))⟩,
   ⟨10, 0, 1023, D 7 (.mv (I 0))⟩]) (
 .ret))))))⟩
theorem crypt_Protect_ok : Ok Try.prog 17 crypt_Protect := ⟨by kernel_rfl, by kernel_rfl⟩

/-- diorama/dioramaref21.Protect -/
def dioramaref21_Protect : AF := ⟨38, [.tmp 6, .tmp 7],
 .seq (
  .ops [D 4 (.box (T 1)),
   D 6 (.mv (.const (.slice none 0 0))),
   D 7 (.mv (I 0))]) (
 .seq (
  .ops [D 11 (.ldN 5 (T 4)),
   D 12 (.call 16 [(T 11)]),
   D 8 (.mv (T 12))]) (
 .trim [0, 2, 4] (
  .seq (
   .ops [D 13 (.mv (T 8)),
    D 14 (.bin .neq (T 13) (I 0))]) (
  .cond (T 14) (
   .seq (
    .ops [D 15 (.mv (T 8)),
     D 6 (.mv (.const (.slice none 0 0))),
     D 7 (.mv (T 15))]) (
   .ret)) (
   .skip))) (
 .trim [0, 2, 4] (
  .seq (
   .ops [D 16 (.mv (T 0)),
    D 17 (.len (T 16)),
    D 18 (.bin .gtr (T 17) (I 65536))]) (
  .cond (T 18) (
   .seq (
    .ops [D 6 (.mv (.const (.slice none 0 0))),
     D 7 (.mv (I 2))]) (
   .ret)) (
   .skip))) (
 .trim [0, 2, 4, 9, 10] (
  .ops [D 20 (.ldN 5 (T 4)),
   D 21 (.mv (T 0)),
   D 22 (.len (T 21)),
   D 23 (.call 32 [(T 20), (T 22)]),
   D 19 (.mv (T 23)),
   D 24 (.ext (T 19) 0),
   D 25 (.ext (T 19) 1),
   D 9 (.mv (T 24)),
   D 10 (.mv (T 25))]) (
 .seq (
  .seq (
   .ops [D 26 (.mv (T 10)),
    D 27 (.un .not (T 26))]) (
  .cond (T 27) (
   .seq (
    .ops [D 6 (.mv (.const (.slice none 0 0))),
     D 7 (.mv (I 211))]) (
   .ret)) (
   .skip))) (
 .trim [0, 2, 4, 9] (
  .seq (
   .ops [D 28 (.mv (T 2)),
    D 29 (.fa 0 (T 4)),
    D 30 (.ld1 (T 29)),
    D 31 (.call 39 [(T 28), (T 30)]),
    D 32 (.un .not (T 31))]) (
  .cond (T 32) (
   .seq (
    .ops [D 6 (.mv (.const (.slice none 0 0))),
     D 7 (.mv (I 210))]) (
   .ret)) (
   .skip))) (
 .trim [6, 7] (
  .ops [D 33 (.mv (T 0)),
   D 34 (.ldN 5 (T 4)),
   D 35 (.mv (T 9)),
   D 36 (.mv (T 2)),
   D 37 (.call 40 [(T 33), (T 34), (T 35), (T 36)]),
   D 6 (.mv (T 37)),
   D 7 (.mv (I 0))]) (
 .ret))))))))⟩
theorem dioramaref21_Protect_ok : Ok Try.prog 18 dioramaref21_Protect := ⟨by kernel_rfl, by kernel_rfl⟩

/-- diorama/crypt.Of -/
def crypt_Of : AF := ⟨66, [.cellN 5 6, .tmp 7, .tmp 8],
 .seq (
  .ops [D 3 (.box (T 0)),
   D 6 (.alloc [(.int .i64 0), (.int .i64 0), (.int .i64 0), (.int .i64 0), (.slice none 0 0)]),
   D 7 (.mv (.const (.bool false))),
   D 8 (.mv (I 0))]) (
 .trim [1, 2, 3, 6] (
  .trim [1, 2, 3, 6, 24] (
   .ops [D 12 (.ldN 6 (T 3)),
    D 13 (.call 41 [(T 12)]),
    D 14 (.un .not (T 13)),
    D 15 (.mv (T 14)),
    ⟨(some 16), some (15, false), .mv (T 1)⟩,
    ⟨(some 17), some (15, false), .call 27 [(T 16), (I 0), (I 400)]⟩,
    ⟨(some 18), some (15, false), .un .not (T 17)⟩,
    D 19 (.pick (T 15) (.const (.bool true)) (T 18)),
    D 20 (.mv (T 19)),
    ⟨(some 21), some (20, false), .mv (T 2)⟩,
    ⟨(some 22), some (20, false), .call 27 [(T 21), (I 0), (I 65536)]⟩,
    ⟨(some 23), some (20, false), .un .not (T 22)⟩,
    D 24 (.pick (T 20) (.const (.bool true)) (T 23))]) (
  .cond (T 24) (
   .seq (
    .ops [D 25 (.build [(.int .i64 0), (.int .i64 0), (.int .i64 0), (.int .i64 0), (.slice none 0 0)] []),
     E (.st 5 (T 6) (T 25)),
     D 7 (.mv (.const (.bool false))),
     D 8 (.mv (I 1))]) (
   .ret)) (
   .skip))) (
 .trim [1, 2, 3, 6, 9] (
  .draw [⟨0, 0, 0, D 26 (.fa 0 (T 3))⟩,
   ⟨1, 1, 1, D 27 (.ld1 (T 26))⟩,
   ⟨2, 0, 0, D 28 (.mv (T 1))⟩,
   ⟨3, 0, 0, D 29 (.fa 1 (T 3))⟩,
   ⟨4, 1, 8, D 30 (.ld1 (T 29))⟩,
   ⟨5, 0, 28, D 31 (.bin .quo (T 28) (T 30))⟩,
   ⟨6, 0, 0, D 32 (.fa 0 (T 3))⟩,
   ⟨7, 1, 64, D 33 (.ld1 (T 32))⟩,
   ⟨8, 0, 192, D 34 (.len (T 33))⟩,
   ⟨9, 0, 508, D 35 (.bin .rem (T 31) (T 34))⟩,
   ⟨10, 0, 1023, D 36 (.ia 1 (T 27) (T 35))⟩,
   ⟨11, 1, 2047, D 37 (.ld1 (T 36))⟩,
   ⟨12, 0, 4095, D 9 (.mv (T 37))⟩]) (
 .trim [1, 2, 3, 6, 9] (
  .seq (
   .ops [D 38 (.mv (T 9)),
    D 39 (.bin .eql (T 38) (I 0))]) (
  .cond (T 39) (
   .seq (
    .ops [D 40 (.build [(.int .i64 0), (.int .i64 0), (.int .i64 0), (.int .i64 0), (.slice none 0 0)] []),
     E (.st 5 (T 6) (T 40)),
     D 7 (.mv (.const (.bool false))),
     D 8 (.mv (I 0))]) (
   .ret)) (
   .skip))) (
 .trim [2, 3, 6, 10] (
  .ops [D 41 (.mv (T 9)),
   D 42 (.fa 2 (T 3)),
   D 43 (.ld1 (T 42)),
   D 44 (.mv (T 1)),
   D 45 (.bin .add (T 43) (T 44)),
   D 46 (.fa 3 (T 3)),
   D 47 (.ld1 (T 46)),
   D 48 (.fa 4 (T 3)),
   D 49 (.ld1 (T 48)),
   D 50 (.build [(.int .i64 0), (.int .i64 0), (.int .i64 0), (.int .i64 0), (.slice none 0 0)] [(0, 1, (T 41)), (1, 1, (T 45)), (2, 1, (T 47)), (3, 1, (T 49))]),
   D 10 (.alloc [(.int .i64 0), (.int .i64 0), (.int .i64 0), (.int .i64 0), (.slice none 0 0)]),
   E (.st 5 (T 10) (T 50))]) (
 .trim [6, 10] (
  .seq (
   .ops [D 51 (.fa 5 (T 3)),
    D 52 (.ld1 (T 51)),
    D 53 (.bin .gtr (T 52) (I 0))]) (
  .cond (T 53) (
   .seq (
    .ops [D 54 (.fa 5 (T 3)),
     D 55 (.ld1 (T 54)),
     D 56 (.mv (T 2)),
     D 57 (.mn [(T 55), (T 56)]),
     D 11 (.mv (T 57))]) (
   .ops [D 58 (.mv (T 11)),
    D 59 (.mv (T 2)),
    D 60 (.mv (T 11)),
    D 61 (.bin .sub (T 59) (T 60)),
    D 62 (.build [(.int .i64 0), (.int .i64 0)] [(0, 1, (T 58)), (1, 1, (T 61))]),
    D 63 (.bslice [(.int .i64 0), (.int .i64 0)] 1 [(0, 2, (T 62))]),
    D 64 (.fa 4 (T 10)),
    E (.st 1 (T 64) (T 63))])) (
   .skip))) (
 .seq (
  .ops [D 65 (.ldN 5 (T 10)),
   E (.st 5 (T 6) (T 65)),
   D 7 (.mv (.const (.bool true))),
   D 8 (.mv (I 0))]) (
 .ret)))))))⟩
theorem crypt_Of_ok : Ok Try.prog 19 crypt_Of := ⟨by kernel_rfl, by kernel_rfl⟩

/-- diorama/dioramalaw21.theirs -/
def dioramalaw21_theirs : AF := ⟨17, [.cellN 6 2],
 .seq (
  .ops [D 1 (.box (T 0)),
   D 2 (.alloc [(.slice none 0 0), (.int .i64 0), (.int .i64 0), (.int .i64 0), (.int .i64 0), (.int .i64 0)])]) (
 .trim [2] (
  .draw [⟨0, 0, 0, D 3 (.fa 0 (T 1))⟩,
   ⟨1, 1, 1, D 4 (.ld1 (T 3))⟩,
   ⟨3, 0, 0, D 6 (.fa 1 (T 1))⟩,
   ⟨4, 1, 8, D 7 (.ld1 (T 6))⟩,
   ⟨5, 0, 0, D 8 (.fa 2 (T 1))⟩,
   ⟨6, 1, 32, D 9 (.ld1 (T 8))⟩,
   ⟨7, 0, 0, D 10 (.fa 3 (T 1))⟩,
   ⟨8, 1, 128, D 11 (.ld1 (T 10))⟩,
   ⟨9, 0, 0, D 12 (.fa 4 (T 1))⟩,
   ⟨10, 1, 512, D 13 (.ld1 (T 12))⟩,
   ⟨11, 0, 0, D 14 (.fa 5 (T 1))⟩,
   ⟨12, 1, 2048, D 15 (.ld1 (T 14))⟩,
   ⟨2, 4, 3, D 5 (.call 42 [(T 4)])⟩,
   ⟨13, 0, 8191, D 16 (.build [(.slice none 0 0), (.int .i64 0), (.int .i64 0), (.int .i64 0), (.int .i64 0), (.int .i64 0)] [(0, 1, (T 5)), (1, 1, (T 7)), (2, 1, (T 9)), (3, 1, (T 11)), (4, 1, (T 13)), (5, 1, (T 15))])⟩,
   ⟨14, 4, 16383, E (.st 6 (T 2) (T 16))⟩]) (
 .ret))⟩
theorem dioramalaw21_theirs_ok : Ok Try.prog 20 dioramalaw21_theirs := ⟨by kernel_rfl, by kernel_rfl⟩

/-- diorama/crypt.LockBytes -/
def crypt_LockBytes : AF := ⟨49, [.tmp 2, .tmp 3],
 .seq (
  .ops [D 1 (.box (T 0)),
   D 2 (.mv (.const (.slice none 0 0))),
   D 3 (.mv (I 0))]) (
 .trim [1] (
  .seq (
   .ops [D 8 (.ldN 5 (T 1)),
    D 9 (.call 15 [(T 8)]),
    D 4 (.mv (T 9))]) (
  .seq (
   .ops [D 10 (.mv (T 4)),
    D 11 (.bin .neq (T 10) (I 0))]) (
  .cond (T 11) (
   .seq (
    .ops [D 12 (.mv (T 4)),
     D 2 (.mv (.const (.slice none 0 0))),
     D 3 (.mv (T 12))]) (
   .ret)) (
   .skip)))) (
 .trim [1, 5] (
  .ops [D 13 (.fa 0 (T 1)),
   D 14 (.ld1 (T 13)),
   D 15 (.cvi .u8 (T 14)),
   D 16 (.bslice [(.int .u8 0)] 1 [(0, 1, (T 15))]),
   D 17 (.fa 1 (T 1)),
   D 18 (.ld1 (T 17)),
   D 19 (.call 43 [(T 16), (T 18), (I 8)]),
   D 5 (.mv (T 19))]) (
 .trim [1, 5] (
  .ops [D 20 (.mv (T 5)),
   D 21 (.fa 2 (T 1)),
   D 22 (.ld1 (T 21)),
   D 23 (.cvi .u8 (T 22)),
   D 24 (.fa 3 (T 1)),
   D 25 (.ld1 (T 24)),
   D 26 (.cvi .u8 (T 25)),
   D 27 (.fa 4 (T 1)),
   D 28 (.ld1 (T 27)),
   D 29 (.len (T 28)),
   D 30 (.cvi .u8 (T 29)),
   D 31 (.bslice [(.int .u8 0), (.int .u8 0), (.int .u8 0)] 3 [(0, 1, (T 23)), (1, 1, (T 26)), (2, 1, (T 30))]),
   D 32 (.app 1 1 (T 20) (T 31)),
   D 5 (.mv (T 32))]) (
 .trim [5] (
  .seq (
   .ops [D 33 (.fa 4 (T 1)),
    D 34 (.ld1 (T 33)),
    D 35 (.len (T 34)),
    D 36 (.mv (I 0))]) (
  .block 0 (
   .loop [5, 34, 35, 36] (
    .seq (
     .ops [D 37 (.bin .lss (T 36) (T 35))]) (
    .seq (
     .cond (T 37) (
      .skip) (
      .exit 0)) (
    .trim [5, 34, 35, 36] (
     .block 1 (
      .seq (
       .ops [D 38 (.ia 2 (T 34) (T 36)),
        D 39 (.ldN 2 (T 38)),
        D 7 (.alloc [(.int .i64 0), (.int .i64 0)]),
        E (.st 2 (T 7) (T 39))]) (
      .draw [⟨0, 0, 0, D 40 (.mv (T 5))⟩,
       ⟨1, 0, 0, D 41 (.fa 0 (T 7))⟩,
       ⟨2, 1, 2, D 42 (.ld1 (T 41))⟩,
       ⟨4, 0, 0, D 44 (.fa 1 (T 7))⟩,
       ⟨5, 1, 16, D 45 (.ld1 (T 44))⟩,
       ⟨3, 4, 7, D 43 (.call 43 [(T 40), (T 42), (I 4)])⟩,
       ⟨6, 4, 63, D 46 (.call 43 [(T 43), (T 45), (I 4)])⟩,
       ⟨7, 0, 127, D 5 (.mv (T 46))⟩]))) (
    .ops [D 47 (.bin .add (T 36) (I 1)),
     D 36 (.mv (T 47))]))))))) (
 .seq (
  .ops [D 48 (.mv (T 5)),
   D 2 (.mv (T 48)),
   D 3 (.mv (I 0))]) (
 .ret))))))⟩
theorem crypt_LockBytes_ok : Ok Try.prog 21 crypt_LockBytes := ⟨by kernel_rfl, by kernel_rfl⟩

/-- diorama/dioramaref21.LockBytes -/
def dioramaref21_LockBytes : AF := ⟨60, [.tmp 2, .tmp 3],
 .seq (
  .ops [D 1 (.box (T 0)),
   D 2 (.mv (.const (.slice none 0 0))),
   D 3 (.mv (I 0))]) (
 .seq (
  .ops [D 7 (.ldN 5 (T 1)),
   D 8 (.call 16 [(T 7)]),
   D 4 (.mv (T 8))]) (
 .trim [1] (
  .seq (
   .ops [D 9 (.mv (T 4)),
    D 10 (.bin .neq (T 9) (I 0))]) (
  .cond (T 10) (
   .seq (
    .ops [D 11 (.mv (T 4)),
     D 2 (.mv (.const (.slice none 0 0))),
     D 3 (.mv (T 11))]) (
   .ret)) (
   .skip))) (
 .seq (
  .ops [D 12 (.fa 0 (T 1)),
   D 13 (.ld1 (T 12)),
   D 14 (.cvi .u8 (T 13)),
   D 15 (.bslice [(.int .u8 0)] 1 [(0, 1, (T 14))]),
   D 5 (.mv (T 15))]) (
 .trim [1, 5] (
  .ops [D 16 (.mv (T 5)),
   D 17 (.fa 1 (T 1)),
   D 18 (.ld1 (T 17)),
   D 19 (.call 44 [(T 18), (I 8)]),
   D 20 (.app 1 1 (T 16) (T 19)),
   D 5 (.mv (T 20))]) (
 .trim [1, 5] (
  .ops [D 21 (.mv (T 5)),
   D 22 (.fa 2 (T 1)),
   D 23 (.ld1 (T 22)),
   D 24 (.cvi .u8 (T 23)),
   D 25 (.fa 3 (T 1)),
   D 26 (.ld1 (T 25)),
   D 27 (.cvi .u8 (T 26)),
   D 28 (.fa 4 (T 1)),
   D 29 (.ld1 (T 28)),
   D 30 (.len (T 29)),
   D 31 (.cvi .u8 (T 30)),
   D 32 (.bslice [(.int .u8 0), (.int .u8 0), (.int .u8 0)] 3 [(0, 1, (T 24)), (1, 1, (T 27)), (2, 1, (T 31))]),
   D 33 (.app 1 1 (T 21) (T 32)),
   D 5 (.mv (T 33))]) (
 .trim [5] (
  .seq (
   .ops [D 6 (.mv (I 0))]) (
  .block 0 (
   .loop [1, 5, 6] (
    .trim [1, 5, 6] (
     .seq (
      .ops [D 34 (.mv (T 6)),
       D 35 (.fa 4 (T 1)),
       D 36 (.ld1 (T 35)),
       D 37 (.len (T 36)),
       D 38 (.bin .lss (T 34) (T 37))]) (
     .cond (T 38) (
      .skip) (
      .exit 0))) (
    .trim [1, 5, 6] (
     .block 1 (
      .trim [1, 5, 6] (
       .ops [D 41 (.mv (T 5)),
        D 42 (.fa 4 (T 1)),
        D 43 (.ld1 (T 42)),
        D 44 (.mv (T 6)),
        D 45 (.ia 2 (T 43) (T 44)),
        D 46 (.fa 0 (T 45)),
        D 47 (.ld1 (T 46)),
        D 48 (.call 44 [(T 47), (I 4)]),
        D 49 (.app 1 1 (T 41) (T 48)),
        D 5 (.mv (T 49))]) (
      .ops [D 50 (.mv (T 5)),
       D 51 (.fa 4 (T 1)),
       D 52 (.ld1 (T 51)),
       D 53 (.mv (T 6)),
       D 54 (.ia 2 (T 52) (T 53)),
       D 55 (.fa 1 (T 54)),
       D 56 (.ld1 (T 55)),
       D 57 (.call 44 [(T 56), (I 4)]),
       D 58 (.app 1 1 (T 50) (T 57)),
       D 5 (.mv (T 58))]))) (
    .ops [D 39 (.mv (T 6)),
     D 40 (.bin .add (T 39) (I 1)),
     D 6 (.mv (T 40))])))))) (
 .seq (
  .ops [D 59 (.mv (T 5)),
   D 2 (.mv (T 59)),
   D 3 (.mv (I 0))]) (
 .ret))))))))⟩
theorem dioramaref21_LockBytes_ok : Ok Try.prog 22 dioramaref21_LockBytes := ⟨by kernel_rfl, by kernel_rfl⟩

/-- diorama/crypt.FromBytes -/
def crypt_FromBytes : AF := ⟨107, [.cellN 5 2, .tmp 3, .tmp 4],
 .seq (
  .ops [D 2 (.alloc [(.int .i64 0), (.int .i64 0), (.int .i64 0), (.int .i64 0), (.slice none 0 0)]),
   D 3 (.mv (I 0)),
   D 4 (.mv (I 0))]) (
 .trim [0, 2] (
  .block 0 (
   .seq (
    .ops [D 16 (.mv (T 0)),
     D 17 (.len (T 16)),
     D 18 (.bin .eql (T 17) (I 0)),
     D 15 (.mv (T 18))]) (
   .cond (T 15) (
    .seq (
     .ops [D 19 (.build [(.int .i64 0), (.int .i64 0), (.int .i64 0), (.int .i64 0), (.slice none 0 0)] []),
      E (.st 5 (T 2) (T 19)),
      D 3 (.mv (I 0)),
      D 4 (.mv (I 3))]) (
    .ret)) (
    .seq (
     .ops [D 21 (.mv (T 0)),
      D 22 (.ia 1 (T 21) (I 0)),
      D 23 (.ld1 (T 22)),
      D 24 (.bin .eql (T 23) (.const (.int .u8 0))),
      D 20 (.mv (T 24))]) (
    .cond (T 20) (
     .seq (
      .ops [D 25 (.build [(.int .i64 0), (.int .i64 0), (.int .i64 0), (.int .i64 0), (.slice none 0 0)] []),
       E (.st 5 (T 2) (T 25)),
       D 3 (.mv (I 1)),
       D 4 (.mv (I 0))]) (
     .ret)) (
     .seq (
      .ops [D 27 (.mv (T 0)),
       D 28 (.ia 1 (T 27) (I 0)),
       D 29 (.ld1 (T 28)),
       D 30 (.bin .gtr (T 29) (.const (.int .u8 4))),
       D 26 (.mv (T 30))]) (
     .cond (T 26) (
      .seq (
       .ops [D 31 (.build [(.int .i64 0), (.int .i64 0), (.int .i64 0), (.int .i64 0), (.slice none 0 0)] []),
        E (.st 5 (T 2) (T 31)),
        D 3 (.mv (I 0)),
        D 4 (.mv (I 4))]) (
      .ret)) (
      .seq (
       .ops [D 33 (.mv (T 0)),
        D 34 (.len (T 33)),
        D 35 (.bin .lss (T 34) (I 12)),
        D 32 (.mv (T 35))]) (
      .cond (T 32) (
       .seq (
        .ops [D 36 (.build [(.int .i64 0), (.int .i64 0), (.int .i64 0), (.int .i64 0), (.slice none 0 0)] []),
         E (.st 5 (T 2) (T 36)),
         D 3 (.mv (I 0)),
         D 4 (.mv (I 3))]) (
       .ret)) (
       .skip)))))))))) (
 .trim [0, 2, 5, 6] (
  .ops [D 38 (.mv (T 0)),
   D 39 (.call 45 [(T 38), (I 1), (I 8)]),
   D 37 (.mv (T 39)),
   D 40 (.ext (T 37) 0),
   D 41 (.ext (T 37) 1),
   D 5 (.mv (T 40)),
   D 6 (.mv (T 41))]) (
 .seq (
  .ops [D 42 (.mv (T 0)),
   D 43 (.ia 1 (T 42) (I 11)),
   D 44 (.ld1 (T 43)),
   D 45 (.cvi .i64 (T 44)),
   D 7 (.mv (T 45))]) (
 .trim [0, 2, 5, 6, 7] (
  .seq (
   .ops [D 46 (.mv (T 7)),
    D 47 (.bin .gtr (T 46) (I 40))]) (
  .cond (T 47) (
   .seq (
    .ops [D 48 (.build [(.int .i64 0), (.int .i64 0), (.int .i64 0), (.int .i64 0), (.slice none 0 0)] []),
     E (.st 5 (T 2) (T 48)),
     D 3 (.mv (I 0)),
     D 4 (.mv (I 4))]) (
   .ret)) (
   .skip))) (
 .seq (
  .ops [D 49 (.mv (T 7)),
   D 50 (.bin .mul (I 8) (T 49)),
   D 51 (.bin .add (I 12) (T 50)),
   D 8 (.mv (T 51))]) (
 .trim [0, 2, 5, 6, 8] (
  .seq (
   .ops [D 52 (.mv (T 0)),
    D 53 (.len (T 52)),
    D 54 (.mv (T 8)),
    D 55 (.bin .lss (T 53) (T 54))]) (
  .cond (T 55) (
   .seq (
    .ops [D 56 (.build [(.int .i64 0), (.int .i64 0), (.int .i64 0), (.int .i64 0), (.slice none 0 0)] []),
     E (.st 5 (T 2) (T 56)),
     D 3 (.mv (I 0)),
     D 4 (.mv (I 3))]) (
   .ret)) (
   .skip))) (
 .trim [0, 2, 6, 8, 9] (
  .draw [⟨0, 0, 0, D 57 (.mv (T 0))⟩,
   ⟨1, 0, 1, D 58 (.ia 1 (T 57) (I 0))⟩,
   ⟨2, 1, 3, D 59 (.ld1 (T 58))⟩,
   ⟨3, 0, 7, D 60 (.cvi .i64 (T 59))⟩,
   ⟨4, 0, 0, D 61 (.mv (T 5))⟩,
   ⟨5, 0, 0, D 62 (.mv (T 0))⟩,
   ⟨6, 0, 32, D 63 (.ia 1 (T 62) (I 9))⟩,
   ⟨7, 1, 96, D 64 (.ld1 (T 63))⟩,
   ⟨8, 0, 224, D 65 (.cvi .i64 (T 64))⟩,
   ⟨9, 0, 0, D 66 (.mv (T 0))⟩,
   ⟨10, 0, 512, D 67 (.ia 1 (T 66) (I 10))⟩,
   ⟨11, 1, 1536, D 68 (.ld1 (T 67))⟩,
   ⟨12, 0, 3584, D 69 (.cvi .i64 (T 68))⟩,
   ⟨13, 0, 8191, D 70 (.build [(.int .i64 0), (.int .i64 0), (.int .i64 0), (.int .i64 0), (.slice none 0 0)] [(0, 1, (T 60)), (1, 1, (T 61)), (2, 1, (T 65)), (3, 1, (T 69))])⟩,
   ⟨14, 2, 0, D 9 (.alloc [(.int .i64 0), (.int .i64 0), (.int .i64 0), (.int .i64 0), (.slice none 0 0)])⟩,
   ⟨15, 4, 32767, E (.st 5 (T 9) (T 70))⟩]) (
 .trim [2, 6, 8, 9] (
  .seq (
   .ops [D 10 (.mv (I 12))]) (
  .block 1 (
   .loop [0, 2, 6, 8, 9, 10] (
    .seq (
     .seq (
      .ops [D 71 (.mv (T 10)),
       D 72 (.mv (T 8)),
       D 73 (.bin .lss (T 71) (T 72))]) (
     .cond (T 73) (
      .skip) (
      .exit 1))) (
    .trim [0, 2, 6, 8, 9, 10] (
     .block 2 (
      .trim [0, 2, 6, 8, 9, 10, 11] (
       .ops [D 77 (.mv (T 0)),
        D 78 (.mv (T 10)),
        D 79 (.call 45 [(T 77), (T 78), (I 4)]),
        D 76 (.mv (T 79)),
        D 80 (.ext (T 76) 0),
        D 81 (.ext (T 76) 1),
        D 11 (.mv (T 80)),
        D 12 (.mv (T 81))]) (
      .trim [0, 2, 6, 8, 9, 10, 11, 13] (
       .ops [D 83 (.mv (T 0)),
        D 84 (.mv (T 10)),
        D 85 (.bin .add (T 84) (I 4)),
        D 86 (.call 45 [(T 83), (T 85), (I 4)]),
        D 82 (.mv (T 86)),
        D 87 (.ext (T 82) 0),
        D 88 (.ext (T 82) 1),
        D 13 (.mv (T 87)),
        D 14 (.mv (T 88))]) (
      .ops [D 89 (.fa 4 (T 9)),
       D 90 (.ld1 (T 89)),
       D 91 (.mv (T 11)),
       D 92 (.mv (T 13)),
       D 93 (.build [(.int .i64 0), (.int .i64 0)] [(0, 1, (T 91)), (1, 1, (T 92))]),
       D 94 (.bslice [(.int .i64 0), (.int .i64 0)] 1 [(0, 2, (T 93))]),
       D 95 (.app 2 16 (T 90) (T 94)),
       D 96 (.fa 4 (T 9)),
       E (.st 1 (T 96) (T 95))])))) (
    .ops [D 74 (.mv (T 10)),
     D 75 (.bin .add (T 74) (I 8)),
     D 10 (.mv (T 75))])))))) (
 .trim [2, 8, 9] (
  .trim [2, 8, 9, 103] (
   .ops [D 97 (.mv (T 6)),
    D 98 (.bin .neq (T 97) (I 0)),
    D 99 (.mv (T 98)),
    ⟨(some 100), some (99, false), .ldN 5 (T 9)⟩,
    ⟨(some 101), some (99, false), .call 15 [(T 100)]⟩,
    ⟨(some 102), some (99, false), .bin .neq (T 101) (I 0)⟩,
    D 103 (.pick (T 99) (.const (.bool true)) (T 102))]) (
  .cond (T 103) (
   .seq (
    .ops [D 104 (.build [(.int .i64 0), (.int .i64 0), (.int .i64 0), (.int .i64 0), (.slice none 0 0)] []),
     E (.st 5 (T 2) (T 104)),
     D 3 (.mv (I 0)),
     D 4 (.mv (I 4))]) (
   .ret)) (
   .skip))) (
 .seq (
  .ops [D 105 (.ldN 5 (T 9)),
   D 106 (.mv (T 8)),
   E (.st 5 (T 2) (T 105)),
   D 3 (.mv (T 106)),
   D 4 (.mv (I 0))]) (
 .ret)))))))))))⟩
theorem crypt_FromBytes_ok : Ok Try.prog 23 crypt_FromBytes := ⟨by kernel_rfl, by kernel_rfl⟩

/-- diorama/dioramaref00.CopyBytes -/
def dioramaref00_CopyBytes : AF := ⟨22, [.tmp 2],
 .seq (
  .ops [D 2 (.mv (.const (.slice none 0 0)))]) (
 .seq (
  .ops [D 5 (.mv (T 0)),
   D 6 (.len (T 5)),
   D 7 (.mks [(.int .u8 0)] 1 (I 0) (T 6)),
   D 3 (.mv (T 7))]) (
 .trim [3] (
  .seq (
   .ops [D 4 (.mv (I 0))]) (
  .block 0 (
   .loop [0, 3, 4] (
    .seq (
     .seq (
      .ops [D 8 (.mv (T 4)),
       D 9 (.mv (T 0)),
       D 10 (.len (T 9)),
       D 11 (.bin .lss (T 8) (T 10))]) (
     .cond (T 11) (
      .skip) (
      .exit 0))) (
    .trim [0, 3, 4] (
     .block 1 (
      .ops [D 14 (.mv (T 3)),
       D 15 (.mv (T 0)),
       D 16 (.mv (T 4)),
       D 17 (.ia 1 (T 15) (T 16)),
       D 18 (.ld1 (T 17)),
       D 19 (.bslice [(.int .u8 0)] 1 [(0, 1, (T 18))]),
       D 20 (.app 1 1 (T 14) (T 19)),
       D 3 (.mv (T 20))])) (
    .ops [D 12 (.mv (T 4)),
     D 13 (.bin .add (T 12) (I 1)),
     D 4 (.mv (T 13))])))))) (
 .seq (
  .ops [D 21 (.mv (T 3)),
   D 2 (.mv (T 21))]) (
 .ret))))⟩
theorem dioramaref00_CopyBytes_ok : Ok Try.prog 24 dioramaref00_CopyBytes := ⟨by kernel_rfl, by kernel_rfl⟩

/-- diorama/dioramaref21.EqLock -/
def dioramaref21_EqLock : AF := ⟨59, [.tmp 4],
 .seq (
  .ops [D 2 (.box (T 0)),
   D 3 (.box (T 1)),
   D 4 (.mv (.const (.bool false)))]) (
 .trim [2, 3] (
  .trim [2, 3, 40] (
   .ops [D 6 (.fa 0 (T 2)),
    D 7 (.ld1 (T 6)),
    D 8 (.fa 0 (T 3)),
    D 9 (.ld1 (T 8)),
    D 10 (.bin .neq (T 7) (T 9)),
    D 11 (.mv (T 10)),
    ⟨(some 12), some (11, false), .fa 1 (T 2)⟩,
    ⟨(some 13), some (11, false), .ld1 (T 12)⟩,
    ⟨(some 14), some (11, false), .fa 1 (T 3)⟩,
    ⟨(some 15), some (11, false), .ld1 (T 14)⟩,
    ⟨(some 16), some (11, false), .bin .neq (T 13) (T 15)⟩,
    D 17 (.pick (T 11) (.const (.bool true)) (T 16)),
    D 18 (.mv (T 17)),
    ⟨(some 19), some (18, false), .fa 2 (T 2)⟩,
    ⟨(some 20), some (18, false), .ld1 (T 19)⟩,
    ⟨(some 21), some (18, false), .fa 2 (T 3)⟩,
    ⟨(some 22), some (18, false), .ld1 (T 21)⟩,
    ⟨(some 23), some (18, false), .bin .neq (T 20) (T 22)⟩,
    D 24 (.pick (T 18) (.const (.bool true)) (T 23)),
    D 25 (.mv (T 24)),
    ⟨(some 26), some (25, false), .fa 3 (T 2)⟩,
    ⟨(some 27), some (25, false), .ld1 (T 26)⟩,
    ⟨(some 28), some (25, false), .fa 3 (T 3)⟩,
    ⟨(some 29), some (25, false), .ld1 (T 28)⟩,
    ⟨(some 30), some (25, false), .bin .neq (T 27) (T 29)⟩,
    D 31 (.pick (T 25) (.const (.bool true)) (T 30)),
    D 32 (.mv (T 31)),
    ⟨(some 33), some (32, false), .fa 4 (T 2)⟩,
    ⟨(some 34), some (32, false), .ld1 (T 33)⟩,
    ⟨(some 35), some (32, false), .len (T 34)⟩,
    ⟨(some 36), some (32, false), .fa 4 (T 3)⟩,
    ⟨(some 37), some (32, false), .ld1 (T 36)⟩,
    ⟨(some 38), some (32, false), .len (T 37)⟩,
    ⟨(some 39), some (32, false), .bin .neq (T 35) (T 38)⟩,
    D 40 (.pick (T 32) (.const (.bool true)) (T 39))]) (
  .cond (T 40) (
   .seq (
    .ops [D 4 (.mv (.const (.bool false)))]) (
   .ret)) (
   .skip))) (
 .trim [] (
  .seq (
   .ops [D 5 (.mv (I 0))]) (
  .block 0 (
   .loop [2, 3, 5] (
    .trim [2, 3, 5] (
     .seq (
      .ops [D 41 (.mv (T 5)),
       D 42 (.fa 4 (T 2)),
       D 43 (.ld1 (T 42)),
       D 44 (.len (T 43)),
       D 45 (.bin .lss (T 41) (T 44))]) (
     .cond (T 45) (
      .skip) (
      .exit 0))) (
    .trim [2, 3, 5] (
     .block 1 (
      .trim [2, 3, 5, 58] (
       .draw [⟨0, 0, 0, D 48 (.fa 4 (T 2))⟩,
        ⟨1, 1, 1, D 49 (.ld1 (T 48))⟩,
        ⟨2, 0, 0, D 50 (.mv (T 5))⟩,
        ⟨3, 0, 7, D 51 (.ia 2 (T 49) (T 50))⟩,
        ⟨4, 1, 15, D 52 (.ldN 2 (T 51))⟩,
        ⟨5, 0, 0, D 53 (.fa 4 (T 3))⟩,
        ⟨6, 1, 32, D 54 (.ld1 (T 53))⟩,
        ⟨7, 0, 0, D 55 (.mv (T 5))⟩,
        ⟨8, 0, 224, D 56 (.ia 2 (T 54) (T 55))⟩,
        ⟨9, 1, 480, D 57 (.ldN 2 (T 56))⟩,
        ⟨10, 0, 1023, D 58 (.eqa true [1, 1] (T 52) (T 57))⟩]) (
      .cond (T 58) (
       .seq (
        .ops [D 4 (.mv (.const (.bool false)))]) (
       .ret)) (
       .skip)))) (
    .ops [D 46 (.mv (T 5)),
     D 47 (.bin .add (T 46) (I 1)),
     D 5 (.mv (T 47))])))))) (
 .seq (
  .ops [D 4 (.mv (.const (.bool true)))]) (
 .ret))))⟩
theorem dioramaref21_EqLock_ok : Ok Try.prog 25 dioramaref21_EqLock := ⟨by kernel_rfl, by kernel_rfl⟩

/-- diorama/dioramaref21.FromBytes -/
def dioramaref21_FromBytes : AF := ⟨106, [.cellN 5 2, .tmp 3, .tmp 4],
 .seq (
  .ops [D 2 (.alloc [(.int .i64 0), (.int .i64 0), (.int .i64 0), (.int .i64 0), (.slice none 0 0)]),
   D 3 (.mv (I 0)),
   D 4 (.mv (I 0))]) (
 .trim [0, 2] (
  .seq (
   .ops [D 14 (.mv (T 0)),
    D 15 (.len (T 14)),
    D 16 (.bin .lss (T 15) (I 1))]) (
  .cond (T 16) (
   .seq (
    .ops [D 17 (.build [(.int .i64 0), (.int .i64 0), (.int .i64 0), (.int .i64 0), (.slice none 0 0)] []),
     E (.st 5 (T 2) (T 17)),
     D 3 (.mv (I 0)),
     D 4 (.mv (I 3))]) (
   .ret)) (
   .skip))) (
 .trim [0, 2] (
  .seq (
   .ops [D 18 (.mv (T 0)),
    D 19 (.ia 1 (T 18) (I 0)),
    D 20 (.ld1 (T 19)),
    D 21 (.bin .eql (T 20) (.const (.int .u8 0)))]) (
  .cond (T 21) (
   .seq (
    .ops [D 22 (.build [(.int .i64 0), (.int .i64 0), (.int .i64 0), (.int .i64 0), (.slice none 0 0)] []),
     E (.st 5 (T 2) (T 22)),
     D 3 (.mv (I 1)),
     D 4 (.mv (I 0))]) (
   .ret)) (
   .skip))) (
 .trim [0, 2] (
  .seq (
   .ops [D 23 (.mv (T 0)),
    D 24 (.ia 1 (T 23) (I 0)),
    D 25 (.ld1 (T 24)),
    D 26 (.cvi .i64 (T 25)),
    D 27 (.bin .gtr (T 26) (I 4))]) (
  .cond (T 27) (
   .seq (
    .ops [D 28 (.build [(.int .i64 0), (.int .i64 0), (.int .i64 0), (.int .i64 0), (.slice none 0 0)] []),
     E (.st 5 (T 2) (T 28)),
     D 3 (.mv (I 0)),
     D 4 (.mv (I 4))]) (
   .ret)) (
   .skip))) (
 .trim [0, 2] (
  .seq (
   .ops [D 29 (.mv (T 0)),
    D 30 (.len (T 29)),
    D 31 (.bin .lss (T 30) (I 12))]) (
  .cond (T 31) (
   .seq (
    .ops [D 32 (.build [(.int .i64 0), (.int .i64 0), (.int .i64 0), (.int .i64 0), (.slice none 0 0)] []),
     E (.st 5 (T 2) (T 32)),
     D 3 (.mv (I 0)),
     D 4 (.mv (I 3))]) (
   .ret)) (
   .skip))) (
 .seq (
  .ops [D 33 (.mv (T 0)),
   D 34 (.ia 1 (T 33) (I 11)),
   D 35 (.ld1 (T 34)),
   D 36 (.cvi .i64 (T 35)),
   D 5 (.mv (T 36))]) (
 .trim [0, 2, 5] (
  .seq (
   .ops [D 37 (.mv (T 5)),
    D 38 (.bin .gtr (T 37) (I 40))]) (
  .cond (T 38) (
   .seq (
    .ops [D 39 (.build [(.int .i64 0), (.int .i64 0), (.int .i64 0), (.int .i64 0), (.slice none 0 0)] []),
     E (.st 5 (T 2) (T 39)),
     D 3 (.mv (I 0)),
     D 4 (.mv (I 4))]) (
   .ret)) (
   .skip))) (
 .trim [0, 2, 5] (
  .trim [0, 2, 5, 45] (
   .ops [D 40 (.mv (T 0)),
    D 41 (.len (T 40)),
    D 42 (.mv (T 5)),
    D 43 (.bin .mul (I 8) (T 42)),
    D 44 (.bin .add (I 12) (T 43)),
    D 45 (.bin .lss (T 41) (T 44))]) (
  .cond (T 45) (
   .seq (
    .ops [D 46 (.build [(.int .i64 0), (.int .i64 0), (.int .i64 0), (.int .i64 0), (.slice none 0 0)] []),
     E (.st 5 (T 2) (T 46)),
     D 3 (.mv (I 0)),
     D 4 (.mv (I 3))]) (
   .ret)) (
   .skip))) (
 .trim [0, 2, 5, 6, 7] (
  .ops [D 48 (.mv (T 0)),
   D 49 (.call 46 [(T 48), (I 1), (I 8)]),
   D 47 (.mv (T 49)),
   D 50 (.ext (T 47) 0),
   D 51 (.ext (T 47) 1),
   D 6 (.mv (T 50)),
   D 7 (.mv (T 51))]) (
 .trim [0, 2, 5, 6] (
  .seq (
   .ops [D 52 (.mv (T 7)),
    D 53 (.bin .neq (T 52) (I 0))]) (
  .cond (T 53) (
   .seq (
    .ops [D 54 (.build [(.int .i64 0), (.int .i64 0), (.int .i64 0), (.int .i64 0), (.slice none 0 0)] []),
     E (.st 5 (T 2) (T 54)),
     D 3 (.mv (I 0)),
     D 4 (.mv (I 4))]) (
   .ret)) (
   .skip))) (
 .trim [0, 2, 5, 8] (
  .draw [⟨0, 0, 0, D 55 (.mv (T 0))⟩,
   ⟨1, 0, 1, D 56 (.ia 1 (T 55) (I 0))⟩,
   ⟨2, 1, 3, D 57 (.ld1 (T 56))⟩,
   ⟨3, 0, 7, D 58 (.cvi .i64 (T 57))⟩,
   ⟨4, 0, 0, D 59 (.mv (T 6))⟩,
   ⟨5, 0, 0, D 60 (.mv (T 0))⟩,
   ⟨6, 0, 32, D 61 (.ia 1 (T 60) (I 9))⟩,
   ⟨7, 1, 96, D 62 (.ld1 (T 61))⟩,
   ⟨8, 0, 224, D 63 (.cvi .i64 (T 62))⟩,
   ⟨9, 0, 0, D 64 (.mv (T 0))⟩,
   ⟨10, 0, 512, D 65 (.ia 1 (T 64) (I 10))⟩,
   ⟨11, 1, 1536, D 66 (.ld1 (T 65))⟩,
   ⟨12, 0, 3584, D 67 (.cvi .i64 (T 66))⟩,
   ⟨13, 0, 8191, D 68 (.build [(.int .i64 0), (.int .i64 0), (.int .i64 0), (.int .i64 0), (.slice none 0 0)] [(0, 1, (T 58)), (1, 1, (T 59)), (2, 1, (T 63)), (3, 1, (T 67))])⟩,
   ⟨14, 2, 0, D 8 (.alloc [(.int .i64 0), (.int .i64 0), (.int .i64 0), (.int .i64 0), (.slice none 0 0)])⟩,
   ⟨15, 4, 32767, E (.st 5 (T 8) (T 68))⟩]) (
 .trim [2, 5, 8] (
  .seq (
   .ops [D 9 (.mv (I 0))]) (
  .block 0 (
   .loop [0, 2, 5, 8, 9] (
    .seq (
     .seq (
      .ops [D 69 (.mv (T 9)),
       D 70 (.mv (T 5)),
       D 71 (.bin .lss (T 69) (T 70))]) (
     .cond (T 71) (
      .skip) (
      .exit 0))) (
    .trim [0, 2, 5, 8, 9] (
     .block 1 (
      .trim [0, 2, 5, 8, 9, 10] (
       .ops [D 75 (.mv (T 0)),
        D 76 (.mv (T 9)),
        D 77 (.bin .mul (I 8) (T 76)),
        D 78 (.bin .add (I 12) (T 77)),
        D 79 (.call 46 [(T 75), (T 78), (I 4)]),
        D 74 (.mv (T 79)),
        D 80 (.ext (T 74) 0),
        D 81 (.ext (T 74) 1),
        D 10 (.mv (T 80)),
        D 11 (.mv (T 81))]) (
      .trim [0, 2, 5, 8, 9, 10, 12] (
       .ops [D 83 (.mv (T 0)),
        D 84 (.mv (T 9)),
        D 85 (.bin .mul (I 8) (T 84)),
        D 86 (.bin .add (I 16) (T 85)),
        D 87 (.call 46 [(T 83), (T 86), (I 4)]),
        D 82 (.mv (T 87)),
        D 88 (.ext (T 82) 0),
        D 89 (.ext (T 82) 1),
        D 12 (.mv (T 88)),
        D 13 (.mv (T 89))]) (
      .ops [D 90 (.fa 4 (T 8)),
       D 91 (.ld1 (T 90)),
       D 92 (.mv (T 10)),
       D 93 (.mv (T 12)),
       D 94 (.build [(.int .i64 0), (.int .i64 0)] [(0, 1, (T 92)), (1, 1, (T 93))]),
       D 95 (.bslice [(.int .i64 0), (.int .i64 0)] 1 [(0, 2, (T 94))]),
       D 96 (.app 2 16 (T 91) (T 95)),
       D 97 (.fa 4 (T 8)),
       E (.st 1 (T 97) (T 96))])))) (
    .ops [D 72 (.mv (T 9)),
     D 73 (.bin .add (T 72) (I 1)),
     D 9 (.mv (T 73))])))))) (
 .trim [2, 5, 8] (
  .seq (
   .ops [D 98 (.ldN 5 (T 8)),
    D 99 (.call 16 [(T 98)]),
    D 100 (.bin .neq (T 99) (I 0))]) (
  .cond (T 100) (
   .seq (
    .ops [D 101 (.build [(.int .i64 0), (.int .i64 0), (.int .i64 0), (.int .i64 0), (.slice none 0 0)] []),
     E (.st 5 (T 2) (T 101)),
     D 3 (.mv (I 0)),
     D 4 (.mv (I 4))]) (
   .ret)) (
   .skip))) (
 .seq (
  .ops [D 102 (.ldN 5 (T 8)),
   D 103 (.mv (T 5)),
   D 104 (.bin .mul (I 8) (T 103)),
   D 105 (.bin .add (I 12) (T 104)),
   E (.st 5 (T 2) (T 102)),
   D 3 (.mv (T 105)),
   D 4 (.mv (I 0))]) (
 .ret))))))))))))))⟩
theorem dioramaref21_FromBytes_ok : Ok Try.prog 26 dioramaref21_FromBytes := ⟨by kernel_rfl, by kernel_rfl⟩

/-- diorama/crypt.within -/
def crypt_within : AF := ⟨15, [.tmp 6],
 .seq (
  .ops [D 6 (.mv (.const (.bool false)))]) (
 .trim [6] (
  .ops [D 7 (.mv (T 0)),
   D 8 (.mv (T 1)),
   D 9 (.bin .geq (T 7) (T 8)),
   D 10 (.mv (T 9)),
   ⟨(some 11), some (10, true), .mv (T 0)⟩,
   ⟨(some 12), some (10, true), .mv (T 2)⟩,
   ⟨(some 13), some (10, true), .bin .leq (T 11) (T 12)⟩,
   D 14 (.pick (T 10) (T 13) (.const (.bool false))),
   D 6 (.mv (T 14))]) (
 .ret))⟩
theorem crypt_within_ok : Ok Try.prog 27 crypt_within := ⟨by kernel_rfl, by kernel_rfl⟩

/-- diorama/crypt.newCipher -/
def crypt_newCipher : AF := ⟨15, [.cellN 1 4],
 .seq (
  .ops [D 3 (.box (T 1)),
   D 4 (.alloc [.nilFunc])]) (
 .trim [3, 4, 5, 6] (
  .draw [⟨0, 0, 0, D 7 (.mv (T 0))⟩,
   ⟨1, 0, 1, D 8 (.slc 1 (T 7) none (some (I 8)) none)⟩,
   ⟨3, 0, 0, D 10 (.mv (T 0))⟩,
   ⟨4, 0, 8, D 11 (.slc 1 (T 10) (some (I 8)) none none)⟩,
   ⟨2, 4, 3, D 9 (.call 47 [(T 8)])⟩,
   ⟨5, 4, 31, D 12 (.call 47 [(T 11)])⟩,
   ⟨6, 3, 0, D 5 (.alloc [(.int .u64 0)])⟩,
   ⟨7, 3, 0, D 6 (.alloc [(.int .u64 0)])⟩,
   ⟨8, 4, 255, E (.st 1 (T 5) (T 9))⟩,
   ⟨9, 4, 511, E (.st 1 (T 6) (T 12))⟩]) (
 .seq (
  .ops [D 13 (.mkf 48 [] [(T 5), (T 3), (T 6)]),
   D 14 (.build [.nilFunc] [(0, 1, (T 13))]),
   E (.st 1 (T 4) (T 14))]) (
 .ret)))⟩
theorem crypt_newCipher_ok : Ok Try.prog 28 crypt_newCipher := ⟨by kernel_rfl, by kernel_rfl⟩

/-- diorama/dioramaref21.in -/
def dioramaref21_in : AF := ⟨15, [.tmp 6],
 .seq (
  .ops [D 6 (.mv (.const (.bool false)))]) (
 .trim [6] (
  .ops [D 7 (.mv (T 0)),
   D 8 (.mv (T 1)),
   D 9 (.bin .geq (T 7) (T 8)),
   D 10 (.mv (T 9)),
   ⟨(some 11), some (10, true), .mv (T 0)⟩,
   ⟨(some 12), some (10, true), .mv (T 2)⟩,
   ⟨(some 13), some (10, true), .bin .leq (T 11) (T 12)⟩,
   D 14 (.pick (T 10) (T 13) (.const (.bool false))),
   D 6 (.mv (T 14))]) (
 .ret))⟩
theorem dioramaref21_in_ok : Ok Try.prog 29 dioramaref21_in := ⟨by kernel_rfl, by kernel_rfl⟩

/-- diorama/dioramaref21.block -/
def dioramaref21_block : AF := ⟨36, [.tmp 6],
 .seq (
  .ops [D 6 (.mv (.const (.slice none 0 0)))]) (
 .trim [0, 2, 7] (
  .ops [D 9 (.mv (T 0)),
   D 10 (.slc 1 (T 9) none (some (I 8)) none),
   D 11 (.call 52 [(T 10)]),
   D 12 (.mv (T 1)),
   D 13 (.cvi .u64 (T 12)),
   D 14 (.bin .mul (T 13) (.const (.int .u64 11400714819323198485))),
   D 15 (.bin .add (T 11) (T 14)),
   D 16 (.mv (T 2)),
   D 17 (.cvi .u64 (T 16)),
   D 18 (.bin .add (T 15) (T 17)),
   D 19 (.call 51 [(T 18)]),
   D 7 (.mv (T 19))]) (
 .trim [7, 8] (
  .ops [D 20 (.mv (T 0)),
   D 21 (.slc 1 (T 20) (some (I 8)) none none),
   D 22 (.call 52 [(T 21)]),
   D 23 (.mv (T 7)),
   D 24 (.bin .add (T 22) (T 23)),
   D 25 (.mv (T 2)),
   D 26 (.cvi .u64 (T 25)),
   D 27 (.bin .mul (T 26) (.const (.int .u64 2))),
   D 28 (.bin .add (T 24) (T 27)),
   D 29 (.bin .add (T 28) (.const (.int .u64 1))),
   D 30 (.call 51 [(T 29)]),
   D 8 (.mv (T 30))]) (
 .trim [6] (
  .ops [D 31 (.mv (T 7)),
   D 32 (.call 53 [(T 31)]),
   D 33 (.mv (T 8)),
   D 34 (.call 53 [(T 33)]),
   D 35 (.app 1 1 (T 32) (T 34)),
   D 6 (.mv (T 35))]) (
 .ret))))⟩
theorem dioramaref21_block_ok : Ok Try.prog 30 dioramaref21_block := ⟨by kernel_rfl, by kernel_rfl⟩

/-- diorama/crypt.stretches -/
def crypt_stretches : AF := ⟨89, [.tmp 4, .tmp 5],
 .seq (
  .ops [D 2 (.box (T 0)),
   D 4 (.mv (.const (.slice none 0 0))),
   D 5 (.mv (.const (.bool false)))]) (
 .seq (
  .ops [D 14 (.fa 4 (T 2)),
   D 15 (.ld1 (T 14)),
   D 6 (.mv (T 15))]) (
 .cut [1, 2, 6] (
  .seq (
   .ops [D 16 (.mv (T 6)),
    D 17 (.len (T 16)),
    D 18 (.bin .eql (T 17) (I 0))]) (
  .cond (T 18) (
   .ops [D 19 (.mv (T 1)),
    D 20 (.build [(.int .i64 0), (.int .i64 0)] [(1, 1, (T 19))]),
    D 21 (.bslice [(.int .i64 0), (.int .i64 0)] 1 [(0, 2, (T 20))]),
    D 6 (.mv (T 21))]) (
   .skip))) (
 .seq (
  .ops [D 7 (.mv (.const (.slice none 0 0)))]) (
 .seq (
  .ops [D 8 (.mv (I 0)),
   D 9 (.mv (I 0))]) (
 .trim [1, 7, 8] (
  .seq (
   .ops [D 22 (.mv (T 6)),
    D 23 (.len (T 22)),
    D 24 (.mv (I 0))]) (
  .block 0 (
   .loop [1, 2, 7, 8, 9, 22, 23, 24] (
    .seq (
     .ops [D 25 (.bin .lss (T 24) (T 23))]) (
    .seq (
     .cond (T 25) (
      .skip) (
      .exit 0)) (
    .trim [1, 2, 7, 8, 9, 22, 23, 24] (
     .block 1 (
      .seq (
       .ops [D 26 (.ia 2 (T 22) (T 24)),
        D 27 (.ldN 2 (T 26)),
        D 11 (.alloc [(.int .i64 0), (.int .i64 0)]),
        E (.st 2 (T 11) (T 27))]) (
      .seq (
       .ops [D 28 (.mv (T 8)),
        D 29 (.fa 0 (T 11)),
        D 30 (.ld1 (T 29)),
        D 31 (.bin .add (T 28) (T 30)),
        D 8 (.mv (T 31))]) (
      .seq (
       .ops [D 32 (.mv (T 8)),
        D 33 (.fa 1 (T 11)),
        D 34 (.ld1 (T 33)),
        D 35 (.bin .add (T 32) (T 34)),
        D 12 (.mv (T 35))]) (
      .cut [1, 2, 7, 9, 12, 22, 23, 24] (
       .block 2 (
        .seq (
         .ops [D 65 (.fa 2 (T 2)),
          D 66 (.ld1 (T 65)),
          D 67 (.bin .eql (T 66) (I 0)),
          D 64 (.mv (T 67))]) (
        .cond (T 64) (
         .trim [1, 2, 7, 9, 11, 12, 22, 23, 24] (
          .ops [D 68 (.mv (T 7)),
           D 69 (.mv (T 8)),
           D 70 (.mv (T 12)),
           D 71 (.mv (T 9)),
           D 72 (.bin .quo (T 71) (I 16)),
           D 73 (.mv (T 9)),
           D 74 (.bin .rem (T 73) (I 16)),
           D 75 (.build [(.int .i64 0), (.int .i64 0), (.int .i64 0), (.int .i64 0)] [(0, 1, (T 69)), (1, 1, (T 70)), (2, 1, (T 72)), (3, 1, (T 74))]),
           D 76 (.bslice [(.int .i64 0), (.int .i64 0), (.int .i64 0), (.int .i64 0)] 1 [(0, 4, (T 75))]),
           D 77 (.app 4 32 (T 68) (T 76)),
           D 7 (.mv (T 77))]) (
         .ops [D 78 (.mv (T 9)),
          D 79 (.fa 1 (T 11)),
          D 80 (.ld1 (T 79)),
          D 81 (.bin .add (T 78) (T 80)),
          D 9 (.mv (T 81))])) (
         .seq (
          .ops [D 13 (.mv (I 0))]) (
         .block 3 (
          .loop [1, 2, 7, 8, 9, 12, 13, 22, 23, 24] (
           .seq (
            .seq (
             .ops [D 36 (.mv (T 8)),
              D 37 (.bin .add (T 36) (I 16)),
              D 38 (.mv (T 12)),
              D 39 (.bin .leq (T 37) (T 38))]) (
            .cond (T 39) (
             .skip) (
             .exit 3))) (
           .trim [1, 2, 7, 8, 9, 12, 13, 22, 23, 24] (
            .block 4 (
             .trim [1, 2, 7, 8, 9, 12, 13, 22, 23, 24] (
              .trim [1, 2, 7, 8, 9, 12, 13, 22, 23, 24, 51] (
               .draw [⟨0, 0, 0, D 42 (.mv (T 13))⟩,
                ⟨1, 0, 0, D 43 (.fa 2 (T 2))⟩,
                ⟨2, 1, 2, D 44 (.ld1 (T 43))⟩,
                ⟨3, 0, 0, D 45 (.fa 3 (T 2))⟩,
                ⟨4, 1, 8, D 46 (.ld1 (T 45))⟩,
                ⟨5, 0, 30, D 47 (.bin .add (T 44) (T 46))⟩,
                ⟨6, 0, 63, D 48 (.bin .rem (T 42) (T 47))⟩,
                ⟨7, 0, 0, D 49 (.fa 2 (T 2))⟩,
                ⟨8, 1, 128, D 50 (.ld1 (T 49))⟩,
                ⟨9, 0, 511, D 51 (.bin .lss (T 48) (T 50))⟩]) (
              .cond (T 51) (
               .trim [1, 2, 7, 8, 9, 12, 13, 22, 23, 24] (
                .ops [D 52 (.mv (T 7)),
                 D 53 (.mv (T 8)),
                 D 54 (.mv (T 8)),
                 D 55 (.bin .add (T 54) (I 16)),
                 D 56 (.mv (T 9)),
                 D 57 (.build [(.int .i64 0), (.int .i64 0), (.int .i64 0), (.int .i64 0)] [(0, 1, (T 53)), (1, 1, (T 55)), (2, 1, (T 56)), (3, 1, (I 0))]),
                 D 58 (.bslice [(.int .i64 0), (.int .i64 0), (.int .i64 0), (.int .i64 0)] 1 [(0, 4, (T 57))]),
                 D 59 (.app 4 32 (T 52) (T 58)),
                 D 7 (.mv (T 59))]) (
               .ops [D 60 (.mv (T 9)),
                D 61 (.bin .add (T 60) (I 1)),
                D 9 (.mv (T 61))])) (
               .skip))) (
             .ops [D 62 (.mv (T 8)),
              D 63 (.bin .add (T 62) (I 16)),
              D 8 (.mv (T 63))]))) (
           .ops [D 40 (.mv (T 13)),
            D 41 (.bin .add (T 40) (I 1)),
            D 13 (.mv (T 41))]))))))))) (
      .ops [D 82 (.mv (T 12)),
       D 8 (.mv (T 82))])))))) (
    .ops [D 83 (.bin .add (T 24) (I 1)),
     D 24 (.mv (T 83))]))))))) (
 .trim [4, 5] (
  .ops [D 84 (.mv (T 7)),
   D 85 (.call 54 [(T 84), (.func 55)]),
   D 86 (.mv (T 8)),
   D 87 (.mv (T 1)),
   D 88 (.bin .eql (T 86) (T 87)),
   D 4 (.mv (T 85)),
   D 5 (.mv (T 88))]) (
 .ret)))))))⟩
theorem crypt_stretches_ok : Ok Try.prog 31 crypt_stretches := ⟨by kernel_rfl, by kernel_rfl⟩

/-- diorama/dioramaref21.marks -/
def dioramaref21_marks : AF := ⟨92, [.tmp 4, .tmp 5],
 .seq (
  .ops [D 2 (.box (T 0)),
   D 4 (.mv (.const (.slice none 0 0))),
   D 5 (.mv (.const (.bool false)))]) (
 .seq (
  .ops [D 14 (.fa 4 (T 2)),
   D 15 (.ld1 (T 14)),
   D 6 (.mv (T 15))]) (
 .cut [1, 2, 6] (
  .seq (
   .ops [D 16 (.mv (T 6)),
    D 17 (.len (T 16)),
    D 18 (.bin .eql (T 17) (I 0))]) (
  .cond (T 18) (
   .ops [D 19 (.mv (T 1)),
    D 20 (.build [(.int .i64 0), (.int .i64 0)] [(1, 1, (T 19))]),
    D 21 (.bslice [(.int .i64 0), (.int .i64 0)] 1 [(0, 2, (T 20))]),
    D 6 (.mv (T 21))]) (
   .skip))) (
 .seq (
  .ops [D 7 (.mv (.const (.slice none 0 0)))]) (
 .seq (
  .ops [D 8 (.mv (I 0))]) (
 .trim [1, 7] (
  .seq (
   .ops [D 9 (.mv (I 0))]) (
  .block 0 (
   .loop [1, 2, 6, 7, 8, 9] (
    .seq (
     .seq (
      .ops [D 22 (.mv (T 9)),
       D 23 (.mv (T 6)),
       D 24 (.len (T 23)),
       D 25 (.bin .lss (T 22) (T 24))]) (
     .cond (T 25) (
      .skip) (
      .exit 0))) (
    .trim [1, 2, 6, 7, 8, 9] (
     .block 1 (
      .trim [1, 2, 6, 7, 8, 9] (
       .seq (
        .ops [D 10 (.mv (I 0))]) (
       .block 2 (
        .loop [1, 2, 6, 7, 8, 9, 10] (
         .trim [1, 2, 6, 7, 8, 9, 10] (
          .trim [1, 2, 6, 7, 8, 9, 10, 34] (
           .ops [D 28 (.mv (T 10)),
            D 29 (.mv (T 6)),
            D 30 (.mv (T 9)),
            D 31 (.ia 2 (T 29) (T 30)),
            D 32 (.fa 0 (T 31)),
            D 33 (.ld1 (T 32)),
            D 34 (.bin .lss (T 28) (T 33))]) (
          .cond (T 34) (
           .skip) (
           .exit 2))) (
         .seq (
          .block 3 (
           .ops [D 37 (.mv (T 7)),
            D 38 (.bslice [(.int .i64 0)] 1 [(0, 1, (I (-1)))]),
            D 39 (.app 1 8 (T 37) (T 38)),
            D 7 (.mv (T 39))])) (
         .ops [D 35 (.mv (T 10)),
          D 36 (.bin .add (T 35) (I 1)),
          D 10 (.mv (T 36))])))))) (
      .trim [1, 2, 6, 7, 8, 9, 11] (
       .ops [D 40 (.mv (T 6)),
        D 41 (.mv (T 9)),
        D 42 (.ia 2 (T 40) (T 41)),
        D 43 (.fa 1 (T 42)),
        D 44 (.ld1 (T 43)),
        D 11 (.mv (T 44))]) (
      .trim [1, 2, 6, 7, 8, 9] (
       .seq (
        .ops [D 12 (.mv (I 0))]) (
       .block 4 (
        .loop [1, 2, 6, 7, 8, 9, 11, 12] (
         .seq (
          .seq (
           .ops [D 45 (.mv (T 12)),
            D 46 (.mv (T 11)),
            D 47 (.bin .lss (T 45) (T 46))]) (
          .cond (T 47) (
           .skip) (
           .exit 4))) (
         .trim [1, 2, 6, 7, 8, 9, 11, 12] (
          .block 5 (
           .trim [1, 2, 6, 7, 8, 9, 11, 12, 13] (
            .ops [D 50 (.mv (T 12)),
             D 51 (.bin .quo (T 50) (I 16)),
             D 52 (.mv (T 11)),
             D 53 (.bin .quo (T 52) (I 16)),
             D 54 (.bin .lss (T 51) (T 53)),
             D 13 (.mv (T 54))]) (
           .trim [1, 2, 6, 7, 8, 9, 11, 12, 73] (
            .draw [⟨0, 0, 0, D 55 (.fa 2 (T 2))⟩,
             ⟨1, 1, 1, D 56 (.ld1 (T 55))⟩,
             ⟨2, 0, 3, D 57 (.bin .eql (T 56) (I 0))⟩,
             ⟨3, 0, 7, D 58 (.mv (T 57))⟩,
             ⟨4, 0, 15, ⟨(some 59), some (58, false), .mv (T 13)⟩⟩,
             ⟨5, 0, 31, ⟨(some 60), some (58, false), .mv (T 59)⟩⟩,
             ⟨6, 0, 63, ⟨(some 61), some (60, true), .mv (T 12)⟩⟩,
             ⟨7, 0, 127, ⟨(some 62), some (60, true), .bin .quo (T 61) (I 16)⟩⟩,
             ⟨8, 0, 63, ⟨(some 63), some (60, true), .fa 2 (T 2)⟩⟩,
             ⟨9, 1, 319, ⟨(some 64), some (60, true), .ld1 (T 63)⟩⟩,
             ⟨10, 0, 63, ⟨(some 65), some (60, true), .fa 3 (T 2)⟩⟩,
             ⟨11, 1, 1087, ⟨(some 66), some (60, true), .ld1 (T 65)⟩⟩,
             ⟨12, 0, 3903, ⟨(some 67), some (60, true), .bin .add (T 64) (T 66)⟩⟩,
             ⟨13, 0, 8191, ⟨(some 68), some (60, true), .bin .rem (T 62) (T 67)⟩⟩,
             ⟨14, 0, 63, ⟨(some 69), some (60, true), .fa 2 (T 2)⟩⟩,
             ⟨15, 1, 16447, ⟨(some 70), some (60, true), .ld1 (T 69)⟩⟩,
             ⟨16, 0, 65535, ⟨(some 71), some (60, true), .bin .lss (T 68) (T 70)⟩⟩,
             ⟨17, 0, 131071, ⟨(some 72), some (58, false), .pick (T 60) (T 71) (.const (.bool false))⟩⟩,
             ⟨18, 0, 262143, D 73 (.pick (T 58) (.const (.bool true)) (T 72))⟩]) (
           .cond (T 73) (
            .seq (
             .ops [D 74 (.mv (T 7)),
              D 75 (.mv (T 8)),
              D 76 (.bslice [(.int .i64 0)] 1 [(0, 1, (T 75))]),
              D 77 (.app 1 8 (T 74) (T 76)),
              D 7 (.mv (T 77))]) (
            .ops [D 78 (.mv (T 8)),
             D 79 (.bin .add (T 78) (I 1)),
             D 8 (.mv (T 79))])) (
            .ops [D 80 (.mv (T 7)),
             D 81 (.bslice [(.int .i64 0)] 1 [(0, 1, (I (-1)))]),
             D 82 (.app 1 8 (T 80) (T 81)),
             D 7 (.mv (T 82))]))))) (
         .ops [D 48 (.mv (T 12)),
          D 49 (.bin .add (T 48) (I 1)),
          D 12 (.mv (T 49))])))))) (
      .seq (
       .ops [D 83 (.mv (T 7)),
        D 84 (.len (T 83)),
        D 85 (.mv (T 1)),
        D 86 (.bin .gtr (T 84) (T 85))]) (
      .cond (T 86) (
       .seq (
        .ops [D 4 (.mv (.const (.slice none 0 0))),
         D 5 (.mv (.const (.bool false)))]) (
       .ret)) (
       .skip))))))) (
    .ops [D 26 (.mv (T 9)),
     D 27 (.bin .add (T 26) (I 1)),
     D 9 (.mv (T 27))])))))) (
 .trim [4, 5] (
  .ops [D 87 (.mv (T 7)),
   D 88 (.mv (T 7)),
   D 89 (.len (T 88)),
   D 90 (.mv (T 1)),
   D 91 (.bin .eql (T 89) (T 90)),
   D 4 (.mv (T 87)),
   D 5 (.mv (T 91))]) (
 .ret)))))))⟩
theorem dioramaref21_marks_ok : Ok Try.prog 32 dioramaref21_marks := ⟨by kernel_rfl, by kernel_rfl⟩

/-- diorama/crypt.Check$1 -/
def crypt_Check_1 : AF := ⟨13, [.tmp 2],
 .seq (
  .ops [D 1 (.box (T 0)),
   D 2 (.mv (.const (.bool false)))]) (
 .trim [2] (
  .ops [D 3 (.fa 0 (T 1)),
   D 4 (.ld1 (T 3)),
   D 5 (.call 27 [(T 4), (I 0), (I 65536)]),
   D 6 (.un .not (T 5)),
   D 7 (.mv (T 6)),
   ⟨(some 8), some (7, false), .fa 1 (T 1)⟩,
   ⟨(some 9), some (7, false), .ld1 (T 8)⟩,
   ⟨(some 10), some (7, false), .call 27 [(T 9), (I 0), (I 65536)]⟩,
   ⟨(some 11), some (7, false), .un .not (T 10)⟩,
   D 12 (.pick (T 7) (.const (.bool true)) (T 11)),
   D 2 (.mv (T 12))]) (
 .ret))⟩
theorem crypt_Check_1_ok : Ok Try.prog 33 crypt_Check_1 := ⟨by kernel_rfl, by kernel_rfl⟩

/-- diorama/crypt.pattern -/
def crypt_pattern : AF := ⟨20, [.tmp 4],
 .seq (
  .ops [D 4 (.mv (.const (.bool false)))]) (
 .trim [4] (
  .ops [D 5 (.mv (T 0)),
   D 6 (.call 27 [(T 5), (I 0), (I 10)]),
   D 7 (.mv (T 6)),
   ⟨(some 8), some (7, true), .mv (T 1)⟩,
   ⟨(some 9), some (7, true), .call 27 [(T 8), (I 0), (I 10)]⟩,
   D 10 (.pick (T 7) (T 9) (.const (.bool false))),
   D 11 (.mv (T 10)),
   ⟨(some 12), some (11, true), .mv (T 0)⟩,
   ⟨(some 13), some (11, true), .bin .eql (T 12) (I 0)⟩,
   ⟨(some 14), some (11, true), .mv (T 13)⟩,
   ⟨(some 15), some (14, true), .mv (T 1)⟩,
   ⟨(some 16), some (14, true), .bin .gtr (T 15) (I 0)⟩,
   ⟨(some 17), some (11, true), .pick (T 14) (T 16) (.const (.bool false))⟩,
   ⟨(some 18), some (11, true), .un .not (T 17)⟩,
   D 19 (.pick (T 11) (T 18) (.const (.bool false))),
   D 4 (.mv (T 19))]) (
 .ret))⟩
theorem crypt_pattern_ok : Ok Try.prog 34 crypt_pattern := ⟨by kernel_rfl, by kernel_rfl⟩

/-- slices.ContainsFunc[[]diorama/api.Part,diorama/api.Part] -/
def slices_ContainsFunc___api_Part_api_Part_ : AF := ⟨9, [.tmp 4],
 .seq (
  .ops [D 4 (.mv (.const (.bool false)))]) (
 .seq (
  .ops [D 5 (.mv (T 0)),
   D 6 (.mv (T 1)),
   D 7 (.call 56 [(T 5), (T 6)]),
   D 8 (.bin .geq (T 7) (I 0)),
   D 4 (.mv (T 8))]) (
 .ret))⟩
theorem slices_ContainsFunc___api_Part_api_Part__ok : Ok Try.prog 35 slices_ContainsFunc___api_Part_api_Part_ := ⟨by kernel_rfl, by kernel_rfl⟩

/-- diorama/dioramaref21.pattern -/
def dioramaref21_pattern : AF := ⟨19, [.tmp 4],
 .seq (
  .ops [D 4 (.mv (.const (.bool false)))]) (
 .trim [4] (
  .ops [D 5 (.mv (T 0)),
   D 6 (.call 29 [(T 5), (I 0), (I 10)]),
   D 7 (.mv (T 6)),
   ⟨(some 8), some (7, true), .mv (T 1)⟩,
   ⟨(some 9), some (7, true), .call 29 [(T 8), (I 0), (I 10)]⟩,
   D 10 (.pick (T 7) (T 9) (.const (.bool false))),
   D 11 (.mv (T 10)),
   ⟨(some 12), some (11, true), .mv (T 0)⟩,
   ⟨(some 13), some (11, true), .bin .gtr (T 12) (I 0)⟩,
   ⟨(some 14), some (11, true), .mv (T 13)⟩,
   ⟨(some 15), some (14, false), .mv (T 1)⟩,
   ⟨(some 16), some (14, false), .bin .eql (T 15) (I 0)⟩,
   ⟨(some 17), some (11, true), .pick (T 14) (.const (.bool true)) (T 16)⟩,
   D 18 (.pick (T 11) (T 17) (.const (.bool false))),
   D 4 (.mv (T 18))]) (
 .ret))⟩
theorem dioramaref21_pattern_ok : Ok Try.prog 36 dioramaref21_pattern := ⟨by kernel_rfl, by kernel_rfl⟩

/-- diorama/crypt.hasKey -/
def crypt_hasKey : AF := ⟨18, [.tmp 4],
 .seq (
  .ops [D 4 (.mv (.const (.bool false)))]) (
 .trim [4] (
  .ops [D 5 (.mv (T 1)),
   D 6 (.mv (T 0)),
   D 7 (.len (T 6)),
   D 8 (.call 27 [(T 5), (I 1), (T 7)]),
   D 9 (.mv (T 8)),
   ⟨(some 10), some (9, true), .mv (T 0)⟩,
   ⟨(some 11), some (9, true), .mv (T 1)⟩,
   ⟨(some 12), some (9, true), .bin .sub (T 11) (I 1)⟩,
   ⟨(some 13), some (9, true), .ia 1 (T 10) (T 12)⟩,
   ⟨(some 14), some (9, true), .ld1 (T 13)⟩,
   ⟨(some 15), some (9, true), .len (T 14)⟩,
   ⟨(some 16), some (9, true), .bin .eql (T 15) (I 16)⟩,
   D 17 (.pick (T 9) (T 16) (.const (.bool false))),
   D 4 (.mv (T 17))]) (
 .ret))⟩
theorem crypt_hasKey_ok : Ok Try.prog 37 crypt_hasKey := ⟨by kernel_rfl, by kernel_rfl⟩

/-- diorama/crypt.apply -/
def crypt_apply : AF := ⟨73, [.tmp 6],
 .seq (
  .ops [D 4 (.box (T 1)),
   D 6 (.mv (.const (.slice none 0 0)))]) (
 .seq (
  .ops [D 17 (.mv (T 0)),
   D 18 (.call 57 [(T 17)]),
   D 7 (.mv (T 18))]) (
 .trim [2, 4, 7, 8] (
  .ops [D 20 (.ldN 5 (T 4)),
   D 21 (.mv (T 0)),
   D 22 (.len (T 21)),
   D 23 (.call 31 [(T 20), (T 22)]),
   D 19 (.mv (T 23)),
   D 24 (.ext (T 19) 0),
   D 25 (.ext (T 19) 1),
   D 8 (.mv (T 24)),
   D 9 (.mv (T 25))]) (
 .seq (
  .ops [D 26 (.mv (T 2)),
   D 27 (.fa 1 (T 4)),
   D 28 (.ld1 (T 27)),
   D 29 (.call 28 [(T 26), (T 28)]),
   D 10 (.alloc [.nilFunc]),
   E (.st 1 (T 10) (T 29))]) (
 .trim [7] (
  .seq (
   .ops [D 30 (.mv (T 8)),
    D 31 (.len (T 30)),
    D 32 (.mv (I 0))]) (
  .block 0 (
   .loop [7, 10, 30, 31, 32] (
    .seq (
     .ops [D 33 (.bin .lss (T 32) (T 31))]) (
    .seq (
     .cond (T 33) (
      .skip) (
      .exit 0)) (
    .trim [7, 10, 30, 31, 32] (
     .block 1 (
      .seq (
       .ops [D 34 (.ia 4 (T 30) (T 32)),
        D 35 (.ldN 4 (T 34)),
        D 12 (.alloc [(.int .i64 0), (.int .i64 0), (.int .i64 0), (.int .i64 0)]),
        E (.st 4 (T 12) (T 35))]) (
      .seq (
       .draw [⟨0, 0, 0, D 36 (.fa 2 (T 12))⟩,
        ⟨1, 1, 1, D 37 (.ld1 (T 36))⟩,
        ⟨2, 0, 0, D 38 (.fa 3 (T 12))⟩,
        ⟨3, 1, 4, D 39 (.ld1 (T 38))⟩,
        ⟨4, 0, 3, D 13 (.mv (T 37))⟩,
        ⟨5, 0, 31, D 14 (.mv (T 39))⟩]) (
      .seq (
       .ops [D 40 (.fa 0 (T 10)),
        D 41 (.ld1 (T 40)),
        D 42 (.mv (T 13)),
        D 43 (.callv (T 41) [(T 42)]),
        D 15 (.alloc (List.replicate 16 (.int .u8 0))),
        E (.st 16 (T 15) (T 43))]) (
      .seq (
       .ops [D 44 (.fa 0 (T 12)),
        D 45 (.ld1 (T 44)),
        D 16 (.mv (T 45))]) (
      .block 2 (
       .loop [7, 10, 12, 13, 14, 15, 16, 30, 31, 32] (
        .seq (
         .seq (
          .ops [D 46 (.mv (T 16)),
           D 47 (.fa 1 (T 12)),
           D 48 (.ld1 (T 47)),
           D 49 (.bin .lss (T 46) (T 48))]) (
         .cond (T 49) (
          .skip) (
          .exit 2))) (
        .trim [7, 10, 12, 13, 14, 15, 16, 30, 31, 32] (
         .block 3 (
          .cut [7, 10, 12, 13, 14, 15, 16, 30, 31, 32] (
           .seq (
            .ops [D 52 (.mv (T 14)),
             D 53 (.bin .eql (T 52) (I 16))]) (
           .cond (T 53) (
            .seq (
             .ops [D 54 (.mv (T 13)),
              D 55 (.bin .add (T 54) (I 1)),
              D 13 (.mv (T 55))]) (
            .ops [D 56 (.fa 0 (T 10)),
             D 57 (.ld1 (T 56)),
             D 58 (.mv (T 13)),
             D 59 (.callv (T 57) [(T 58)]),
             D 14 (.mv (I 0)),
             E (.st 16 (T 15) (T 59))])) (
            .skip))) (
          .trim [7, 10, 12, 13, 14, 15, 16, 30, 31, 32] (
           .draw [⟨0, 0, 0, D 60 (.mv (T 7))⟩,
            ⟨1, 0, 0, D 61 (.mv (T 16))⟩,
            ⟨2, 0, 3, D 62 (.ia 1 (T 60) (T 61))⟩,
            ⟨3, 1, 7, D 63 (.ld1 (T 62))⟩,
            ⟨4, 0, 0, D 64 (.mv (T 14))⟩,
            ⟨5, 0, 16, D 65 (.iaa 16 1 (T 15) (T 64))⟩,
            ⟨6, 1, 48, D 66 (.ld1 (T 65))⟩,
            ⟨7, 0, 127, D 67 (.bin .xor (T 63) (T 66))⟩,
            ⟨8, 0, 255, D 68 (.ia 1 (T 60) (T 61))⟩,
            ⟨9, 4, 511, E (.st 1 (T 68) (T 67))⟩]) (
          .ops [D 69 (.mv (T 14)),
           D 70 (.bin .add (T 69) (I 1)),
           D 14 (.mv (T 70))])))) (
        .ops [D 50 (.mv (T 16)),
         D 51 (.bin .add (T 50) (I 1)),
         D 16 (.mv (T 51))])))))))))) (
    .ops [D 71 (.bin .add (T 32) (I 1)),
     D 32 (.mv (T 71))]))))))) (
 .seq (
  .ops [D 72 (.mv (T 7)),
   D 6 (.mv (T 72))]) (
 .ret))))))⟩
theorem crypt_apply_ok : Ok Try.prog 38 crypt_apply := ⟨by kernel_rfl, by kernel_rfl⟩

/-- diorama/dioramaref21.usable -/
def dioramaref21_usable : AF := ⟨22, [.tmp 4],
 .seq (
  .ops [D 4 (.mv (.const (.bool false)))]) (
 .trim [4] (
  .ops [D 5 (.mv (T 1)),
   D 6 (.bin .geq (T 5) (I 1)),
   D 7 (.mv (T 6)),
   ⟨(some 8), some (7, true), .mv (T 1)⟩,
   ⟨(some 9), some (7, true), .mv (T 0)⟩,
   ⟨(some 10), some (7, true), .len (T 9)⟩,
   ⟨(some 11), some (7, true), .bin .leq (T 8) (T 10)⟩,
   D 12 (.pick (T 7) (T 11) (.const (.bool false))),
   D 13 (.mv (T 12)),
   ⟨(some 14), some (13, true), .mv (T 0)⟩,
   ⟨(some 15), some (13, true), .mv (T 1)⟩,
   ⟨(some 16), some (13, true), .bin .sub (T 15) (I 1)⟩,
   ⟨(some 17), some (13, true), .ia 1 (T 14) (T 16)⟩,
   ⟨(some 18), some (13, true), .ld1 (T 17)⟩,
   ⟨(some 19), some (13, true), .len (T 18)⟩,
   ⟨(some 20), some (13, true), .bin .eql (T 19) (I 16)⟩,
   D 21 (.pick (T 13) (T 20) (.const (.bool false))),
   D 4 (.mv (T 21))]) (
 .ret))⟩
theorem dioramaref21_usable_ok : Ok Try.prog 39 dioramaref21_usable := ⟨by kernel_rfl, by kernel_rfl⟩

/-- diorama/dioramaref21.protect -/
def dioramaref21_protect : AF := ⟨75, [.tmp 8],
 .seq (
  .ops [D 5 (.box (T 1)),
   D 8 (.mv (.const (.slice none 0 0)))]) (
 .seq (
  .ops [D 14 (.mv (T 0)),
   D 15 (.call 24 [(T 14)]),
   D 9 (.mv (T 15))]) (
 .seq (
  .ops [D 16 (.mv (T 3)),
   D 17 (.fa 0 (T 5)),
   D 18 (.ld1 (T 17)),
   D 19 (.call 39 [(T 16), (T 18)]),
   D 10 (.mv (T 19))]) (
 .seq (
  .ops [D 11 (.mv (.const (.slice none 0 0)))]) (
 .seq (
  .ops [D 12 (.mv (I (-1)))]) (
 .trim [9] (
  .seq (
   .ops [D 13 (.mv (I 0))]) (
  .block 0 (
   .loop [0, 2, 3, 5, 9, 10, 11, 12, 13] (
    .seq (
     .seq (
      .ops [D 20 (.mv (T 13)),
       D 21 (.mv (T 0)),
       D 22 (.len (T 21)),
       D 23 (.bin .lss (T 20) (T 22))]) (
     .cond (T 23) (
      .skip) (
      .exit 0))) (
    .trim [0, 2, 3, 5, 9, 10, 11, 12, 13] (
     .block 1 (
      .trim [0, 2, 3, 5, 9, 10, 11, 12, 13] (
       .seq (
        .ops [D 26 (.mv (T 2)),
         D 27 (.mv (T 13)),
         D 28 (.ia 1 (T 26) (T 27)),
         D 29 (.ld1 (T 28)),
         D 30 (.bin .lss (T 29) (I 0))]) (
       .cond (T 30) (
        .exit 1) (
        .skip))) (
      .trim [0, 2, 3, 5, 9, 10, 11, 12, 13] (
       .seq (
        .ops [D 31 (.mv (T 10)),
         D 32 (.un .not (T 31))]) (
       .cond (T 32) (
        .seq (
         .ops [D 33 (.mv (T 9)),
          D 34 (.mv (T 13)),
          D 35 (.ia 1 (T 33) (T 34)),
          E (.st 1 (T 35) (.const (.int .u8 0)))]) (
        .exit 1)) (
        .skip))) (
      .cut [0, 2, 3, 5, 9, 10, 11, 12, 13] (
       .trim [0, 2, 3, 5, 9, 10, 11, 12, 13, 42] (
        .ops [D 36 (.mv (T 2)),
         D 37 (.mv (T 13)),
         D 38 (.ia 1 (T 36) (T 37)),
         D 39 (.ld1 (T 38)),
         D 40 (.bin .quo (T 39) (I 16)),
         D 41 (.mv (T 12)),
         D 42 (.bin .neq (T 40) (T 41))]) (
       .cond (T 42) (
        .trim [0, 2, 3, 5, 9, 10, 12, 13] (
         .ops [D 43 (.mv (T 2)),
          D 44 (.mv (T 13)),
          D 45 (.ia 1 (T 43) (T 44)),
          D 46 (.ld1 (T 45)),
          D 47 (.bin .quo (T 46) (I 16)),
          D 12 (.mv (T 47))]) (
        .draw [⟨0, 0, 0, D 48 (.mv (T 3))⟩,
         ⟨1, 0, 0, D 49 (.fa 0 (T 5))⟩,
         ⟨2, 1, 2, D 50 (.ld1 (T 49))⟩,
         ⟨3, 0, 6, D 51 (.bin .sub (T 50) (I 1))⟩,
         ⟨4, 0, 15, D 52 (.ia 1 (T 48) (T 51))⟩,
         ⟨5, 1, 31, D 53 (.ld1 (T 52))⟩,
         ⟨6, 0, 0, D 54 (.fa 1 (T 5))⟩,
         ⟨7, 1, 64, D 55 (.ld1 (T 54))⟩,
         ⟨8, 0, 0, D 56 (.mv (T 12))⟩,
         ⟨9, 4, 511, D 57 (.call 30 [(T 53), (T 55), (T 56)])⟩,
         ⟨10, 0, 1023, D 11 (.mv (T 57))⟩])) (
        .skip))) (
      .draw [⟨0, 0, 0, D 58 (.mv (T 9))⟩,
       ⟨1, 0, 0, D 59 (.mv (T 13))⟩,
       ⟨2, 0, 0, D 60 (.mv (T 0))⟩,
       ⟨3, 0, 0, D 61 (.mv (T 13))⟩,
       ⟨4, 0, 12, D 62 (.ia 1 (T 60) (T 61))⟩,
       ⟨5, 1, 28, D 63 (.ld1 (T 62))⟩,
       ⟨6, 0, 0, D 64 (.mv (T 11))⟩,
       ⟨7, 0, 0, D 65 (.mv (T 2))⟩,
       ⟨8, 0, 0, D 66 (.mv (T 13))⟩,
       ⟨9, 0, 384, D 67 (.ia 1 (T 65) (T 66))⟩,
       ⟨10, 1, 896, D 68 (.ld1 (T 67))⟩,
       ⟨11, 0, 1920, D 69 (.bin .rem (T 68) (I 16))⟩,
       ⟨12, 0, 4032, D 70 (.ia 1 (T 64) (T 69))⟩,
       ⟨13, 1, 8128, D 71 (.ld1 (T 70))⟩,
       ⟨14, 0, 16380, D 72 (.bin .xor (T 63) (T 71))⟩,
       ⟨15, 0, 32767, D 73 (.ia 1 (T 58) (T 59))⟩,
       ⟨16, 4, 65535, E (.st 1 (T 73) (T 72))⟩]))))) (
    .ops [D 24 (.mv (T 13)),
     D 25 (.bin .add (T 24) (I 1)),
     D 13 (.mv (T 25))])))))) (
 .seq (
  .ops [D 74 (.mv (T 9)),
   D 8 (.mv (T 74))]) (
 .ret)))))))⟩
theorem dioramaref21_protect_ok : Ok Try.prog 40 dioramaref21_protect := ⟨by kernel_rfl, by kernel_rfl⟩

/-- diorama/crypt.planned -/
def crypt_planned : AF := ⟨37, [.tmp 2],
 .seq (
  .ops [D 1 (.box (T 0)),
   D 2 (.mv (.const (.bool false)))]) (
 .seq (
  .ops [D 3 (.mv (.func 58))]) (
 .trim [2] (
  .ops [D 4 (.fa 0 (T 1)),
   D 5 (.ld1 (T 4)),
   D 6 (.len (T 5)),
   D 7 (.call 27 [(T 6), (I 1), (I 20)]),
   D 8 (.mv (T 7)),
   ⟨(some 9), some (8, true), .fa 0 (T 1)⟩,
   ⟨(some 10), some (8, true), .ld1 (T 9)⟩,
   ⟨(some 11), some (8, true), .mv (T 3)⟩,
   ⟨(some 12), some (8, true), .call 59 [(T 10), (T 11)]⟩,
   ⟨(some 13), some (8, true), .un .not (T 12)⟩,
   D 14 (.pick (T 8) (T 13) (.const (.bool false))),
   D 15 (.mv (T 14)),
   ⟨(some 16), some (15, true), .fa 1 (T 1)⟩,
   ⟨(some 17), some (15, true), .ld1 (T 16)⟩,
   ⟨(some 18), some (15, true), .call 27 [(T 17), (I 1), (I 1000)]⟩,
   D 19 (.pick (T 15) (T 18) (.const (.bool false))),
   D 20 (.mv (T 19)),
   ⟨(some 21), some (20, true), .fa 2 (T 1)⟩,
   ⟨(some 22), some (20, true), .ld1 (T 21)⟩,
   ⟨(some 23), some (20, true), .call 27 [(T 22), (I 0), (I 549755813888)]⟩,
   D 24 (.pick (T 20) (T 23) (.const (.bool false))),
   D 25 (.mv (T 24)),
   ⟨(some 26), some (25, true), .fa 3 (T 1)⟩,
   ⟨(some 27), some (25, true), .ld1 (T 26)⟩,
   ⟨(some 28), some (25, true), .fa 4 (T 1)⟩,
   ⟨(some 29), some (25, true), .ld1 (T 28)⟩,
   ⟨(some 30), some (25, true), .call 34 [(T 27), (T 29)]⟩,
   D 31 (.pick (T 25) (T 30) (.const (.bool false))),
   D 32 (.mv (T 31)),
   ⟨(some 33), some (32, true), .fa 5 (T 1)⟩,
   ⟨(some 34), some (32, true), .ld1 (T 33)⟩,
   ⟨(some 35), some (32, true), .call 27 [(T 34), (I 0), (I 65536)]⟩,
   D 36 (.pick (T 32) (T 35) (.const (.bool false))),
   D 2 (.mv (T 36))]) (
 .ret)))⟩
theorem crypt_planned_ok : Ok Try.prog 41 crypt_planned := ⟨by kernel_rfl, by kernel_rfl⟩

/-- diorama/dioramaref00.CopyInts -/
def dioramaref00_CopyInts : AF := ⟨22, [.tmp 2],
 .seq (
  .ops [D 2 (.mv (.const (.slice none 0 0)))]) (
 .seq (
  .ops [D 5 (.mv (T 0)),
   D 6 (.len (T 5)),
   D 7 (.mks [(.int .i64 0)] 8 (I 0) (T 6)),
   D 3 (.mv (T 7))]) (
 .trim [3] (
  .seq (
   .ops [D 4 (.mv (I 0))]) (
  .block 0 (
   .loop [0, 3, 4] (
    .seq (
     .seq (
      .ops [D 8 (.mv (T 4)),
       D 9 (.mv (T 0)),
       D 10 (.len (T 9)),
       D 11 (.bin .lss (T 8) (T 10))]) (
     .cond (T 11) (
      .skip) (
      .exit 0))) (
    .trim [0, 3, 4] (
     .block 1 (
      .ops [D 14 (.mv (T 3)),
       D 15 (.mv (T 0)),
       D 16 (.mv (T 4)),
       D 17 (.ia 1 (T 15) (T 16)),
       D 18 (.ld1 (T 17)),
       D 19 (.bslice [(.int .i64 0)] 1 [(0, 1, (T 18))]),
       D 20 (.app 1 8 (T 14) (T 19)),
       D 3 (.mv (T 20))])) (
    .ops [D 12 (.mv (T 4)),
     D 13 (.bin .add (T 12) (I 1)),
     D 4 (.mv (T 13))])))))) (
 .seq (
  .ops [D 21 (.mv (T 3)),
   D 2 (.mv (T 21))]) (
 .ret))))⟩
theorem dioramaref00_CopyInts_ok : Ok Try.prog 42 dioramaref00_CopyInts := ⟨by kernel_rfl, by kernel_rfl⟩

/-- diorama/crypt.number -/
def crypt_number : AF := ⟨18, [.tmp 6],
 .seq (
  .ops [D 6 (.mv (.const (.slice none 0 0)))]) (
 .trim [0, 7] (
  .ops [D 10 (.mv (T 1)),
   D 11 (.mv (T 2)),
   D 12 (.call 60 [(T 10), (T 11)]),
   D 9 (.mv (T 12)),
   D 13 (.ext (T 9) 0),
   D 14 (.ext (T 9) 1),
   D 7 (.mv (T 13)),
   D 8 (.mv (T 14))]) (
 .seq (
  .ops [D 15 (.mv (T 0)),
   D 16 (.mv (T 7)),
   D 17 (.app 1 1 (T 15) (T 16)),
   D 6 (.mv (T 17))]) (
 .ret)))⟩
theorem crypt_number_ok : Ok Try.prog 43 crypt_number := ⟨by kernel_rfl, by kernel_rfl⟩

/-- diorama/dioramaref01.Bytes -/
def dioramaref01_Bytes : AF := ⟨24, [.tmp 4],
 .seq (
  .ops [D 4 (.mv (.const (.slice none 0 0)))]) (
 .seq (
  .ops [D 7 (.mv (T 1)),
   D 8 (.mks [(.int .u8 0)] 1 (T 7) (T 7)),
   D 5 (.mv (T 8))]) (
 .trim [5] (
  .seq (
   .ops [D 9 (.mv (T 1)),
    D 10 (.bin .sub (T 9) (I 1)),
    D 6 (.mv (T 10))]) (
  .block 0 (
   .loop [0, 5, 6] (
    .seq (
     .seq (
      .ops [D 11 (.mv (T 6)),
       D 12 (.bin .geq (T 11) (I 0))]) (
     .cond (T 12) (
      .skip) (
      .exit 0))) (
    .trim [0, 5, 6] (
     .block 1 (
      .trim [0, 5, 6] (
       .ops [D 15 (.mv (T 5)),
        D 16 (.mv (T 6)),
        D 17 (.mv (T 0)),
        D 18 (.bin .rem (T 17) (I 256)),
        D 19 (.cvi .u8 (T 18)),
        D 20 (.ia 1 (T 15) (T 16)),
        E (.st 1 (T 20) (T 19))]) (
      .ops [D 21 (.mv (T 0)),
       D 22 (.bin .quo (T 21) (I 256)),
       D 0 (.mv (T 22))]))) (
    .ops [D 13 (.mv (T 6)),
     D 14 (.bin .sub (T 13) (I 1)),
     D 6 (.mv (T 14))])))))) (
 .seq (
  .ops [D 23 (.mv (T 5)),
   D 4 (.mv (T 23))]) (
 .ret))))⟩
theorem dioramaref01_Bytes_ok : Ok Try.prog 44 dioramaref01_Bytes := ⟨by kernel_rfl, by kernel_rfl⟩

/-- diorama/bits.Int -/
def bits_Int : AF := ⟨54, [.tmp 6, .tmp 7],
 .seq (
  .ops [D 6 (.mv (I 0)),
   D 7 (.mv (I 0))]) (
 .trim [0, 1, 2] (
  .trim [0, 1, 2, 20] (
   .ops [D 11 (.mv (T 2)),
    D 12 (.bin .lss (T 11) (I 1)),
    D 13 (.mv (T 12)),
    ⟨(some 14), some (13, false), .mv (T 2)⟩,
    ⟨(some 15), some (13, false), .bin .gtr (T 14) (I 8)⟩,
    D 16 (.pick (T 13) (.const (.bool true)) (T 15)),
    D 17 (.mv (T 16)),
    ⟨(some 18), some (17, false), .mv (T 1)⟩,
    ⟨(some 19), some (17, false), .bin .lss (T 18) (I 0)⟩,
    D 20 (.pick (T 17) (.const (.bool true)) (T 19))]) (
  .cond (T 20) (
   .seq (
    .ops [D 6 (.mv (I 0)),
     D 7 (.mv (I 1))]) (
   .ret)) (
   .skip))) (
 .trim [0, 1, 2] (
  .trim [0, 1, 2, 32] (
   .ops [D 21 (.mv (T 1)),
    D 22 (.mv (T 0)),
    D 23 (.len (T 22)),
    D 24 (.bin .gtr (T 21) (T 23)),
    D 25 (.mv (T 24)),
    ⟨(some 26), some (25, false), .mv (T 0)⟩,
    ⟨(some 27), some (25, false), .len (T 26)⟩,
    ⟨(some 28), some (25, false), .mv (T 1)⟩,
    ⟨(some 29), some (25, false), .bin .sub (T 27) (T 28)⟩,
    ⟨(some 30), some (25, false), .mv (T 2)⟩,
    ⟨(some 31), some (25, false), .bin .lss (T 29) (T 30)⟩,
    D 32 (.pick (T 25) (.const (.bool true)) (T 31))]) (
  .cond (T 32) (
   .seq (
    .ops [D 6 (.mv (I 0)),
     D 7 (.mv (I 3))]) (
   .ret)) (
   .skip))) (
 .seq (
  .ops [D 8 (.mv (.const (.int .u64 0)))]) (
 .trim [8] (
  .trim [8, 38, 39, 40] (
   .ops [D 33 (.mv (T 0)),
    D 34 (.mv (T 1)),
    D 35 (.mv (T 1)),
    D 36 (.mv (T 2)),
    D 37 (.bin .add (T 35) (T 36)),
    D 38 (.slc 1 (T 33) (some (T 34)) (some (T 37)) none),
    D 39 (.len (T 38)),
    D 40 (.mv (I 0))]) (
  .block 0 (
   .loop [8, 38, 39, 40] (
    .seq (
     .ops [D 41 (.bin .lss (T 40) (T 39))]) (
    .seq (
     .cond (T 41) (
      .skip) (
      .exit 0)) (
    .trim [8, 38, 39, 40] (
     .block 1 (
      .seq (
       .ops [D 42 (.ia 1 (T 38) (T 40)),
        D 43 (.ld1 (T 42)),
        D 10 (.mv (T 43))]) (
      .ops [D 44 (.mv (T 8)),
       D 45 (.shlc (T 44) 8),
       D 46 (.mv (T 10)),
       D 47 (.cvi .u64 (T 46)),
       D 48 (.bin .or (T 45) (T 47)),
       D 8 (.mv (T 48))]))) (
    .ops [D 49 (.bin .add (T 40) (I 1)),
     D 40 (.mv (T 49))]))))))) (
 .seq (
  .seq (
   .ops [D 50 (.mv (T 8)),
    D 51 (.bin .gtr (T 50) (.const (.int .u64 9223372036854775807)))]) (
  .cond (T 51) (
   .seq (
    .ops [D 6 (.mv (I 0)),
     D 7 (.mv (I 1))]) (
   .ret)) (
   .skip))) (
 .seq (
  .ops [D 52 (.mv (T 8)),
   D 53 (.cvi .i64 (T 52)),
   D 6 (.mv (T 53)),
   D 7 (.mv (I 0))]) (
 .ret)))))))⟩
theorem bits_Int_ok : Ok Try.prog 45 bits_Int := ⟨by kernel_rfl, by kernel_rfl⟩

/-- diorama/dioramaref01.Int -/
def dioramaref01_Int : AF := ⟨51, [.tmp 6, .tmp 7],
 .seq (
  .ops [D 6 (.mv (I 0)),
   D 7 (.mv (I 0))]) (
 .trim [0, 1, 2] (
  .trim [0, 1, 2, 19] (
   .ops [D 10 (.mv (T 2)),
    D 11 (.bin .lss (T 10) (I 1)),
    D 12 (.mv (T 11)),
    ⟨(some 13), some (12, false), .mv (T 2)⟩,
    ⟨(some 14), some (12, false), .bin .gtr (T 13) (I 8)⟩,
    D 15 (.pick (T 12) (.const (.bool true)) (T 14)),
    D 16 (.mv (T 15)),
    ⟨(some 17), some (16, false), .mv (T 1)⟩,
    ⟨(some 18), some (16, false), .bin .lss (T 17) (I 0)⟩,
    D 19 (.pick (T 16) (.const (.bool true)) (T 18))]) (
  .cond (T 19) (
   .seq (
    .ops [D 6 (.mv (I 0)),
     D 7 (.mv (I 1))]) (
   .ret)) (
   .skip))) (
 .trim [0, 1, 2] (
  .trim [0, 1, 2, 25] (
   .ops [D 20 (.mv (T 1)),
    D 21 (.mv (T 0)),
    D 22 (.len (T 21)),
    D 23 (.mv (T 2)),
    D 24 (.bin .sub (T 22) (T 23)),
    D 25 (.bin .gtr (T 20) (T 24))]) (
  .cond (T 25) (
   .seq (
    .ops [D 6 (.mv (I 0)),
     D 7 (.mv (I 3))]) (
   .ret)) (
   .skip))) (
 .trim [0, 1, 2] (
  .trim [0, 1, 2, 34] (
   .ops [D 26 (.mv (T 2)),
    D 27 (.bin .eql (T 26) (I 8)),
    D 28 (.mv (T 27)),
    ⟨(some 29), some (28, true), .mv (T 0)⟩,
    ⟨(some 30), some (28, true), .mv (T 1)⟩,
    ⟨(some 31), some (28, true), .ia 1 (T 29) (T 30)⟩,
    ⟨(some 32), some (28, true), .ld1 (T 31)⟩,
    ⟨(some 33), some (28, true), .bin .geq (T 32) (.const (.int .u8 128))⟩,
    D 34 (.pick (T 28) (T 33) (.const (.bool false)))]) (
  .cond (T 34) (
   .seq (
    .ops [D 6 (.mv (I 0)),
     D 7 (.mv (I 1))]) (
   .ret)) (
   .skip))) (
 .seq (
  .ops [D 8 (.mv (I 0))]) (
 .trim [8] (
  .seq (
   .ops [D 9 (.mv (I 0))]) (
  .block 0 (
   .loop [0, 1, 2, 8, 9] (
    .seq (
     .seq (
      .ops [D 35 (.mv (T 9)),
       D 36 (.mv (T 2)),
       D 37 (.bin .lss (T 35) (T 36))]) (
     .cond (T 37) (
      .skip) (
      .exit 0))) (
    .trim [0, 1, 2, 8, 9] (
     .block 1 (
      .ops [D 40 (.mv (T 8)),
       D 41 (.bin .mul (T 40) (I 256)),
       D 42 (.mv (T 0)),
       D 43 (.mv (T 1)),
       D 44 (.mv (T 9)),
       D 45 (.bin .add (T 43) (T 44)),
       D 46 (.ia 1 (T 42) (T 45)),
       D 47 (.ld1 (T 46)),
       D 48 (.cvi .i64 (T 47)),
       D 49 (.bin .add (T 41) (T 48)),
       D 8 (.mv (T 49))])) (
    .ops [D 38 (.mv (T 9)),
     D 39 (.bin .add (T 38) (I 1)),
     D 9 (.mv (T 39))])))))) (
 .seq (
  .ops [D 50 (.mv (T 8)),
   D 6 (.mv (T 50)),
   D 7 (.mv (I 0))]) (
 .ret)))))))⟩
theorem dioramaref01_Int_ok : Ok Try.prog 46 dioramaref01_Int := ⟨by kernel_rfl, by kernel_rfl⟩

/-- diorama/crypt.word -/
def crypt_word : AF := ⟨19, [.tmp 2],
 .seq (
  .ops [D 2 (.mv (.const (.int .u64 0)))]) (
 .seq (
  .ops [D 3 (.mv (.const (.int .u64 0)))]) (
 .trim [3] (
  .seq (
   .ops [D 6 (.mv (T 0)),
    D 7 (.len (T 6)),
    D 8 (.mv (I 0))]) (
  .block 0 (
   .loop [3, 6, 7, 8] (
    .seq (
     .ops [D 9 (.bin .lss (T 8) (T 7))]) (
    .seq (
     .cond (T 9) (
      .skip) (
      .exit 0)) (
    .trim [3, 6, 7, 8] (
     .block 1 (
      .seq (
       .ops [D 10 (.ia 1 (T 6) (T 8)),
        D 11 (.ld1 (T 10)),
        D 5 (.mv (T 11))]) (
      .ops [D 12 (.mv (T 3)),
       D 13 (.shlc (T 12) 8),
       D 14 (.mv (T 5)),
       D 15 (.cvi .u64 (T 14)),
       D 16 (.bin .or (T 13) (T 15)),
       D 3 (.mv (T 16))]))) (
    .ops [D 17 (.bin .add (T 8) (I 1)),
     D 8 (.mv (T 17))]))))))) (
 .seq (
  .ops [D 18 (.mv (T 3)),
   D 2 (.mv (T 18))]) (
 .ret))))⟩
theorem crypt_word_ok : Ok Try.prog 47 crypt_word := ⟨by kernel_rfl, by kernel_rfl⟩

/-- diorama/crypt.newCipher$1 -/
def crypt_newCipher_1 : AF := ⟨34, [.cellN 16 5],
 .seq (
  .ops [D 5 (.alloc (List.replicate 16 (.int .u8 0)))]) (
 .trim [0, 3, 5, 6] (
  .ops [D 9 (.ld1 (T 1)),
   D 10 (.ld1 (T 2)),
   D 11 (.cvi .u64 (T 10)),
   D 12 (.bin .mul (T 11) (.const (.int .u64 11400714819323198485))),
   D 13 (.bin .add (T 9) (T 12)),
   D 14 (.mv (T 0)),
   D 15 (.cvi .u64 (T 14)),
   D 16 (.bin .add (T 13) (T 15)),
   D 17 (.call 49 [(T 16)]),
   D 6 (.mv (T 17))]) (
 .trim [5, 6, 7] (
  .ops [D 18 (.ld1 (T 3)),
   D 19 (.mv (T 6)),
   D 20 (.bin .add (T 18) (T 19)),
   D 21 (.mv (T 0)),
   D 22 (.cvi .u64 (T 21)),
   D 23 (.bin .mul (T 22) (.const (.int .u64 2))),
   D 24 (.bin .add (T 20) (T 23)),
   D 25 (.bin .add (T 24) (.const (.int .u64 1))),
   D 26 (.call 49 [(T 25)]),
   D 7 (.mv (T 26))]) (
 .seq (
  .ops [D 8 (.alloc (List.replicate 16 (.int .u8 0)))]) (
 .seq (
  .ops [D 27 (.slca 16 1 (T 8) none (some (I 8)) none),
   D 28 (.mv (T 6)),
   D 29 (.call 50 [(T 27), (T 28)])]) (
 .seq (
  .ops [D 30 (.slca 16 1 (T 8) (some (I 8)) none none),
   D 31 (.mv (T 7)),
   D 32 (.call 50 [(T 30), (T 31)])]) (
 .seq (
  .ops [D 33 (.ldN 16 (T 8)),
   E (.st 16 (T 5) (T 33))]) (
 .ret)))))))⟩
theorem crypt_newCipher_1_ok : Ok Try.prog 48 crypt_newCipher_1 := ⟨by kernel_rfl, by kernel_rfl⟩

/-- diorama/crypt.mix -/
def crypt_mix : AF := ⟨17, [.tmp 2],
 .seq (
  .ops [D 2 (.mv (.const (.int .u64 0)))]) (
 .trim [0] (
  .ops [D 3 (.mv (T 0)),
   D 4 (.mv (T 0)),
   D 5 (.shrc (T 4) 30),
   D 6 (.bin .xor (T 3) (T 5)),
   D 7 (.bin .mul (T 6) (.const (.int .u64 13054099467106833845))),
   D 0 (.mv (T 7))]) (
 .trim [0] (
  .ops [D 8 (.mv (T 0)),
   D 9 (.mv (T 0)),
   D 10 (.shrc (T 9) 27),
   D 11 (.bin .xor (T 8) (T 10)),
   D 12 (.bin .mul (T 11) (.const (.int .u64 7557917192852333225))),
   D 0 (.mv (T 12))]) (
 .seq (
  .ops [D 13 (.mv (T 0)),
   D 14 (.mv (T 0)),
   D 15 (.shrc (T 14) 31),
   D 16 (.bin .xor (T 13) (T 15)),
   D 2 (.mv (T 16))]) (
 .ret))))⟩
theorem crypt_mix_ok : Ok Try.prog 49 crypt_mix := ⟨by kernel_rfl, by kernel_rfl⟩

/-- diorama/crypt.put -/
def crypt_put : AF := ⟨16, [],
 .seq (
  .ops [D 4 (.mv (I 7))]) (
 .block 0 (
  .loop [0, 1, 4] (
   .seq (
    .seq (
     .ops [D 5 (.mv (T 4)),
      D 6 (.bin .geq (T 5) (I 0))]) (
    .cond (T 6) (
     .skip) (
     .exit 0))) (
   .trim [0, 1, 4] (
    .block 1 (
     .trim [0, 1, 4] (
      .ops [D 9 (.mv (T 0)),
       D 10 (.mv (T 4)),
       D 11 (.mv (T 1)),
       D 12 (.cvi .u8 (T 11)),
       D 13 (.ia 1 (T 9) (T 10)),
       E (.st 1 (T 13) (T 12))]) (
     .ops [D 14 (.mv (T 1)),
      D 15 (.shrc (T 14) 8),
      D 1 (.mv (T 15))]))) (
   .ops [D 7 (.mv (T 4)),
    D 8 (.bin .sub (T 7) (I 1)),
    D 4 (.mv (T 8))])))))⟩
theorem crypt_put_ok : Ok Try.prog 50 crypt_put := ⟨by kernel_rfl, by kernel_rfl⟩

/-- diorama/dioramaref21.mix -/
def dioramaref21_mix : AF := ⟨17, [.tmp 2],
 .seq (
  .ops [D 2 (.mv (.const (.int .u64 0)))]) (
 .trim [0] (
  .ops [D 3 (.mv (T 0)),
   D 4 (.mv (T 0)),
   D 5 (.shrc (T 4) 30),
   D 6 (.bin .xor (T 3) (T 5)),
   D 7 (.bin .mul (T 6) (.const (.int .u64 13054099467106833845))),
   D 0 (.mv (T 7))]) (
 .trim [0] (
  .ops [D 8 (.mv (T 0)),
   D 9 (.mv (T 0)),
   D 10 (.shrc (T 9) 27),
   D 11 (.bin .xor (T 8) (T 10)),
   D 12 (.bin .mul (T 11) (.const (.int .u64 7557917192852333225))),
   D 0 (.mv (T 12))]) (
 .seq (
  .ops [D 13 (.mv (T 0)),
   D 14 (.mv (T 0)),
   D 15 (.shrc (T 14) 31),
   D 16 (.bin .xor (T 13) (T 15)),
   D 2 (.mv (T 16))]) (
 .ret))))⟩
theorem dioramaref21_mix_ok : Ok Try.prog 51 dioramaref21_mix := ⟨by kernel_rfl, by kernel_rfl⟩

/-- diorama/dioramaref21.word -/
def dioramaref21_word : AF := ⟨18, [.tmp 2],
 .seq (
  .ops [D 2 (.mv (.const (.int .u64 0)))]) (
 .seq (
  .ops [D 3 (.mv (.const (.int .u64 0)))]) (
 .trim [3] (
  .seq (
   .ops [D 4 (.mv (I 0))]) (
  .block 0 (
   .loop [0, 3, 4] (
    .seq (
     .seq (
      .ops [D 5 (.mv (T 4)),
       D 6 (.bin .lss (T 5) (I 8))]) (
     .cond (T 6) (
      .skip) (
      .exit 0))) (
    .trim [0, 3, 4] (
     .block 1 (
      .ops [D 9 (.mv (T 3)),
       D 10 (.bin .mul (T 9) (.const (.int .u64 256))),
       D 11 (.mv (T 0)),
       D 12 (.mv (T 4)),
       D 13 (.ia 1 (T 11) (T 12)),
       D 14 (.ld1 (T 13)),
       D 15 (.cvi .u64 (T 14)),
       D 16 (.bin .add (T 10) (T 15)),
       D 3 (.mv (T 16))])) (
    .ops [D 7 (.mv (T 4)),
     D 8 (.bin .add (T 7) (I 1)),
     D 4 (.mv (T 8))])))))) (
 .seq (
  .ops [D 17 (.mv (T 3)),
   D 2 (.mv (T 17))]) (
 .ret))))⟩
theorem dioramaref21_word_ok : Ok Try.prog 52 dioramaref21_word := ⟨by kernel_rfl, by kernel_rfl⟩

/-- diorama/dioramaref21.bytes -/
def dioramaref21_bytes : AF := ⟨18, [.tmp 2],
 .seq (
  .ops [D 2 (.mv (.const (.slice none 0 0)))]) (
 .seq (
  .ops [D 5 (.mks [(.int .u8 0)] 1 (I 8) (I 8)),
   D 3 (.mv (T 5))]) (
 .trim [3] (
  .seq (
   .ops [D 4 (.mv (I 7))]) (
  .block 0 (
   .loop [0, 3, 4] (
    .seq (
     .seq (
      .ops [D 6 (.mv (T 4)),
       D 7 (.bin .geq (T 6) (I 0))]) (
     .cond (T 7) (
      .skip) (
      .exit 0))) (
    .trim [0, 3, 4] (
     .block 1 (
      .trim [0, 3, 4] (
       .ops [D 10 (.mv (T 3)),
        D 11 (.mv (T 4)),
        D 12 (.mv (T 0)),
        D 13 (.cvi .u8 (T 12)),
        D 14 (.ia 1 (T 10) (T 11)),
        E (.st 1 (T 14) (T 13))]) (
      .ops [D 15 (.mv (T 0)),
       D 16 (.bin .quo (T 15) (.const (.int .u64 256))),
       D 0 (.mv (T 16))]))) (
    .ops [D 8 (.mv (T 4)),
     D 9 (.bin .sub (T 8) (I 1)),
     D 4 (.mv (T 9))])))))) (
 .seq (
  .ops [D 17 (.mv (T 3)),
   D 2 (.mv (T 17))]) (
 .ret))))⟩
theorem dioramaref21_bytes_ok : Ok Try.prog 53 dioramaref21_bytes := ⟨by kernel_rfl, by kernel_rfl⟩

/-- slices.DeleteFunc[[]diorama/crypt.stretch,diorama/crypt.stretch] -/
def slices_DeleteFunc___crypt_stretch_crypt_stretch_ : AF := ⟨42, [.tmp 4],
 .seq (
  .ops [D 4 (.mv (.const (.slice none 0 0)))]) (
 .seq (
  .ops [D 8 (.mv (T 0)),
   D 9 (.mv (T 1)),
   D 10 (.call 61 [(T 8), (T 9)]),
   D 5 (.mv (T 10))]) (
 .seq (
  .seq (
   .ops [D 11 (.mv (T 5)),
    D 12 (.bin .eql (T 11) (I (-1)))]) (
  .cond (T 12) (
   .seq (
    .ops [D 13 (.mv (T 0)),
     D 4 (.mv (T 13))]) (
   .ret)) (
   .skip))) (
 .trim [0, 5] (
  .seq (
   .ops [D 14 (.mv (T 5)),
    D 15 (.bin .add (T 14) (I 1)),
    D 6 (.mv (T 15))]) (
  .block 0 (
   .loop [0, 1, 5, 6] (
    .seq (
     .seq (
      .ops [D 16 (.mv (T 6)),
       D 17 (.mv (T 0)),
       D 18 (.len (T 17)),
       D 19 (.bin .lss (T 16) (T 18))]) (
     .cond (T 19) (
      .skip) (
      .exit 0))) (
    .trim [0, 1, 5, 6] (
     .block 1 (
      .seq (
       .ops [D 22 (.mv (T 0)),
        D 23 (.mv (T 6)),
        D 24 (.ia 4 (T 22) (T 23)),
        D 25 (.ldN 4 (T 24)),
        D 7 (.alloc [(.int .i64 0), (.int .i64 0), (.int .i64 0), (.int .i64 0)]),
        E (.st 4 (T 7) (T 25))]) (
      .seq (
       .ops [D 26 (.mv (T 1)),
        D 27 (.ldN 4 (T 7)),
        D 28 (.callv (T 26) [(T 27)]),
        D 29 (.un .not (T 28))]) (
      .cond (T 29) (
       .seq (
        .ops [D 30 (.mv (T 0)),
         D 31 (.mv (T 5)),
         D 32 (.ldN 4 (T 7)),
         D 33 (.ia 4 (T 30) (T 31)),
         E (.st 4 (T 33) (T 32))]) (
       .ops [D 34 (.mv (T 5)),
        D 35 (.bin .add (T 34) (I 1)),
        D 5 (.mv (T 35))])) (
       .skip))))) (
    .ops [D 20 (.mv (T 6)),
     D 21 (.bin .add (T 20) (I 1)),
     D 6 (.mv (T 21))])))))) (
 .seq (
  .ops [D 36 (.mv (T 0)),
   D 37 (.mv (T 5)),
   D 38 (.slc 4 (T 36) (some (T 37)) none none),
   E (.clr [(.int .i64 0), (.int .i64 0), (.int .i64 0), (.int .i64 0)] (T 38))]) (
 .seq (
  .ops [D 39 (.mv (T 0)),
   D 40 (.mv (T 5)),
   D 41 (.slc 4 (T 39) none (some (T 40)) none),
   D 4 (.mv (T 41))]) (
 .ret))))))⟩
theorem slices_DeleteFunc___crypt_stretch_crypt_stretch__ok : Ok Try.prog 54 slices_DeleteFunc___crypt_stretch_crypt_stretch_ := ⟨by kernel_rfl, by kernel_rfl⟩

/-- diorama/crypt.stretches$1 -/
def crypt_stretches_1 : AF := ⟨8, [.tmp 2],
 .seq (
  .ops [D 1 (.box (T 0)),
   D 2 (.mv (.const (.bool false)))]) (
 .trim [2] (
  .ops [D 3 (.fa 0 (T 1)),
   D 4 (.ld1 (T 3)),
   D 5 (.fa 1 (T 1)),
   D 6 (.ld1 (T 5)),
   D 7 (.bin .eql (T 4) (T 6)),
   D 2 (.mv (T 7))]) (
 .ret))⟩
theorem crypt_stretches_1_ok : Ok Try.prog 55 crypt_stretches_1 := ⟨by kernel_rfl, by kernel_rfl⟩

/-- slices.IndexFunc[[]diorama/api.Part,diorama/api.Part] -/
def slices_IndexFunc___api_Part_api_Part_ : AF := ⟨19, [.tmp 4],
 .seq (
  .ops [D 4 (.mv (I 0))]) (
 .trim [] (
  .seq (
   .ops [D 6 (.mv (T 0)),
    D 7 (.len (T 6)),
    D 8 (.mv (I 0))]) (
  .block 0 (
   .loop [0, 1, 7, 8] (
    .seq (
     .ops [D 9 (.bin .lss (T 8) (T 7))]) (
    .seq (
     .cond (T 9) (
      .skip) (
      .exit 0)) (
    .trim [0, 1, 7, 8] (
     .block 1 (
      .seq (
       .ops [D 10 (.mv (T 8)),
        D 5 (.mv (T 10))]) (
      .trim [0, 1, 5, 7, 8, 16] (
       .ops [D 11 (.mv (T 1)),
        D 12 (.mv (T 0)),
        D 13 (.mv (T 5)),
        D 14 (.ia 2 (T 12) (T 13)),
        D 15 (.ldN 2 (T 14)),
        D 16 (.callv (T 11) [(T 15)])]) (
      .cond (T 16) (
       .seq (
        .ops [D 17 (.mv (T 5)),
         D 4 (.mv (T 17))]) (
       .ret)) (
       .skip))))) (
    .ops [D 18 (.bin .add (T 8) (I 1)),
     D 8 (.mv (T 18))]))))))) (
 .seq (
  .ops [D 4 (.mv (I (-1)))]) (
 .ret)))⟩
theorem slices_IndexFunc___api_Part_api_Part__ok : Ok Try.prog 56 slices_IndexFunc___api_Part_api_Part_ := ⟨by kernel_rfl, by kernel_rfl⟩

/-- slices.Clone[[]byte,byte] -/
def slices_Clone___byte_byte_ : AF := ⟨8, [.tmp 2],
 .seq (
  .ops [D 2 (.mv (.const (.slice none 0 0)))]) (
 .seq (
  .seq (
   .ops [D 3 (.mv (T 0)),
    D 4 (.nileq false 1 (T 3) (.const (.slice none 0 0)))]) (
  .cond (T 4) (
   .seq (
    .ops [D 2 (.mv (.const (.slice none 0 0)))]) (
   .ret)) (
   .skip))) (
 .seq (
  .ops [D 5 (.bslice [] 0 []),
   D 6 (.mv (T 0)),
   D 7 (.app 1 1 (T 5) (T 6)),
   D 2 (.mv (T 7))]) (
 .ret)))⟩
theorem slices_Clone___byte_byte__ok : Ok Try.prog 57 slices_Clone___byte_byte_ := ⟨by kernel_rfl, by kernel_rfl⟩

/-- diorama/crypt.planned$1 -/
def crypt_planned_1 : AF := ⟨6, [.tmp 2],
 .seq (
  .ops [D 2 (.mv (.const (.bool false)))]) (
 .seq (
  .ops [D 3 (.mv (T 0)),
   D 4 (.call 27 [(T 3), (I 0), (I 4)]),
   D 5 (.un .not (T 4)),
   D 2 (.mv (T 5))]) (
 .ret))⟩
theorem crypt_planned_1_ok : Ok Try.prog 58 crypt_planned_1 := ⟨by kernel_rfl, by kernel_rfl⟩

/-- slices.ContainsFunc[[]int,int] -/
def slices_ContainsFunc___int_int_ : AF := ⟨9, [.tmp 4],
 .seq (
  .ops [D 4 (.mv (.const (.bool false)))]) (
 .seq (
  .ops [D 5 (.mv (T 0)),
   D 6 (.mv (T 1)),
   D 7 (.call 62 [(T 5), (T 6)]),
   D 8 (.bin .geq (T 7) (I 0)),
   D 4 (.mv (T 8))]) (
 .ret))⟩
theorem slices_ContainsFunc___int_int__ok : Ok Try.prog 59 slices_ContainsFunc___int_int_ := ⟨by kernel_rfl, by kernel_rfl⟩

/-- diorama/bits.PutInt -/
def bits_PutInt : AF := ⟨31, [.tmp 4, .tmp 5],
 .seq (
  .ops [D 4 (.mv (.const (.slice none 0 0))),
   D 5 (.mv (I 0))]) (
 .trim [0, 1] (
  .trim [0, 1, 26] (
   .ops [D 6 (.mv (T 1)),
    D 7 (.bin .lss (T 6) (I 1)),
    D 8 (.mv (T 7)),
    ⟨(some 9), some (8, false), .mv (T 1)⟩,
    ⟨(some 10), some (8, false), .bin .gtr (T 9) (I 8)⟩,
    D 11 (.pick (T 8) (.const (.bool true)) (T 10)),
    D 12 (.mv (T 11)),
    ⟨(some 13), some (12, false), .mv (T 0)⟩,
    ⟨(some 14), some (12, false), .bin .lss (T 13) (I 0)⟩,
    D 15 (.pick (T 12) (.const (.bool true)) (T 14)),
    D 16 (.mv (T 15)),
    ⟨(some 17), some (16, false), .mv (T 1)⟩,
    ⟨(some 18), some (16, false), .bin .lss (T 17) (I 8)⟩,
    ⟨(some 19), some (16, false), .mv (T 18)⟩,
    ⟨(some 20), some (19, true), .mv (T 0)⟩,
    ⟨(some 21), some (19, true), .mv (T 1)⟩,
    ⟨(some 22), some (19, true), .bin .mul (I 8) (T 21)⟩,
    ⟨(some 23), some (19, true), .bin .shr (T 20) (T 22)⟩,
    ⟨(some 24), some (19, true), .bin .gtr (T 23) (I 0)⟩,
    ⟨(some 25), some (16, false), .pick (T 19) (T 24) (.const (.bool false))⟩,
    D 26 (.pick (T 16) (.const (.bool true)) (T 25))]) (
  .cond (T 26) (
   .seq (
    .ops [D 4 (.mv (.const (.slice none 0 0))),
     D 5 (.mv (I 1))]) (
   .ret)) (
   .skip))) (
 .seq (
  .ops [D 27 (.mv (T 0)),
   D 28 (.cvi .u64 (T 27)),
   D 29 (.mv (T 1)),
   D 30 (.call 63 [(T 28), (T 29)]),
   D 4 (.mv (T 30)),
   D 5 (.mv (I 0))]) (
 .ret)))⟩
theorem bits_PutInt_ok : Ok Try.prog 60 bits_PutInt := ⟨by kernel_rfl, by kernel_rfl⟩

/-- slices.IndexFunc[[]diorama/crypt.stretch,diorama/crypt.stretch] -/
def slices_IndexFunc___crypt_stretch_crypt_stretch_ : AF := ⟨19, [.tmp 4],
 .seq (
  .ops [D 4 (.mv (I 0))]) (
 .trim [] (
  .seq (
   .ops [D 6 (.mv (T 0)),
    D 7 (.len (T 6)),
    D 8 (.mv (I 0))]) (
  .block 0 (
   .loop [0, 1, 7, 8] (
    .seq (
     .ops [D 9 (.bin .lss (T 8) (T 7))]) (
    .seq (
     .cond (T 9) (
      .skip) (
      .exit 0)) (
    .trim [0, 1, 7, 8] (
     .block 1 (
      .seq (
       .ops [D 10 (.mv (T 8)),
        D 5 (.mv (T 10))]) (
      .trim [0, 1, 5, 7, 8, 16] (
       .ops [D 11 (.mv (T 1)),
        D 12 (.mv (T 0)),
        D 13 (.mv (T 5)),
        D 14 (.ia 4 (T 12) (T 13)),
        D 15 (.ldN 4 (T 14)),
        D 16 (.callv (T 11) [(T 15)])]) (
      .cond (T 16) (
       .seq (
        .ops [D 17 (.mv (T 5)),
         D 4 (.mv (T 17))]) (
       .ret)) (
       .skip))))) (
    .ops [D 18 (.bin .add (T 8) (I 1)),
     D 8 (.mv (T 18))]))))))) (
 .seq (
  .ops [D 4 (.mv (I (-1)))]) (
 .ret)))⟩
theorem slices_IndexFunc___crypt_stretch_crypt_stretch__ok : Ok Try.prog 61 slices_IndexFunc___crypt_stretch_crypt_stretch_ := ⟨by kernel_rfl, by kernel_rfl⟩

/-- slices.IndexFunc[[]int,int] -/
def slices_IndexFunc___int_int_ : AF := ⟨19, [.tmp 4],
 .seq (
  .ops [D 4 (.mv (I 0))]) (
 .trim [] (
  .seq (
   .ops [D 6 (.mv (T 0)),
    D 7 (.len (T 6)),
    D 8 (.mv (I 0))]) (
  .block 0 (
   .loop [0, 1, 7, 8] (
    .seq (
     .ops [D 9 (.bin .lss (T 8) (T 7))]) (
    .seq (
     .cond (T 9) (
      .skip) (
      .exit 0)) (
    .trim [0, 1, 7, 8] (
     .block 1 (
      .seq (
       .ops [D 10 (.mv (T 8)),
        D 5 (.mv (T 10))]) (
      .trim [0, 1, 5, 7, 8, 16] (
       .ops [D 11 (.mv (T 1)),
        D 12 (.mv (T 0)),
        D 13 (.mv (T 5)),
        D 14 (.ia 1 (T 12) (T 13)),
        D 15 (.ld1 (T 14)),
        D 16 (.callv (T 11) [(T 15)])]) (
      .cond (T 16) (
       .seq (
        .ops [D 17 (.mv (T 5)),
         D 4 (.mv (T 17))]) (
       .ret)) (
       .skip))))) (
    .ops [D 18 (.bin .add (T 8) (I 1)),
     D 8 (.mv (T 18))]))))))) (
 .seq (
  .ops [D 4 (.mv (I (-1)))]) (
 .ret)))⟩
theorem slices_IndexFunc___int_int__ok : Ok Try.prog 62 slices_IndexFunc___int_int_ := ⟨by kernel_rfl, by kernel_rfl⟩

/-- diorama/bits.big -/
def bits_big : AF := ⟨23, [.tmp 4],
 .seq (
  .ops [D 4 (.mv (.const (.slice none 0 0)))]) (
 .seq (
  .ops [D 7 (.mv (T 1)),
   D 8 (.mks [(.int .u8 0)] 1 (T 7) (T 7)),
   D 5 (.mv (T 8))]) (
 .trim [5] (
  .seq (
   .ops [D 9 (.mv (T 1)),
    D 10 (.bin .sub (T 9) (I 1)),
    D 6 (.mv (T 10))]) (
  .block 0 (
   .loop [0, 5, 6] (
    .seq (
     .seq (
      .ops [D 11 (.mv (T 6)),
       D 12 (.bin .geq (T 11) (I 0))]) (
     .cond (T 12) (
      .skip) (
      .exit 0))) (
    .trim [0, 5, 6] (
     .block 1 (
      .trim [0, 5, 6] (
       .ops [D 15 (.mv (T 5)),
        D 16 (.mv (T 6)),
        D 17 (.mv (T 0)),
        D 18 (.cvi .u8 (T 17)),
        D 19 (.ia 1 (T 15) (T 16)),
        E (.st 1 (T 19) (T 18))]) (
      .ops [D 20 (.mv (T 0)),
       D 21 (.shrc (T 20) 8),
       D 0 (.mv (T 21))]))) (
    .ops [D 13 (.mv (T 6)),
     D 14 (.bin .sub (T 13) (I 1)),
     D 6 (.mv (T 14))])))))) (
 .seq (
  .ops [D 22 (.mv (T 5)),
   D 4 (.mv (T 22))]) (
 .ret))))⟩
theorem bits_big_ok : Ok Try.prog 63 bits_big := ⟨by kernel_rfl, by kernel_rfl⟩

end Go.Proofs.Ytloonniiffbopaa.Af
