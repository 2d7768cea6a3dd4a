/- The functions of the program in the abstract machine's words, printed by a program of ours; each is the program's by the kernel's reckoning.
   Conditions: none. -/
import Derived.Test.YtikbdeobghoglaaAmZ
import Derived.Test.YtikbdeobghoglaaBun2
import Derived.Test.YtikbdeobghoglaaBun5
import Derived.Test.YtikbdeobghoglaaBun4
import Derived.Test.YtikbdeobghoglaaAmZb
import Derived.DataShut
namespace Go.Proofs.Ytikbdeobghoglaa.Af
open Go Go.RowKit Go.Proofs.Ytikbdeobghoglaa.Am
/-- diorama/dioramalaw27.StreamTransfers -/
def dioramalaw27_StreamTransfers : AF := ⟨39, [.tmp 6],
 .seq (
  .ops [D 4 (.box (T 1)),
   D 6 (.mv (.const (.bool false)))]) (
 .seq (
  .seq (
   .ops [D 11 (.mv (T 0)),
    D 12 (.len (T 11)),
    D 13 (.bin .gtr (T 12) (I 120))]) (
  .cond (T 13) (
   .seq (
    .ops [D 6 (.mv (.const (.bool true)))]) (
   .ret)) (
   .skip))) (
 .trim [0, 2, 4, 7, 8] (
  .ops [D 15 (.mv (T 0)),
   D 16 (.ldN 2 (T 4)),
   D 17 (.mv (T 2)),
   D 18 (.call 18 [(T 15), (T 16), (T 17)]),
   D 14 (.mv (T 18)),
   D 19 (.ext (T 14) 0),
   D 20 (.ext (T 14) 1),
   D 7 (.alloc [(.int .i64 0), (.int .i64 0)]),
   E (.st 2 (T 7) (T 19)),
   D 8 (.mv (T 20))]) (
 .trim [7, 8, 9, 10] (
  .ops [D 22 (.mv (T 0)),
   D 23 (.ldN 2 (T 4)),
   D 24 (.mv (T 2)),
   D 25 (.call 19 [(T 22), (T 23), (T 24)]),
   D 21 (.mv (T 25)),
   D 26 (.ext (T 21) 0),
   D 27 (.ext (T 21) 1),
   D 9 (.alloc [(.int .i64 0), (.int .i64 0)]),
   E (.st 2 (T 9) (T 26)),
   D 10 (.mv (T 27))]) (
 .trim [6] (
  .ops [D 28 (.ldN 2 (T 7)),
   D 29 (.ldN 2 (T 9)),
   D 30 (.eqa false [1, 1] (T 28) (T 29)),
   D 31 (.mv (T 30)),
   ⟨(some 32), some (31, true), .mv (T 8)⟩,
   ⟨(some 33), some (31, true), .mv (T 10)⟩,
   ⟨(some 34), some (31, true), .bin .eql (T 32) (T 33)⟩,
   D 35 (.pick (T 31) (T 34) (.const (.bool false))),
   D 36 (.mv (T 35)),
   ⟨(some 37), some (36, true), .call 10 []⟩,
   D 38 (.pick (T 36) (T 37) (.const (.bool false))),
   D 6 (.mv (T 38))]) (
 .ret)))))⟩
theorem dioramalaw27_StreamTransfers_ok : Ok Try.prog 5 dioramalaw27_StreamTransfers := ⟨by kernel_rfl, by kernel_rfl⟩

/-- diorama/dioramalaw27.StreamFaster -/
def dioramalaw27_StreamFaster : AF := ⟨100, [.tmp 2],
 .seq (
  .ops [D 1 (.box (T 0)),
   D 2 (.mv (.const (.bool false)))]) (
 .trim [3, 4, 5, 6] (
  .draw [⟨0, 0, 0, D 14 (.fa 0 (T 1))⟩,
   ⟨1, 1, 1, D 15 (.ld1 (T 14))⟩,
   ⟨2, 0, 0, D 16 (.fa 1 (T 1))⟩,
   ⟨3, 1, 4, D 17 (.ld1 (T 16))⟩,
   ⟨4, 0, 0, D 18 (.fa 2 (T 1))⟩,
   ⟨5, 1, 16, D 19 (.ldN 2 (T 18))⟩,
   ⟨6, 0, 0, D 20 (.fa 4 (T 1))⟩,
   ⟨7, 1, 64, D 21 (.ld1 (T 20))⟩,
   ⟨8, 2, 0, D 5 (.alloc [(.int .i64 0), (.int .i64 0)])⟩,
   ⟨9, 0, 259, D 3 (.mv (T 15))⟩,
   ⟨10, 0, 783, D 4 (.mv (T 17))⟩,
   ⟨11, 4, 1855, E (.st 2 (T 5) (T 19))⟩,
   ⟨12, 0, 4095, D 6 (.mv (T 21))⟩]) (
 .seq (
  .seq (
   .ops [D 22 (.mv (T 3)),
    D 23 (.len (T 22)),
    D 24 (.bin .gtr (T 23) (I 60))]) (
  .cond (T 24) (
   .seq (
    .ops [D 2 (.mv (.const (.bool true)))]) (
   .ret)) (
   .skip))) (
 .seq (
  .ops [D 25 (.mv (T 3)),
   D 26 (.len (T 25)),
   D 27 (.mks [(.int .i64 0), (.int .i64 0), (.int .i64 0), (.int .i64 0), (.int .i64 0)] 40 (I 0) (T 26)),
   D 7 (.mv (T 27))]) (
 .trim [3, 5, 6, 7] (
  .seq (
   .ops [D 8 (.mv (I 0))]) (
  .block 0 (
   .loop [3, 4, 5, 6, 7, 8] (
    .seq (
     .seq (
      .ops [D 28 (.mv (T 8)),
       D 29 (.mv (T 3)),
       D 30 (.len (T 29)),
       D 31 (.bin .lss (T 28) (T 30))]) (
     .cond (T 31) (
      .skip) (
      .exit 0))) (
    .trim [3, 4, 5, 6, 7, 8] (
     .block 1 (
      .seq (
       .ops [D 34 (.mv (T 3)),
        D 35 (.mv (T 8)),
        D 36 (.ia 5 (T 34) (T 35)),
        D 37 (.ldN 5 (T 36)),
        D 9 (.alloc [(.int .i64 0), (.int .i64 0), (.int .i64 0), (.int .i64 0), (.int .i64 0)]),
        E (.st 5 (T 9) (T 37))]) (
      .trim [3, 4, 5, 6, 7, 8, 9] (
       .trim [3, 4, 5, 6, 7, 8, 9, 52] (
        .draw [⟨0, 0, 0, D 38 (.mv (T 8))⟩,
         ⟨1, 0, 0, D 39 (.mv (T 4))⟩,
         ⟨2, 0, 2, D 40 (.len (T 39))⟩,
         ⟨3, 0, 7, D 41 (.bin .lss (T 38) (T 40))⟩,
         ⟨4, 0, 15, D 42 (.mv (T 41))⟩,
         ⟨5, 0, 31, ⟨(some 43), some (42, true), .fa 0 (T 9)⟩⟩,
         ⟨6, 1, 63, ⟨(some 44), some (42, true), .ld1 (T 43)⟩⟩,
         ⟨7, 0, 31, ⟨(some 45), some (42, true), .mv (T 4)⟩⟩,
         ⟨8, 0, 31, ⟨(some 46), some (42, true), .mv (T 8)⟩⟩,
         ⟨9, 0, 415, ⟨(some 47), some (42, true), .ia 1 (T 45) (T 46)⟩⟩,
         ⟨10, 1, 927, ⟨(some 48), some (42, true), .ld1 (T 47)⟩⟩,
         ⟨11, 0, 1951, ⟨(some 49), some (42, true), .cvi .i64 (T 48)⟩⟩,
         ⟨12, 0, 3999, ⟨(some 50), some (42, true), .bin .sub (I 1000000000) (T 49)⟩⟩,
         ⟨13, 0, 8191, ⟨(some 51), some (42, true), .bin .leq (T 44) (T 50)⟩⟩,
         ⟨14, 0, 16383, D 52 (.pick (T 42) (T 51) (.const (.bool false)))⟩]) (
       .cond (T 52) (
        .draw [⟨0, 0, 0, D 53 (.fa 0 (T 9))⟩,
         ⟨1, 1, 1, D 54 (.ld1 (T 53))⟩,
         ⟨2, 0, 0, D 55 (.mv (T 4))⟩,
         ⟨3, 0, 0, D 56 (.mv (T 8))⟩,
         ⟨4, 0, 12, D 57 (.ia 1 (T 55) (T 56))⟩,
         ⟨5, 1, 28, D 58 (.ld1 (T 57))⟩,
         ⟨6, 0, 60, D 59 (.cvi .i64 (T 58))⟩,
         ⟨7, 0, 127, D 60 (.bin .add (T 54) (T 59))⟩,
         ⟨8, 0, 255, D 61 (.fa 0 (T 9))⟩,
         ⟨9, 4, 511, E (.st 1 (T 61) (T 60))⟩]) (
        .skip))) (
      .ops [D 62 (.mv (T 7)),
       D 63 (.ldN 5 (T 9)),
       D 64 (.bslice [(.int .i64 0), (.int .i64 0), (.int .i64 0), (.int .i64 0), (.int .i64 0)] 1 [(0, 5, (T 63))]),
       D 65 (.app 5 40 (T 62) (T 64)),
       D 7 (.mv (T 65))])))) (
    .ops [D 32 (.mv (T 8)),
     D 33 (.bin .add (T 32) (I 1)),
     D 8 (.mv (T 33))])))))) (
 .trim [5, 6, 7, 10, 11] (
  .ops [D 67 (.mv (T 3)),
   D 68 (.ldN 2 (T 5)),
   D 69 (.mv (T 6)),
   D 70 (.call 18 [(T 67), (T 68), (T 69)]),
   D 66 (.mv (T 70)),
   D 71 (.ext (T 66) 0),
   D 72 (.ext (T 66) 1),
   D 10 (.alloc [(.int .i64 0), (.int .i64 0)]),
   E (.st 2 (T 10) (T 71)),
   D 11 (.mv (T 72))]) (
 .trim [10, 11, 12, 13] (
  .ops [D 74 (.mv (T 7)),
   D 75 (.ldN 2 (T 5)),
   D 76 (.mv (T 6)),
   D 77 (.call 18 [(T 74), (T 75), (T 76)]),
   D 73 (.mv (T 77)),
   D 78 (.ext (T 73) 0),
   D 79 (.ext (T 73) 1),
   D 12 (.alloc [(.int .i64 0), (.int .i64 0)]),
   E (.st 2 (T 12) (T 78)),
   D 13 (.mv (T 79))]) (
 .trim [10, 12, 13] (
  .trim [10, 12, 13, 85] (
   .ops [D 80 (.mv (T 11)),
    D 81 (.bin .neq (T 80) (I 0)),
    D 82 (.mv (T 81)),
    ⟨(some 83), some (82, false), .mv (T 13)⟩,
    ⟨(some 84), some (82, false), .bin .eql (T 83) (I 2)⟩,
    D 85 (.pick (T 82) (.const (.bool true)) (T 84))]) (
  .cond (T 85) (
   .seq (
    .ops [D 86 (.call 10 []),
     D 2 (.mv (T 86))]) (
   .ret)) (
   .skip))) (
 .trim [2] (
  .draw [⟨0, 0, 0, D 87 (.mv (T 13))⟩,
   ⟨1, 0, 1, D 88 (.bin .eql (T 87) (I 0))⟩,
   ⟨2, 0, 3, D 89 (.mv (T 88))⟩,
   ⟨3, 1, 7, ⟨(some 90), some (89, true), .ldN 2 (T 12)⟩⟩,
   ⟨5, 1, 7, ⟨(some 92), some (89, true), .ldN 2 (T 10)⟩⟩,
   ⟨4, 4, 15, ⟨(some 91), some (89, true), .call 21 [(T 90)]⟩⟩,
   ⟨6, 4, 63, ⟨(some 93), some (89, true), .call 21 [(T 92)]⟩⟩,
   ⟨7, 4, 127, ⟨(some 94), some (89, true), .call 20 [(T 91), (T 93)]⟩⟩,
   ⟨8, 0, 255, ⟨(some 95), some (89, true), .bin .leq (T 94) (I 0)⟩⟩,
   ⟨9, 0, 511, D 96 (.pick (T 89) (T 95) (.const (.bool false)))⟩,
   ⟨10, 0, 1023, D 97 (.mv (T 96))⟩,
   ⟨11, 4, 2047, ⟨(some 98), some (97, true), .call 10 []⟩⟩,
   ⟨12, 0, 4095, D 99 (.pick (T 97) (T 98) (.const (.bool false)))⟩,
   ⟨13, 0, 8191, D 2 (.mv (T 99))⟩]) (
 .ret)))))))))⟩
theorem dioramalaw27_StreamFaster_ok : Ok Try.prog 6 dioramalaw27_StreamFaster := ⟨by kernel_rfl, by kernel_rfl⟩

/-- diorama/dioramalaw27.StreamChooses -/
def dioramalaw27_StreamChooses : AF := ⟨60, [.tmp 2],
 .seq (
  .ops [D 1 (.box (T 0)),
   D 2 (.mv (.const (.bool false)))]) (
 .trim [3, 4, 5, 6, 7] (
  .draw [⟨0, 0, 0, D 12 (.fa 0 (T 1))⟩,
   ⟨1, 1, 1, D 13 (.ld1 (T 12))⟩,
   ⟨2, 0, 0, D 14 (.fa 1 (T 1))⟩,
   ⟨3, 1, 4, D 15 (.ld1 (T 14))⟩,
   ⟨4, 0, 0, D 16 (.fa 2 (T 1))⟩,
   ⟨5, 1, 16, D 17 (.ldN 6 (T 16))⟩,
   ⟨6, 0, 0, D 18 (.fa 8 (T 1))⟩,
   ⟨7, 1, 64, D 19 (.ld1 (T 18))⟩,
   ⟨8, 0, 0, D 20 (.fa 9 (T 1))⟩,
   ⟨9, 1, 256, D 21 (.ld1 (T 20))⟩,
   ⟨10, 2, 0, D 5 (.alloc [(.int .i64 0), (.int .i64 0), (.int .i64 0), (.int .i64 0), (.int .i64 0), (.int .i64 0)])⟩,
   ⟨11, 0, 1027, D 3 (.mv (T 13))⟩,
   ⟨12, 0, 3087, D 4 (.mv (T 15))⟩,
   ⟨13, 4, 7231, E (.st 6 (T 5) (T 17))⟩,
   ⟨14, 0, 15615, D 6 (.mv (T 19))⟩,
   ⟨15, 0, 32767, D 7 (.mv (T 21))⟩]) (
 .trim [3, 4, 5, 6, 7] (
  .trim [3, 4, 5, 6, 7, 29] (
   .ops [D 22 (.mv (T 3)),
    D 23 (.len (T 22)),
    D 24 (.bin .gtr (T 23) (I 8)),
    D 25 (.mv (T 24)),
    ⟨(some 26), some (25, false), .mv (T 3)⟩,
    ⟨(some 27), some (25, false), .call 22 [(T 26)]⟩,
    ⟨(some 28), some (25, false), .un .not (T 27)⟩,
    D 29 (.pick (T 25) (.const (.bool true)) (T 28))]) (
  .cond (T 29) (
   .seq (
    .ops [D 30 (.call 10 []),
     D 2 (.mv (T 30))]) (
   .ret)) (
   .skip))) (
 .trim [3, 4, 5, 6, 7, 8, 9] (
  .ops [D 32 (.mv (T 3)),
   D 33 (.mv (T 4)),
   D 34 (.ldN 6 (T 5)),
   D 35 (.mv (T 6)),
   D 36 (.mv (T 7)),
   D 37 (.call 23 [(T 32), (T 33), (T 34), (T 35), (T 36)]),
   D 31 (.mv (T 37)),
   D 38 (.ext (T 31) 0),
   D 39 (.ext (T 31) 1),
   D 8 (.mv (T 38)),
   D 9 (.mv (T 39))]) (
 .trim [8, 9, 10, 11] (
  .ops [D 41 (.mv (T 3)),
   D 42 (.mv (T 4)),
   D 43 (.ldN 6 (T 5)),
   D 44 (.mv (T 6)),
   D 45 (.mv (T 7)),
   D 46 (.call 24 [(T 41), (T 42), (T 43), (T 44), (T 45)]),
   D 40 (.mv (T 46)),
   D 47 (.ext (T 40) 0),
   D 48 (.ext (T 40) 1),
   D 10 (.mv (T 47)),
   D 11 (.mv (T 48))]) (
 .trim [2] (
  .ops [D 49 (.mv (T 8)),
   D 50 (.mv (T 10)),
   D 51 (.bin .eql (T 49) (T 50)),
   D 52 (.mv (T 51)),
   ⟨(some 53), some (52, true), .mv (T 9)⟩,
   ⟨(some 54), some (52, true), .mv (T 11)⟩,
   ⟨(some 55), some (52, true), .bin .eql (T 53) (T 54)⟩,
   D 56 (.pick (T 52) (T 55) (.const (.bool false))),
   D 57 (.mv (T 56)),
   ⟨(some 58), some (57, true), .call 10 []⟩,
   D 59 (.pick (T 57) (T 58) (.const (.bool false))),
   D 2 (.mv (T 59))]) (
 .ret))))))⟩
theorem dioramalaw27_StreamChooses_ok : Ok Try.prog 7 dioramalaw27_StreamChooses := ⟨by kernel_rfl, by kernel_rfl⟩

/-- diorama/dioramaref27.Transfer -/
def dioramaref27_Transfer : AF := ⟨61, [.cellN 2 6, .tmp 7],
 .seq (
  .ops [D 4 (.box (T 1)),
   D 6 (.alloc [(.int .i64 0), (.int .i64 0)]),
   D 7 (.mv (I 0))]) (
 .trim [0, 2, 4, 6] (
  .seq (
   .ops [D 13 (.ldN 2 (T 4)),
    D 14 (.call 28 [(T 13)]),
    D 15 (.un .not (T 14))]) (
  .cond (T 15) (
   .seq (
    .ops [D 16 (.build [(.int .i64 0), (.int .i64 0)] []),
     E (.st 2 (T 6) (T 16)),
     D 7 (.mv (I 4))]) (
   .ret)) (
   .skip))) (
 .seq (
  .ops [D 17 (.mv (T 0)),
   D 18 (.call 41 [(T 17)]),
   D 8 (.mv (T 18))]) (
 .trim [0, 2, 4, 6, 8] (
  .seq (
   .ops [D 19 (.mv (T 8)),
    D 20 (.bin .eql (T 19) (I 4))]) (
  .cond (T 20) (
   .seq (
    .ops [D 21 (.build [(.int .i64 0), (.int .i64 0)] []),
     D 22 (.mv (T 8)),
     E (.st 2 (T 6) (T 21)),
     D 7 (.mv (T 22))]) (
   .ret)) (
   .skip))) (
 .trim [0, 2, 4, 6] (
  .trim [0, 2, 4, 6, 39] (
   .ops [D 23 (.mv (T 2)),
    D 24 (.call 42 [(T 23), (I 0), (I 1048576)]),
    D 25 (.un .not (T 24)),
    D 26 (.mv (T 25)),
    ⟨(some 27), some (26, false), .fa 0 (T 4)⟩,
    ⟨(some 28), some (26, false), .ld1 (T 27)⟩,
    ⟨(some 29), some (26, false), .bin .lss (T 28) (I 0)⟩,
    D 30 (.pick (T 26) (.const (.bool true)) (T 29)),
    D 31 (.mv (T 30)),
    ⟨(some 32), some (31, false), .ldN 2 (T 4)⟩,
    ⟨(some 33), some (31, false), .call 43 [(T 32)]⟩,
    ⟨(some 34), some (31, false), .un .not (T 33)⟩,
    D 35 (.pick (T 31) (.const (.bool true)) (T 34)),
    D 36 (.mv (T 35)),
    ⟨(some 37), some (36, false), .mv (T 8)⟩,
    ⟨(some 38), some (36, false), .bin .neq (T 37) (I 0)⟩,
    D 39 (.pick (T 36) (.const (.bool true)) (T 38))]) (
  .cond (T 39) (
   .seq (
    .ops [D 40 (.build [(.int .i64 0), (.int .i64 0)] []),
     E (.st 2 (T 6) (T 40)),
     D 7 (.mv (I 1))]) (
   .ret)) (
   .skip))) (
 .trim [6, 9, 10] (
  .ops [D 42 (.mv (T 0)),
   D 43 (.ldN 2 (T 4)),
   D 44 (.call 21 [(T 43)]),
   D 45 (.mv (T 2)),
   D 46 (.call 44 [(T 42), (T 44), (T 45)]),
   D 41 (.mv (T 46)),
   D 47 (.ext (T 41) 0),
   D 48 (.ext (T 41) 1),
   D 9 (.alloc [(.bool false), (.slice none 0 0), (.bool false), (.slice none 0 0)]),
   E (.st 4 (T 9) (T 47)),
   D 10 (.mv (T 48))]) (
 .seq (
  .seq (
   .ops [D 49 (.mv (T 10)),
    D 50 (.un .not (T 49))]) (
  .cond (T 50) (
   .seq (
    .ops [D 51 (.build [(.int .i64 0), (.int .i64 0)] []),
     E (.st 2 (T 6) (T 51)),
     D 7 (.mv (I 271))]) (
   .ret)) (
   .skip))) (
 .trim [6, 11, 12] (
  .ops [D 53 (.ldN 4 (T 9)),
   D 54 (.call 45 [(T 53)]),
   D 52 (.mv (T 54)),
   D 55 (.ext (T 52) 0),
   D 56 (.ext (T 52) 1),
   D 11 (.alloc [(.int .i64 0), (.int .i64 0)]),
   E (.st 2 (T 11) (T 55)),
   D 12 (.mv (T 56))]) (
 .seq (
  .seq (
   .ops [D 57 (.mv (T 12)),
    D 58 (.un .not (T 57))]) (
  .cond (T 58) (
   .seq (
    .ops [D 59 (.build [(.int .i64 0), (.int .i64 0)] []),
     E (.st 2 (T 6) (T 59)),
     D 7 (.mv (I 2))]) (
   .ret)) (
   .skip))) (
 .seq (
  .ops [D 60 (.ldN 2 (T 11)),
   E (.st 2 (T 6) (T 60)),
   D 7 (.mv (I 0))]) (
 .ret))))))))))⟩
theorem dioramaref27_Transfer_ok : Ok Try.prog 19 dioramaref27_Transfer := ⟨by kernel_rfl, by kernel_rfl⟩

/-- diorama/stream.Choose -/
def stream_Choose : AF := ⟨72, [.tmp 10, .tmp 11],
 .seq (
  .ops [D 7 (.box (T 2)),
   D 10 (.mv (I 0)),
   D 11 (.mv (I 0))]) (
 .trim [0, 1, 3, 4, 7] (
  .trim [0, 1, 3, 4, 7, 30] (
   .ops [D 18 (.mv (T 1)),
    D 19 (.bin .lss (T 18) (I 0)),
    D 20 (.mv (T 19)),
    ⟨(some 21), some (20, false), .mv (T 1)⟩,
    ⟨(some 22), some (20, false), .mv (T 0)⟩,
    ⟨(some 23), some (20, false), .len (T 22)⟩,
    ⟨(some 24), some (20, false), .bin .geq (T 21) (T 23)⟩,
    D 25 (.pick (T 20) (.const (.bool true)) (T 24)),
    D 26 (.mv (T 25)),
    ⟨(some 27), some (26, false), .mv (T 3)⟩,
    ⟨(some 28), some (26, false), .call 49 [(T 27), (I 0), (I 1048576)]⟩,
    ⟨(some 29), some (26, false), .un .not (T 28)⟩,
    D 30 (.pick (T 26) (.const (.bool true)) (T 29))]) (
  .cond (T 30) (
   .seq (
    .ops [D 10 (.mv (I 0)),
     D 11 (.mv (I 1))]) (
   .ret)) (
   .skip))) (
 .trim [0, 1, 3, 4, 7, 12, 13] (
  .ops [D 32 (.fa 2 (T 7)),
   D 33 (.ldN 2 (T 32)),
   D 34 (.fa 4 (T 7)),
   D 35 (.ldN 2 (T 34)),
   D 36 (.call 36 [(T 33), (T 35)]),
   D 31 (.mv (T 36)),
   D 37 (.ext (T 31) 0),
   D 38 (.ext (T 31) 1),
   D 12 (.mv (T 37)),
   D 13 (.mv (T 38))]) (
 .trim [0, 1, 3, 4, 7] (
  .trim [0, 1, 3, 4, 7, 44] (
   .ops [D 39 (.mv (T 13)),
    D 40 (.bin .neq (T 39) (I 0)),
    D 41 (.mv (T 40)),
    ⟨(some 42), some (41, false), .mv (T 12)⟩,
    ⟨(some 43), some (41, false), .bin .gtr (T 42) (I 0)⟩,
    D 44 (.pick (T 41) (.const (.bool true)) (T 43))]) (
  .cond (T 44) (
   .seq (
    .ops [D 10 (.mv (I 0)),
     D 11 (.mv (I 4))]) (
   .ret)) (
   .skip))) (
 .trim [0, 1, 3, 4, 7, 14, 15] (
  .ops [D 46 (.fa 2 (T 7)),
   D 47 (.ldN 2 (T 46)),
   D 48 (.call 38 [(T 47)]),
   D 45 (.mv (T 48)),
   D 49 (.ext (T 45) 0),
   D 50 (.ext (T 45) 1),
   D 14 (.mv (T 49)),
   D 15 (.mv (T 50))]) (
 .trim [0, 1, 3, 4, 14, 15, 16, 17] (
  .ops [D 52 (.fa 4 (T 7)),
   D 53 (.ldN 2 (T 52)),
   D 54 (.call 38 [(T 53)]),
   D 51 (.mv (T 54)),
   D 55 (.ext (T 51) 0),
   D 56 (.ext (T 51) 1),
   D 16 (.mv (T 55)),
   D 17 (.mv (T 56))]) (
 .trim [0, 1, 3, 4, 14, 16] (
  .trim [0, 1, 3, 4, 14, 16, 62] (
   .ops [D 57 (.mv (T 15)),
    D 58 (.un .not (T 57)),
    D 59 (.mv (T 58)),
    ⟨(some 60), some (59, false), .mv (T 17)⟩,
    ⟨(some 61), some (59, false), .un .not (T 60)⟩,
    D 62 (.pick (T 59) (.const (.bool true)) (T 61))]) (
  .cond (T 62) (
   .seq (
    .ops [D 10 (.mv (I 0)),
     D 11 (.mv (I 4))]) (
   .ret)) (
   .skip))) (
 .trim [10, 11] (
  .ops [D 63 (.mv (T 0)),
   D 64 (.mv (T 1)),
   D 65 (.mv (T 3)),
   D 66 (.alloc [(.bool false), (.slice none 0 0)]),
   D 67 (.mv (T 16)),
   D 68 (.mv (T 14)),
   D 69 (.call 51 [(T 66), (T 67), (T 68)]),
   D 70 (.mv (T 4)),
   D 71 (.call 50 [(T 63), (T 64), (T 65), (T 69), (T 70)]),
   D 10 (.mv (T 71)),
   D 11 (.mv (I 0))]) (
 .ret))))))))⟩
theorem stream_Choose_ok : Ok Try.prog 23 stream_Choose := ⟨by kernel_rfl, by kernel_rfl⟩

/-- diorama/dioramaref27.Choose -/
def dioramaref27_Choose : AF := ⟨68, [.tmp 10, .tmp 11],
 .seq (
  .ops [D 7 (.box (T 2)),
   D 10 (.mv (I 0)),
   D 11 (.mv (I 0))]) (
 .trim [0, 1, 3, 4, 7] (
  .trim [0, 1, 3, 4, 7, 28] (
   .ops [D 13 (.mv (T 0)),
    D 14 (.len (T 13)),
    D 15 (.bin .eql (T 14) (I 0)),
    D 16 (.mv (T 15)),
    ⟨(some 17), some (16, false), .mv (T 1)⟩,
    ⟨(some 18), some (16, false), .mv (T 0)⟩,
    ⟨(some 19), some (16, false), .len (T 18)⟩,
    ⟨(some 20), some (16, false), .bin .sub (T 19) (I 1)⟩,
    ⟨(some 21), some (16, false), .call 42 [(T 17), (I 0), (T 20)]⟩,
    ⟨(some 22), some (16, false), .un .not (T 21)⟩,
    D 23 (.pick (T 16) (.const (.bool true)) (T 22)),
    D 24 (.mv (T 23)),
    ⟨(some 25), some (24, false), .mv (T 3)⟩,
    ⟨(some 26), some (24, false), .call 42 [(T 25), (I 0), (I 1048576)]⟩,
    ⟨(some 27), some (24, false), .un .not (T 26)⟩,
    D 28 (.pick (T 24) (.const (.bool true)) (T 27))]) (
  .cond (T 28) (
   .seq (
    .ops [D 10 (.mv (I 0)),
     D 11 (.mv (I 1))]) (
   .ret)) (
   .skip))) (
 .trim [0, 1, 3, 4, 7] (
  .trim [0, 1, 3, 4, 7, 50] (
   .ops [D 29 (.fa 2 (T 7)),
    D 30 (.ldN 2 (T 29)),
    D 31 (.call 28 [(T 30)]),
    D 32 (.un .not (T 31)),
    D 33 (.mv (T 32)),
    ⟨(some 34), some (33, false), .fa 4 (T 7)⟩,
    ⟨(some 35), some (33, false), .ldN 2 (T 34)⟩,
    ⟨(some 36), some (33, false), .call 28 [(T 35)]⟩,
    ⟨(some 37), some (33, false), .un .not (T 36)⟩,
    D 38 (.pick (T 33) (.const (.bool true)) (T 37)),
    D 39 (.mv (T 38)),
    ⟨(some 40), some (39, false), .fa 2 (T 7)⟩,
    ⟨(some 41), some (39, false), .ldN 2 (T 40)⟩,
    ⟨(some 42), some (39, false), .call 43 [(T 41)]⟩,
    ⟨(some 43), some (39, false), .un .not (T 42)⟩,
    D 44 (.pick (T 39) (.const (.bool true)) (T 43)),
    D 45 (.mv (T 44)),
    ⟨(some 46), some (45, false), .fa 4 (T 7)⟩,
    ⟨(some 47), some (45, false), .ldN 2 (T 46)⟩,
    ⟨(some 48), some (45, false), .call 43 [(T 47)]⟩,
    ⟨(some 49), some (45, false), .un .not (T 48)⟩,
    D 50 (.pick (T 45) (.const (.bool true)) (T 49))]) (
  .cond (T 50) (
   .seq (
    .ops [D 10 (.mv (I 0)),
     D 11 (.mv (I 4))]) (
   .ret)) (
   .skip))) (
 .trim [0, 1, 3, 4, 12] (
  .draw [⟨0, 0, 0, D 51 (.fa 4 (T 7))⟩,
   ⟨1, 1, 1, D 52 (.ldN 2 (T 51))⟩,
   ⟨3, 0, 0, D 54 (.fa 2 (T 7))⟩,
   ⟨4, 1, 8, D 55 (.ldN 2 (T 54))⟩,
   ⟨2, 4, 3, D 53 (.call 21 [(T 52)])⟩,
   ⟨5, 4, 31, D 56 (.call 21 [(T 55)])⟩,
   ⟨6, 4, 63, D 57 (.call 52 [(T 53), (T 56)])⟩,
   ⟨7, 3, 0, D 12 (.alloc [(.bool false), (.slice none 0 0), (.bool false), (.slice none 0 0)])⟩,
   ⟨8, 4, 255, E (.st 4 (T 12) (T 57))⟩]) (
 .trim [0, 1, 3, 4, 12] (
  .seq (
   .draw [⟨0, 1, 0, D 58 (.ldN 4 (T 12))⟩,
    ⟨1, 4, 0, D 59 (.call 53 [])⟩,
    ⟨2, 4, 3, D 60 (.call 20 [(T 58), (T 59)])⟩,
    ⟨3, 0, 7, D 61 (.bin .lss (T 60) (I 0))⟩]) (
  .cond (T 61) (
   .seq (
    .ops [D 10 (.mv (I 0)),
     D 11 (.mv (I 4))]) (
   .ret)) (
   .skip))) (
 .trim [10, 11] (
  .ops [D 62 (.mv (T 0)),
   D 63 (.mv (T 1)),
   D 64 (.ldN 4 (T 12)),
   D 65 (.mv (T 3)),
   D 66 (.mv (T 4)),
   D 67 (.call 54 [(T 62), (T 63), (T 64), (T 65), (T 66)]),
   D 10 (.mv (T 67)),
   D 11 (.mv (I 0))]) (
 .ret))))))⟩
theorem dioramaref27_Choose_ok : Ok Try.prog 24 dioramaref27_Choose := ⟨by kernel_rfl, by kernel_rfl⟩

/-- diorama/dioramaref27.network -/
def dioramaref27_network : AF := ⟨69, [.tmp 2],
 .seq (
  .ops [D 2 (.mv (I 0))]) (
 .trim [0] (
  .seq (
   .ops [D 3 (.mv (I 0))]) (
  .block 0 (
   .loop [0, 3] (
    .seq (
     .seq (
      .ops [D 6 (.mv (T 3)),
       D 7 (.mv (T 0)),
       D 8 (.len (T 7)),
       D 9 (.bin .lss (T 6) (T 8))]) (
     .cond (T 9) (
      .skip) (
      .exit 0))) (
    .trim [0, 3] (
     .block 1 (
      .trim [0, 3, 27] (
       .ops [D 12 (.mv (T 0)),
        D 13 (.mv (T 3)),
        D 14 (.ia 5 (T 12) (T 13)),
        D 15 (.fa 1 (T 14)),
        D 16 (.ldN 2 (T 15)),
        D 17 (.call 28 [(T 16)]),
        D 18 (.un .not (T 17)),
        D 19 (.mv (T 18)),
        ⟨(some 20), some (19, false), .mv (T 0)⟩,
        ⟨(some 21), some (19, false), .mv (T 3)⟩,
        ⟨(some 22), some (19, false), .ia 5 (T 20) (T 21)⟩,
        ⟨(some 23), some (19, false), .fa 3 (T 22)⟩,
        ⟨(some 24), some (19, false), .ldN 2 (T 23)⟩,
        ⟨(some 25), some (19, false), .call 28 [(T 24)]⟩,
        ⟨(some 26), some (19, false), .un .not (T 25)⟩,
        D 27 (.pick (T 19) (.const (.bool true)) (T 26))]) (
      .cond (T 27) (
       .seq (
        .ops [D 2 (.mv (I 4))]) (
       .ret)) (
       .skip)))) (
    .ops [D 10 (.mv (T 3)),
     D 11 (.bin .add (T 10) (I 1)),
     D 3 (.mv (T 11))])))))) (
 .seq (
  .seq (
   .ops [D 28 (.mv (T 0)),
    D 29 (.len (T 28)),
    D 30 (.bin .gtr (T 29) (I 100))]) (
  .cond (T 30) (
   .seq (
    .ops [D 2 (.mv (I 1))]) (
   .ret)) (
   .skip))) (
 .trim [] (
  .seq (
   .ops [D 4 (.mv (I 0))]) (
  .block 2 (
   .loop [0, 4] (
    .seq (
     .seq (
      .ops [D 31 (.mv (T 4)),
       D 32 (.mv (T 0)),
       D 33 (.len (T 32)),
       D 34 (.bin .lss (T 31) (T 33))]) (
     .cond (T 34) (
      .skip) (
      .exit 2))) (
    .trim [0, 4] (
     .block 3 (
      .seq (
       .ops [D 37 (.mv (T 0)),
        D 38 (.mv (T 4)),
        D 39 (.ia 5 (T 37) (T 38)),
        D 40 (.ldN 5 (T 39)),
        D 5 (.alloc [(.int .i64 0), (.int .i64 0), (.int .i64 0), (.int .i64 0), (.int .i64 0)]),
        E (.st 5 (T 5) (T 40))]) (
      .trim [0, 4, 68] (
       .ops [D 41 (.fa 0 (T 5)),
        D 42 (.ld1 (T 41)),
        D 43 (.call 42 [(T 42), (I 0), (I 1000000000)]),
        D 44 (.un .not (T 43)),
        D 45 (.mv (T 44)),
        ⟨(some 46), some (45, false), .fa 1 (T 5)⟩,
        ⟨(some 47), some (45, false), .fa 0 (T 46)⟩,
        ⟨(some 48), some (45, false), .ld1 (T 47)⟩,
        ⟨(some 49), some (45, false), .bin .leq (T 48) (I 0)⟩,
        D 50 (.pick (T 45) (.const (.bool true)) (T 49)),
        D 51 (.mv (T 50)),
        ⟨(some 52), some (51, false), .fa 3 (T 5)⟩,
        ⟨(some 53), some (51, false), .fa 0 (T 52)⟩,
        ⟨(some 54), some (51, false), .ld1 (T 53)⟩,
        ⟨(some 55), some (51, false), .bin .lss (T 54) (I 0)⟩,
        D 56 (.pick (T 51) (.const (.bool true)) (T 55)),
        D 57 (.mv (T 56)),
        ⟨(some 58), some (57, false), .fa 1 (T 5)⟩,
        ⟨(some 59), some (57, false), .ldN 2 (T 58)⟩,
        ⟨(some 60), some (57, false), .call 43 [(T 59)]⟩,
        ⟨(some 61), some (57, false), .un .not (T 60)⟩,
        D 62 (.pick (T 57) (.const (.bool true)) (T 61)),
        D 63 (.mv (T 62)),
        ⟨(some 64), some (63, false), .fa 3 (T 5)⟩,
        ⟨(some 65), some (63, false), .ldN 2 (T 64)⟩,
        ⟨(some 66), some (63, false), .call 43 [(T 65)]⟩,
        ⟨(some 67), some (63, false), .un .not (T 66)⟩,
        D 68 (.pick (T 63) (.const (.bool true)) (T 67))]) (
      .cond (T 68) (
       .seq (
        .ops [D 2 (.mv (I 1))]) (
       .ret)) (
       .skip))))) (
    .ops [D 35 (.mv (T 4)),
     D 36 (.bin .add (T 35) (I 1)),
     D 4 (.mv (T 36))])))))) (
 .seq (
  .ops [D 2 (.mv (I 0))]) (
 .ret)))))⟩
theorem dioramaref27_network_ok : Ok Try.prog 41 dioramaref27_network := ⟨by kernel_rfl, by kernel_rfl⟩

/-- diorama/dioramaref27.transfer -/
def dioramaref27_transfer : AF := ⟨120, [.cellN 4 6, .tmp 7],
 .seq (
  .ops [D 4 (.box (T 1)),
   D 6 (.alloc [(.bool false), (.slice none 0 0), (.bool false), (.slice none 0 0)]),
   D 7 (.mv (.const (.bool false)))]) (
 .seq (
  .ops [D 16 (.call 53 []),
   D 8 (.alloc [(.bool false), (.slice none 0 0), (.bool false), (.slice none 0 0)]),
   E (.st 4 (T 8) (T 16))]) (
 .seq (
  .ops [D 9 (.mv (I 0))]) (
 .trim [0, 2, 4, 6, 8, 9] (
  .block 0 (
   .loop [0, 2, 4, 6, 8, 9] (
    .trim [0, 2, 4, 6, 8, 9] (
     .trim [0, 2, 4, 6, 8, 9, 33] (
      .draw [⟨0, 0, 0, D 17 (.mv (T 9))⟩,
       ⟨1, 0, 0, D 18 (.mv (T 0))⟩,
       ⟨2, 0, 2, D 19 (.len (T 18))⟩,
       ⟨3, 0, 7, D 20 (.bin .lss (T 17) (T 19))⟩,
       ⟨4, 0, 15, D 21 (.mv (T 20))⟩,
       ⟨5, 1, 31, ⟨(some 22), some (21, true), .ldN 4 (T 8)⟩⟩,
       ⟨6, 0, 31, ⟨(some 23), some (21, true), .mv (T 0)⟩⟩,
       ⟨7, 0, 31, ⟨(some 24), some (21, true), .mv (T 9)⟩⟩,
       ⟨8, 0, 223, ⟨(some 25), some (21, true), .ia 5 (T 23) (T 24)⟩⟩,
       ⟨9, 0, 479, ⟨(some 26), some (21, true), .fa 1 (T 25)⟩⟩,
       ⟨10, 1, 991, ⟨(some 27), some (21, true), .ldN 2 (T 26)⟩⟩,
       ⟨13, 1, 31, ⟨(some 30), some (21, true), .ldN 4 (T 4)⟩⟩,
       ⟨11, 4, 2015, ⟨(some 28), some (21, true), .call 21 [(T 27)]⟩⟩,
       ⟨12, 4, 4095, ⟨(some 29), some (21, true), .call 84 [(T 22), (T 28)]⟩⟩,
       ⟨14, 4, 16383, ⟨(some 31), some (21, true), .call 20 [(T 29), (T 30)]⟩⟩,
       ⟨15, 0, 32767, ⟨(some 32), some (21, true), .bin .leq (T 31) (I 0)⟩⟩,
       ⟨16, 0, 65535, D 33 (.pick (T 21) (T 32) (.const (.bool false)))⟩]) (
     .cond (T 33) (
      .skip) (
      .exit 0))) (
    .block 1 (
     .trim [0, 2, 4, 6, 8, 9] (
      .draw [⟨0, 1, 0, D 34 (.ldN 4 (T 8))⟩,
       ⟨1, 0, 0, D 35 (.mv (T 0))⟩,
       ⟨2, 0, 0, D 36 (.mv (T 9))⟩,
       ⟨3, 0, 6, D 37 (.ia 5 (T 35) (T 36))⟩,
       ⟨4, 0, 14, D 38 (.fa 1 (T 37))⟩,
       ⟨5, 1, 30, D 39 (.ldN 2 (T 38))⟩,
       ⟨6, 4, 62, D 40 (.call 21 [(T 39)])⟩,
       ⟨7, 4, 127, D 41 (.call 84 [(T 34), (T 40)])⟩,
       ⟨8, 4, 255, E (.st 4 (T 8) (T 41))⟩]) (
     .ops [D 42 (.mv (T 9)),
      D 43 (.bin .add (T 42) (I 1)),
      D 9 (.mv (T 43))])))))) (
 .trim [0, 2, 4, 6, 8, 9] (
  .seq (
   .ops [D 44 (.mv (T 9)),
    D 45 (.mv (T 0)),
    D 46 (.len (T 45)),
    D 47 (.bin .eql (T 44) (T 46))]) (
  .cond (T 47) (
   .seq (
    .ops [D 48 (.call 53 []),
     E (.st 4 (T 6) (T 48)),
     D 7 (.mv (.const (.bool false)))]) (
   .ret)) (
   .skip))) (
 .trim [0, 2, 6, 8, 9, 10] (
  .draw [⟨0, 1, 0, D 49 (.ldN 4 (T 4))⟩,
   ⟨1, 0, 0, D 50 (.mv (T 0))⟩,
   ⟨2, 0, 0, D 51 (.mv (T 9))⟩,
   ⟨3, 0, 6, D 52 (.ia 5 (T 50) (T 51))⟩,
   ⟨4, 0, 14, D 53 (.fa 3 (T 52))⟩,
   ⟨5, 1, 30, D 54 (.ldN 2 (T 53))⟩,
   ⟨6, 4, 62, D 55 (.call 21 [(T 54)])⟩,
   ⟨7, 4, 127, D 56 (.call 84 [(T 49), (T 55)])⟩,
   ⟨8, 3, 0, D 10 (.alloc [(.bool false), (.slice none 0 0), (.bool false), (.slice none 0 0)])⟩,
   ⟨9, 4, 511, E (.st 4 (T 10) (T 56))⟩]) (
 .seq (
  .seq (
   .ops [D 57 (.mv (T 2)),
    D 58 (.bin .eql (T 57) (I 0))]) (
  .cond (T 58) (
   .seq (
    .ops [D 59 (.ldN 4 (T 10)),
     E (.st 4 (T 6) (T 59)),
     D 7 (.mv (.const (.bool true)))]) (
   .ret)) (
   .skip))) (
 .seq (
  .ops [D 60 (.mv (T 2)),
   D 61 (.call 48 [(T 60), (I 1)]),
   D 11 (.alloc [(.bool false), (.slice none 0 0), (.bool false), (.slice none 0 0)]),
   E (.st 4 (T 11) (T 61))]) (
 .trim [6] (
  .block 2 (
   .loop [0, 6, 8, 9, 10, 11] (
    .seq (
     .seq (
      .ops [D 62 (.mv (T 9)),
       D 63 (.mv (T 0)),
       D 64 (.len (T 63)),
       D 65 (.bin .lss (T 62) (T 64))]) (
     .cond (T 65) (
      .skip) (
      .exit 2))) (
    .trim [0, 6, 8, 9, 10, 11] (
     .block 3 (
      .trim [0, 6, 8, 9, 10, 11, 12] (
       .draw [⟨0, 1, 0, D 68 (.ldN 4 (T 8))⟩,
        ⟨1, 0, 0, D 69 (.mv (T 0))⟩,
        ⟨2, 0, 0, D 70 (.mv (T 9))⟩,
        ⟨3, 0, 6, D 71 (.ia 5 (T 69) (T 70))⟩,
        ⟨4, 0, 14, D 72 (.fa 1 (T 71))⟩,
        ⟨5, 1, 30, D 73 (.ldN 2 (T 72))⟩,
        ⟨6, 4, 62, D 74 (.call 21 [(T 73)])⟩,
        ⟨7, 4, 127, D 75 (.call 84 [(T 68), (T 74)])⟩,
        ⟨8, 3, 0, D 12 (.alloc [(.bool false), (.slice none 0 0), (.bool false), (.slice none 0 0)])⟩,
        ⟨9, 4, 511, E (.st 4 (T 12) (T 75))⟩]) (
      .seq (
       .ops [D 76 (.ldN 4 (T 8)),
        D 13 (.alloc [(.bool false), (.slice none 0 0), (.bool false), (.slice none 0 0)]),
        E (.st 4 (T 13) (T 76))]) (
      .trim [0, 6, 8, 9, 10, 11, 12, 13] (
       .seq (
        .ops [D 77 (.ldN 4 (T 10)),
         D 78 (.ldN 4 (T 13)),
         D 79 (.call 20 [(T 77), (T 78)]),
         D 80 (.bin .gtr (T 79) (I 0))]) (
       .cond (T 80) (
        .ops [D 81 (.ldN 4 (T 10)),
         E (.st 4 (T 13) (T 81))]) (
        .skip))) (
      .trim [0, 6, 8, 9, 10, 11, 12] (
       .trim [0, 6, 8, 9, 10, 11, 12, 13, 93] (
        .ops [D 82 (.mv (T 0)),
         D 83 (.mv (T 9)),
         D 84 (.ia 5 (T 82) (T 83)),
         D 85 (.fa 0 (T 84)),
         D 86 (.ld1 (T 85)),
         D 87 (.bin .gtr (T 86) (I 0)),
         D 88 (.mv (T 87)),
         ⟨(some 89), some (88, true), .ldN 4 (T 13)⟩,
         ⟨(some 90), some (88, true), .ldN 4 (T 12)⟩,
         ⟨(some 91), some (88, true), .call 20 [(T 89), (T 90)]⟩,
         ⟨(some 92), some (88, true), .bin .lss (T 91) (I 0)⟩,
         D 93 (.pick (T 88) (T 92) (.const (.bool false)))]) (
       .cond (T 93) (
        .trim [0, 6, 8, 9, 10, 11, 12, 13, 14] (
         .ops [D 94 (.mv (T 0)),
          D 95 (.mv (T 9)),
          D 96 (.ia 5 (T 94) (T 95)),
          D 97 (.fa 0 (T 96)),
          D 98 (.ld1 (T 97)),
          D 99 (.call 48 [(T 98), (I 1)]),
          D 14 (.alloc [(.bool false), (.slice none 0 0), (.bool false), (.slice none 0 0)]),
          E (.st 4 (T 14) (T 99))]) (
        .trim [0, 6, 8, 9, 10, 11, 12, 13, 14, 15] (
         .draw [⟨0, 1, 0, D 100 (.ldN 4 (T 12))⟩,
          ⟨1, 1, 0, D 101 (.ldN 4 (T 13))⟩,
          ⟨3, 1, 0, D 103 (.ldN 4 (T 14))⟩,
          ⟨2, 4, 3, D 102 (.call 52 [(T 100), (T 101)])⟩,
          ⟨4, 4, 15, D 104 (.call 82 [(T 102), (T 103)])⟩,
          ⟨5, 3, 0, D 15 (.alloc [(.bool false), (.slice none 0 0), (.bool false), (.slice none 0 0)])⟩,
          ⟨6, 4, 63, E (.st 4 (T 15) (T 104))⟩]) (
        .trim [0, 6, 8, 9, 10, 11, 12, 15] (
         .seq (
          .ops [D 105 (.ldN 4 (T 15)),
           D 106 (.ldN 4 (T 11)),
           D 107 (.call 20 [(T 105), (T 106)]),
           D 108 (.bin .geq (T 107) (I 0))]) (
         .cond (T 108) (
          .trim [6, 7] (
           .draw [⟨0, 1, 0, D 109 (.ldN 4 (T 13))⟩,
            ⟨1, 1, 0, D 110 (.ldN 4 (T 11))⟩,
            ⟨2, 1, 0, D 111 (.ldN 4 (T 14))⟩,
            ⟨3, 4, 6, D 112 (.call 86 [(T 110), (T 111)])⟩,
            ⟨4, 4, 15, D 113 (.call 84 [(T 109), (T 112)])⟩,
            ⟨5, 4, 31, D 114 (.call 85 [(T 113)])⟩,
            ⟨6, 4, 63, E (.st 4 (T 6) (T 114))⟩,
            ⟨7, 0, 127, D 7 (.mv (.const (.bool true)))⟩]) (
          .ret)) (
          .skip))) (
        .ops [D 115 (.ldN 4 (T 11)),
         D 116 (.ldN 4 (T 15)),
         D 117 (.call 52 [(T 115), (T 116)]),
         E (.st 4 (T 11) (T 117))])))) (
        .skip))) (
      .ops [D 118 (.ldN 4 (T 12)),
       E (.st 4 (T 8) (T 118))])))))) (
    .ops [D 66 (.mv (T 9)),
     D 67 (.bin .add (T 66) (I 1)),
     D 9 (.mv (T 67))]))))) (
 .seq (
  .ops [D 119 (.call 53 []),
   E (.st 4 (T 6) (T 119)),
   D 7 (.mv (.const (.bool false)))]) (
 .ret))))))))))⟩
theorem dioramaref27_transfer_ok : Ok Try.prog 44 dioramaref27_transfer := ⟨by kernel_rfl, by kernel_rfl⟩

/-- diorama/stream.choose -/
def stream_choose : AF := ⟨54, [.tmp 10],
 .seq (
  .ops [D 10 (.mv (I 0))]) (
 .seq (
  .ops [D 13 (.mv (T 0)),
   D 14 (.len (T 13)),
   D 15 (.bin .sub (T 14) (I 1)),
   D 11 (.mv (T 15))]) (
 .trim [1, 4, 11] (
  .seq (
   .ops [D 16 (.mv (T 3)),
    D 17 (.call 70 [(T 16)]),
    D 18 (.bin .gtr (T 17) (I 0))]) (
  .cond (T 18) (
   .trim [0, 1, 3, 4, 11, 12] (
    .ops [D 19 (.alloc [(.bool false), (.slice none 0 0)]),
     D 20 (.mv (T 2)),
     D 21 (.call 68 [(T 20)]),
     D 22 (.call 68 [(I 8000000)]),
     D 23 (.call 67 [(T 19), (T 21), (T 22)]),
     D 12 (.mv (T 23))]) (
   .seq (
    .ops [D 24 (.mv (T 12)),
     D 25 (.mv (T 12)),
     D 26 (.mv (T 3)),
     D 27 (.call 93 [(T 24), (T 25), (T 26)])]) (
   .seq (
    .ops [D 28 (.mv (T 12)),
     D 29 (.mv (T 12)),
     D 30 (.call 68 [(I 3)]),
     D 31 (.call 67 [(T 28), (T 29), (T 30)])]) (
   .block 0 (
    .loop [0, 1, 4, 11, 12] (
     .trim [0, 1, 4, 11, 12] (
      .trim [0, 1, 4, 11, 12, 45] (
       .ops [D 32 (.mv (T 11)),
        D 33 (.bin .gtr (T 32) (I 0)),
        D 34 (.mv (T 33)),
        ⟨(some 35), some (34, true), .mv (T 0)⟩,
        ⟨(some 36), some (34, true), .mv (T 11)⟩,
        ⟨(some 37), some (34, true), .ia 8 (T 35) (T 36)⟩,
        ⟨(some 38), some (34, true), .fa 1 (T 37)⟩,
        ⟨(some 39), some (34, true), .ld1 (T 38)⟩,
        ⟨(some 40), some (34, true), .bin .mul (T 39) (I 4)⟩,
        ⟨(some 41), some (34, true), .call 68 [(T 40)]⟩,
        ⟨(some 42), some (34, true), .mv (T 12)⟩,
        ⟨(some 43), some (34, true), .call 74 [(T 41), (T 42)]⟩,
        ⟨(some 44), some (34, true), .bin .gtr (T 43) (I 0)⟩,
        D 45 (.pick (T 34) (T 44) (.const (.bool false)))]) (
      .cond (T 45) (
       .skip) (
       .exit 0))) (
     .block 1 (
      .ops [D 46 (.mv (T 11)),
       D 47 (.bin .sub (T 46) (I 1)),
       D 11 (.mv (T 47))])))))))) (
   .skip))) (
 .trim [11] (
  .seq (
   .ops [D 48 (.mv (T 4))]) (
  .cond (T 48) (
   .ops [D 49 (.mv (T 11)),
    D 50 (.mv (T 1)),
    D 51 (.bin .add (T 50) (I 1)),
    D 52 (.mn [(T 49), (T 51)]),
    D 11 (.mv (T 52))]) (
   .skip))) (
 .seq (
  .ops [D 53 (.mv (T 11)),
   D 10 (.mv (T 53))]) (
 .ret)))))⟩
theorem stream_choose_ok : Ok Try.prog 50 stream_choose := ⟨by kernel_rfl, by kernel_rfl⟩

/-- diorama/dioramaref27.choose -/
def dioramaref27_choose : AF := ⟨57, [.tmp 10],
 .seq (
  .ops [D 7 (.box (T 2)),
   D 10 (.mv (I 0))]) (
 .seq (
  .ops [D 11 (.mv (I 0))]) (
 .trim [1, 4, 11] (
  .seq (
   .draw [⟨0, 1, 0, D 14 (.ldN 4 (T 7))⟩,
    ⟨1, 4, 0, D 15 (.call 53 [])⟩,
    ⟨2, 4, 3, D 16 (.call 20 [(T 14), (T 15)])⟩,
    ⟨3, 0, 7, D 17 (.bin .eql (T 16) (I 0))⟩]) (
  .cond (T 17) (
   .ops [D 18 (.mv (T 0)),
    D 19 (.len (T 18)),
    D 20 (.bin .sub (T 19) (I 1)),
    D 11 (.mv (T 20))]) (
   .trim [0, 1, 4, 11, 12] (
    .draw [⟨0, 0, 0, D 21 (.mv (T 3))⟩,
     ⟨1, 0, 1, D 22 (.bin .mul (T 21) (I 8))⟩,
     ⟨3, 1, 0, D 24 (.ldN 4 (T 7))⟩,
     ⟨2, 4, 3, D 23 (.call 48 [(T 22), (I 1)])⟩,
     ⟨4, 4, 15, D 25 (.call 86 [(T 23), (T 24)])⟩,
     ⟨5, 4, 31, D 26 (.call 95 [(T 25)])⟩,
     ⟨6, 3, 0, D 12 (.alloc [(.bool false), (.slice none 0 0)])⟩,
     ⟨7, 4, 127, E (.st 2 (T 12) (T 26))⟩]) (
   .seq (
    .ops [D 13 (.mv (I 0))]) (
   .block 0 (
    .loop [0, 1, 4, 11, 12, 13] (
     .seq (
      .seq (
       .ops [D 27 (.mv (T 13)),
        D 28 (.mv (T 0)),
        D 29 (.len (T 28)),
        D 30 (.bin .lss (T 27) (T 29))]) (
      .cond (T 30) (
       .skip) (
       .exit 0))) (
     .trim [0, 1, 4, 11, 12, 13] (
      .block 1 (
       .trim [0, 1, 4, 11, 12, 13, 45] (
        .draw [⟨0, 0, 0, D 33 (.mv (T 0))⟩,
         ⟨1, 0, 0, D 34 (.mv (T 13))⟩,
         ⟨2, 0, 3, D 35 (.ia 8 (T 33) (T 34))⟩,
         ⟨3, 0, 7, D 36 (.fa 1 (T 35))⟩,
         ⟨4, 1, 15, D 37 (.ld1 (T 36))⟩,
         ⟨8, 1, 0, D 41 (.ldN 2 (T 12))⟩,
         ⟨5, 4, 31, D 38 (.call 92 [(T 37)])⟩,
         ⟨6, 4, 63, D 39 (.call 92 [(I 4)])⟩,
         ⟨7, 4, 127, D 40 (.call 47 [(T 38), (T 39)])⟩,
         ⟨9, 4, 255, D 42 (.call 92 [(I 3)])⟩,
         ⟨10, 4, 1023, D 43 (.call 47 [(T 41), (T 42)])⟩,
         ⟨11, 4, 2047, D 44 (.call 46 [(T 40), (T 43)])⟩,
         ⟨12, 0, 4095, D 45 (.bin .leq (T 44) (I 0))⟩]) (
       .cond (T 45) (
        .ops [D 46 (.mv (T 13)),
         D 11 (.mv (T 46))]) (
        .skip)))) (
     .ops [D 31 (.mv (T 13)),
      D 32 (.bin .add (T 31) (I 1)),
      D 13 (.mv (T 32))]))))))))) (
 .trim [11] (
  .trim [1, 11, 53] (
   .ops [D 47 (.mv (T 4)),
    D 48 (.mv (T 47)),
    ⟨(some 49), some (48, true), .mv (T 11)⟩,
    ⟨(some 50), some (48, true), .mv (T 1)⟩,
    ⟨(some 51), some (48, true), .bin .add (T 50) (I 1)⟩,
    ⟨(some 52), some (48, true), .bin .gtr (T 49) (T 51)⟩,
    D 53 (.pick (T 48) (T 52) (.const (.bool false)))]) (
  .cond (T 53) (
   .ops [D 54 (.mv (T 1)),
    D 55 (.bin .add (T 54) (I 1)),
    D 11 (.mv (T 55))]) (
   .skip))) (
 .seq (
  .ops [D 56 (.mv (T 11)),
   D 10 (.mv (T 56))]) (
 .ret)))))⟩
theorem dioramaref27_choose_ok : Ok Try.prog 54 dioramaref27_choose := ⟨by kernel_rfl, by kernel_rfl⟩

end Go.Proofs.Ytikbdeobghoglaa.Af

/- The program's networks: times in millionths. Plain theorems over the abstract machine.
   Conditions: none. -/
namespace Go.Proofs.Ytikbdeobghoglaa.St
open Go Go.RowKit Go.Proofs.Ytikbdeobghoglaa.Am Go.Proofs.Ytikbdeobghoglaa.Af Go.Proofs.Ytikbdeobghoglaa.Md Go.Proofs.Ytikbdeobghoglaa.Nu
set_option linter.unusedVariables false
set_option linter.unusedSimpArgs false
set_option linter.defProp false
set_option maxRecDepth 20000
set_option maxHeartbeats 1000000

/-- A time in millionths, towards zero. -/
def mi (t : Tim) : Int := (t.1 * 1000000).tdiv t.2
def WH (t : Tim) : Prop := t.2 ∣ t.1 * 1000000
instance (t : Tim) : Decidable (WH t) := by unfold WH; infer_instance
theorem mi_eq {t : Tim} (h : WH t) : mi t * t.2 = t.1 * 1000000 := Int.tdiv_mul_cancel h
theorem dg18 {z : Int} (h : z.natAbs < 340282366920938463463374607431768211456) : (dg z.natAbs).length ≤ 4 := dg_len (Nat.lt_of_lt_of_le h (by decide))
theorem c_micros {h : Hp} {t : Tim} (hv : VT t) :
    ACalls Try.prog 38 [.agg #[.int .i64 t.1, .int .i64 t.2]] h fun r h' => ∃ b, r = .tuple #[.pointer (some ⟨b, 0, none⟩), .bool (decide (WH t))] ∧ h.size ≤ b ∧ IntAt h' b 0 (mi t) ∧ Fm No h h' := by
  refine stream_micros_ok.snd Af.hm rfl fun w => ?_
  rw [WF_eq, stream_micros]
  obtain ⟨t1, t2⟩ := t
  obtain ⟨v1, v2, v3, v4⟩ := hv
  simp only at *
  obtain ⟨h0, e0⟩ : ∃ g, h.new ⟨[.int .i64 t1, .int .i64 t2], .own⟩ = g := ⟨_, rfl⟩
  have w0 : Wf h0 := e0 ▸ w.new
  have f0 : Fm No h h0 := e0 ▸ Fm.new Fm.refl
  have g0 : h0.get h.size = some ⟨[.int .i64 t1, .int .i64 t2], .own⟩ := e0 ▸ gnew
  obtain ⟨h1, e1⟩ : ∃ g, h0.new ⟨[.bool false, .slice none 0 0], .own⟩ = g := ⟨_, rfl⟩
  have w1 : Wf h1 := e1 ▸ w0.new
  have f1 : Fm No h0 h1 := e1 ▸ Fm.new Fm.refl
  have x1 : XAt h1 h0.size 0 := e1 ▸ x_new (by decide)
  have s0 : h0.size = h.size + 1 := by rw [← e0]; rfl
  have rds : ∀ g : Hp, Fm No h0 g → ∀ i, g.rd h.size i = ([.int .i64 t1, .int .i64 t2] : List Value)[i]? := fun g fg i => rd_mk (fg.keep w0 g0 (fun f => f))
  have r1 := rds h1 f1
  simp +contextual (disch := omega) only [↓AM, ↓AV, AP, CQ, CN, i64, e0, e1, r1]
  refine (c_newIS (z := t1) (by omega)).use ?_
  rintro _ h2 w2 ⟨b2, rfl, sb2, n2, f2⟩
  simp +contextual (disch := omega) only [↓AM, ↓AV, AP, CQ, CN, i64, e0, e1]
  refine (c_newIS (z := 1000000) (by omega)).use ?_
  rintro _ h3 w3 ⟨b3, rfl, sb3, n3, f3⟩
  have f13 := f2.trans f3 fun _ _ f => f
  simp +contextual (disch := omega) only [↓AM, ↓AV, AP, CQ, CN, i64, e0, e1]
  refine (c_MulS (x1.keep w1 f13) (n2.keep w2 f3) n3 (Nat.le_trans (dg18 (by omega)) (by decide)) (Nat.le_trans (dg18 (by decide)) (by decide))).use ?_
  rintro _ h4 w4 ⟨rfl, wr4, n4⟩
  have r4 : ∀ i, h4.rd h.size i = ([.int .i64 t1, .int .i64 t2] : List Value)[i]? := fun i => rd_mk (wr4.fm.keep w3 ((f1.trans f13 fun _ _ f => f).keep w0 g0 (fun f => f)) (by omega))
  simp +contextual (disch := omega) only [↓AM, ↓AV, AP, CQ, CN, i64, e0, e1, r4]
  refine (c_newIS (z := t2) (by omega)).use ?_
  rintro _ h5 w5 ⟨b5, rfl, sb5, n5, f5⟩
  obtain ⟨h6, e6⟩ : ∃ g, h5.new ⟨[.bool false, .slice none 0 0], .own⟩ = g := ⟨_, rfl⟩
  have w6 : Wf h6 := e6 ▸ w5.new
  have f6 : Fm No h5 h6 := e6 ▸ Fm.new Fm.refl
  have x6 : XAt h6 h5.size 0 := e6 ▸ x_new (by decide)
  have n4' := (n4.keep w4 f5).keep w5 f6
  have s3 := (f1.trans f13 fun _ _ f => f).size
  have s1 : h1.size = h0.size + 1 := by rw [← e1]; rfl
  have s4 := wr4.fm.size
  have s5 := f5.size
  have s13 := f13.size
  have hne : h0.size ≠ h5.size := by omega
  simp +contextual (disch := omega) only [↓AM, ↓AV, AP, CQ, CN, i64, e0, e1, e6]
  have hl : (dg (t1 * 1000000).natAbs).length ≤ 4 := dg18 (by omega)
  refine (c_QuoRemG n4'.x x6 hne n4' (n5.keep w5 f6) (by omega) (by omega) (Nat.le_trans (dg18 (by omega)) (by decide))).use ?_
  rintro _ h7 w7 ⟨rfl, wr7, n7, m7⟩
  simp +contextual (disch := omega) only [↓AM, ↓AV, AP, CQ, CN, i64, e0, e1, e6]
  refine (c_SignG m7).use ?_
  rintro _ h7 w8 ⟨rfl, rfl⟩
  have fin : Fm No h h7 := by
    have a1 : Fm (fun y => y = h0.size) h h4 := ((f0.trans f1 fun _ _ f => f).trans f13 fun _ _ f => f).mono (fun _ _ f => f.elim) |>.trans wr4.fm fun _ _ f => f
    have a2 : Fm (fun y => y = h0.size) h h6 := (a1.trans f5 fun _ _ f => f.elim).trans f6 fun _ _ f => f.elim
    have a3 : Fm (fun y => y = h0.size ∨ y = h5.size) h h7 := (a2.mono fun _ _ f => Or.inl f).trans wr7.fm fun _ _ f => f
    exact a3.mono fun x hx f => by
      exfalso
      have : h.size ≤ h4.size := by omega
      omega
  have hw : EqI (sgnZ ((t1 * 1000000).tmod t2)) 0 = WH (t1, t2) := by
    unfold EqI WH sgnZ
    rw [Int.dvd_iff_tmod_eq_zero]
    refine propext ?_
    simp only
    split
    · omega
    · split <;> omega
  simp +contextual (disch := omega) only [↓AM, ↓AV, AP, CQ, CN, i64, e0, e1, e6, hw]
  exact ⟨_, rfl, by omega, n7, fin⟩
end Go.Proofs.Ytikbdeobghoglaa.St

/- The program's networks: the first error. Plain theorems over the abstract machine.
   Conditions: none. -/
namespace Go.Proofs.Ytikbdeobghoglaa.St
open Go Go.RowKit Go.Proofs.Ytikbdeobghoglaa.Am Go.Proofs.Ytikbdeobghoglaa.Af Go.Proofs.Ytikbdeobghoglaa.Md Go.Proofs.Ytikbdeobghoglaa.Nu
set_option linter.unusedVariables false
set_option linter.unusedSimpArgs false
set_option linter.defProp false
set_option maxRecDepth 20000
set_option maxHeartbeats 1000000

/-- A piece of a network: its bytes, how long, its delay. -/
abbrev Nt := Int × Tim × Tim
def ntC (x : Nt) : List Value := [.int .i64 x.1, .int .i64 x.2.1.1, .int .i64 x.2.1.2, .int .i64 x.2.2.1, .int .i64 x.2.2.2]
theorem ntC_len (x : Nt) : (ntC x).length = 5 := rfl
def NV (x : Nt) : Prop := VT x.2.1 ∧ VT x.2.2
instance (x : Nt) : Decidable (NV x) := by unfold NV; infer_instance
def nNV (x : Nt) : Bool := !decide (NV x)
def GE (t : Tim) (k : Int) : Prop := WH t ∧ k ≤ t.1
instance (t : Tim) (k : Int) : Decidable (GE t k) := by unfold GE; infer_instance
def NR (x : Nt) : Prop := (0 ≤ x.1 ∧ x.1 ≤ 1000000000) ∧ GE x.2.1 1 ∧ GE x.2.2 0
instance (x : Nt) : Decidable (NR x) := by unfold NR; infer_instance
def neT (net : List Nt) (t : Tim) (size : Int) : Int := if VT t ∧ (∀ x ∈ net, NV x) then (if ((0 ≤ size ∧ size ≤ 1048576) ∧ net.length ≤ 100 ∧ GE t 0) ∧ (∀ x ∈ net, NR x) then 0 else 1) else 4
theorem ok1 : okF Try.prog 63 = true := by kernel_rfl
theorem ok2 : okF Try.prog 65 = true := by kernel_rfl
theorem ok3 : okF Try.prog 66 = true := by kernel_rfl
theorem c_cn1 {h : Hp} {x : Tim} : ACalls Try.prog 63 [.agg #[.int .i64 x.1, .int .i64 x.2]] h fun v h' => v = .bool (decide (VT x)) ∧ Fm No h h' := by
  refine stream_checkNet_1_ok.snd Af.hm rfl fun w => ?_
  rw [WF_eq, stream_checkNet_1]
  obtain ⟨h0, e0⟩ : ∃ g, h.new ⟨[.int .i64 x.1, .int .i64 x.2], .own⟩ = g := ⟨_, rfl⟩
  have f0 : Fm No h h0 := e0 ▸ Fm.new Fm.refl
  have g0 : h0.get h.size = some ⟨[.int .i64 x.1, .int .i64 x.2], .own⟩ := e0 ▸ gnew
  have n0 : h0.rdN h.size 0 2 = some [.int .i64 x.1, .int .i64 x.2] := rdN_mk g0 (by simp)
  simp +contextual (disch := omega) only [↓AM, ↓AV, AP, CQ, e0, n0]
  refine (c_Valid (x := x)).use ?_
  rintro _ h1 w1 ⟨rfl, f1⟩
  simp +contextual (disch := omega) only [↓AM, ↓AV, AP, CQ, e0]
  exact f0.trans f1 fun _ _ f => f
theorem c_cn2 {h : Hp} {bc : Nat} {x : Nt} (hc : h.get bc = some ⟨[.func (.func 63) #[] #[]], .own⟩) : ACalls Try.prog 65 [.agg (ntC x).toArray, .pointer (some ⟨bc, 0, none⟩)] h fun v h' => v = .bool (nNV x) ∧ Fm No h h' := by
  refine stream_checkNet_2_ok.snd Af.hm rfl fun w => ?_
  rw [WF_eq, stream_checkNet_2]
  obtain ⟨b, ⟨f1, f2⟩, ⟨d1, d2⟩⟩ := x
  simp only [ntC]
  obtain ⟨h0, e0⟩ : ∃ g, h.new ⟨[.int .i64 b, .int .i64 f1, .int .i64 f2, .int .i64 d1, .int .i64 d2], .own⟩ = g := ⟨_, rfl⟩
  have w0 : Wf h0 := e0 ▸ w.new
  have fm0 : Fm No h h0 := e0 ▸ Fm.new Fm.refl
  have g0 : h0.get h.size = some ⟨[.int .i64 b, .int .i64 f1, .int .i64 f2, .int .i64 d1, .int .i64 d2], .own⟩ := e0 ▸ gnew
  have rds : ∀ g : Hp, Fm No h0 g → g.rdN h.size 1 2 = some [.int .i64 f1, .int .i64 f2] ∧ g.rdN h.size 3 2 = some [.int .i64 d1, .int .i64 d2] ∧ g.rd bc 0 = some (.func (.func 63) #[] #[]) := fun g fg => ⟨rdN_mk (fg.keep w0 g0 (fun f => f)) (by simp), rdN_mk (fg.keep w0 g0 (fun f => f)) (by simp), rd_mk (fg.keep w0 (fm0.keep w hc (fun f => f)) (fun f => f))⟩
  obtain ⟨n1, n2, n3⟩ := rds h0 Fm.refl
  simp +contextual (disch := omega) only [↓AM, ↓AV, AP, CQ, e0, n1, n2, n3]
  refine ⟨ok1, (c_cn1 (x := (f1, f2))).use ?_⟩
  rintro _ h1 w1 ⟨rfl, fm1⟩
  obtain ⟨n4, n5, n6⟩ := rds h1 fm1
  by_cases hv1 : VT (f1, f2)
  case neg =>
    simp +contextual (disch := omega) only [↓AM, ↓AV, AP, CQ, e0, hv1, n4, n5, n6]
    exact ⟨by unfold nNV; rw [decide_eq_false (fun q : NV (b, (f1, f2), (d1, d2)) => hv1 q.1)]; rfl, fm0.trans fm1 fun _ _ f => f⟩
  simp +contextual (disch := omega) only [↓AM, ↓AV, AP, CQ, e0, hv1, n4, n5, n6]
  refine ⟨ok1, (c_cn1 (x := (d1, d2))).use ?_⟩
  rintro _ h2 w2 ⟨rfl, fm2⟩
  have e : nNV (b, (f1, f2), (d1, d2)) = !decide (VT (d1, d2)) := by
    unfold nNV
    congr 1
    exact decide_eq_decide.2 ⟨fun q => q.2, fun q => ⟨hv1, q⟩⟩
  rw [e]
  by_cases hv2 : VT (d1, d2)
  · simp +contextual (disch := omega) only [↓AM, ↓AV, AP, CQ, e0, hv2]
    exact (fm0.trans fm1 fun _ _ f => f).trans fm2 fun _ _ f => f
  · simp +contextual (disch := omega) only [↓AM, ↓AV, AP, CQ, e0, hv2]
    exact (fm0.trans fm1 fun _ _ f => f).trans fm2 fun _ _ f => f
theorem c_cn3 {h : Hp} {t : Tim} {k : Int} (hv : VT t) : ACalls Try.prog 66 [.agg #[.int .i64 t.1, .int .i64 t.2], .int .i64 k] h fun v h' => v = .bool (decide (GE t k)) ∧ Fm No h h' := by
  refine stream_checkNet_3_ok.snd Af.hm rfl fun w => ?_
  rw [WF_eq, stream_checkNet_3]
  obtain ⟨h0, e0⟩ : ∃ g, h.new ⟨[.int .i64 t.1, .int .i64 t.2], .own⟩ = g := ⟨_, rfl⟩
  have w0 : Wf h0 := e0 ▸ w.new
  have f0 : Fm No h h0 := e0 ▸ Fm.new Fm.refl
  have g0 : h0.get h.size = some ⟨[.int .i64 t.1, .int .i64 t.2], .own⟩ := e0 ▸ gnew
  have n0 : h0.rdN h.size 0 2 = some [.int .i64 t.1, .int .i64 t.2] := rdN_mk g0 (by simp)
  simp +contextual (disch := omega) only [↓AM, ↓AV, AP, CQ, e0, n0]
  refine (c_micros hv).use ?_
  rintro _ h1 w1 ⟨b, rfl, -, -, f1⟩
  have r1 : h1.rd h.size 0 = some (.int .i64 t.1) := rd_mk (f1.keep w0 g0 (fun f => f))
  have f01 := f0.trans f1 fun _ _ f => f
  by_cases hw : WH t
  · have e : decide (GE t k) = decide (k ≤ t.1) := decide_eq_decide.2 ⟨fun q => q.2, fun q => ⟨hw, q⟩⟩
    rw [e]
    simp +contextual (disch := omega) only [↓AM, ↓AV, AP, CQ, e0, hw, r1]
    exact f01
  · have e : decide (GE t k) = false := decide_eq_false fun q => hw q.1
    rw [e]
    simp +contextual (disch := omega) only [↓AM, ↓AV, AP, CQ, e0, hw, r1]
    exact f01
theorem c_IndexNet {h : Hp} {a : Option Addr} {n c f : Nat} {us vs : Array Value} {xs : List Nt} {p : Nt → Bool} (ha : Rd h 5 a n (xs.flatMap ntC)) (hl : xs.length = n) (hn : n ≤ 140737488351232) (hf : okF Try.prog f = true)
    (hp : ∀ x ∈ xs, ∀ h1, Fm No h h1 → ACalls Try.prog f (us.toList ++ [.agg (ntC x).toArray] ++ vs.toList) h1 fun v h' => v = .bool (p x) ∧ Fm No h1 h') :
    ACalls Try.prog 105 [.slice a n c, .func (.func f) us vs] h fun v h' => (∃ i : Int, v = .int .i64 i ∧ decide (0 ≤ i) = xs.any p) ∧ Fm No h h' := by
  refine slices_IndexFunc___api_Net_api_Net__ok.snd hm rfl fun w => ?_
  rw [WF_eq, slices_IndexFunc___api_Net_api_Net_]
  simp +contextual only [↓AM, ↓AV, AP]
  refine WL.mk (fun k t h' => Wf h' ∧ Fm No h h' ∧ ∃ i : Nat, i ≤ n ∧ k = n - i ∧ (xs.take i).any p = false ∧ t = [(0, some (.slice a n c)), (1, some (.func (.func f) us vs)), (7, some (.int .i64 n)), (8, some (.int .i64 i))]) ⟨n, w, Fm.refl, 0, by simp, rfl, rfl, rfl⟩ ?_
  rintro k t h1 ⟨w1, fm, i, hi, rfl, hall, rfl⟩
  by_cases hin : i < n
  · obtain ⟨b1, o1, s1, u, rfl, f1, hu, r1, -⟩ := (ha.keep w fm (fun x _ => id)).elem ntC_len hl hin
    simp only [ntC] at r1
    simp +contextual only [↓AM, ↓AV, AP, f1, r1, hin]
    refine ⟨hf, (hp u (List.mem_of_getElem? hu) _ fm).use ?_⟩
    rintro _ h2 w2 ⟨rfl, fm2⟩
    have fm' := fm.trans fm2 (fun _ _ x => x)
    simp +contextual only [↓AM, ↓AV, AP]
    refine ⟨fun hpu => ⟨⟨_, rfl, ?_⟩, fm'⟩, fun hpu => ⟨_, ?_, w2, fm', i + 1, hin, rfl, ?_, ?_⟩⟩
    · have : xs.any p = true := List.any_eq_true.2 ⟨u, List.mem_of_getElem? hu, hpu⟩
      rw [this]; simp
    · omega
    · rw [List.take_add_one, hu]; simp [hall, hpu]
    · rw [i64 (by omega)]; rfl
  · simp +contextual only [↓AM, ↓AV, AP, hin]
    rw [List.take_of_length_le (by omega)] at hall
    exact ⟨⟨_, rfl, by rw [hall]; rfl⟩, fm⟩
theorem c_ContainsNet {h : Hp} {a : Option Addr} {n c f : Nat} {us vs : Array Value} {xs : List Nt} {p : Nt → Bool} (ha : Rd h 5 a n (xs.flatMap ntC)) (hl : xs.length = n) (hn : n ≤ 140737488351232) (hf : okF Try.prog f = true)
    (hp : ∀ x ∈ xs, ∀ h1, Fm No h h1 → ACalls Try.prog f (us.toList ++ [.agg (ntC x).toArray] ++ vs.toList) h1 fun v h' => v = .bool (p x) ∧ Fm No h1 h') :
    ACalls Try.prog 64 [.slice a n c, .func (.func f) us vs] h fun v h' => v = .bool (xs.any p) ∧ Fm No h h' := by
  refine slices_ContainsFunc___api_Net_api_Net__ok.snd hm rfl fun w => ?_
  rw [WF_eq, slices_ContainsFunc___api_Net_api_Net_]
  simp +contextual only [↓AM, ↓AV, AP]
  refine (c_IndexNet ha hl hn hf hp).use ?_
  rintro _ _ w1 ⟨⟨i, rfl, hi⟩, fm⟩
  simp +contextual only [↓AM, ↓AV, AP, hi]
  exact fm
theorem c_checkNet {h : Hp} {oa : Option Addr} {c : Nat} {net : List Nt} {t : Tim} {size : Int} (ha : Rd h 5 oa net.length (net.flatMap ntC)) (hn : net.length ≤ 120) :
    ACalls Try.prog 37 [.slice oa net.length c, .agg #[.int .i64 t.1, .int .i64 t.2], .int .i64 size] h fun v h' => v = .int .i64 (neT net t size) ∧ Fm No h h' := by
  refine stream_checkNet_ok.snd Af.hm rfl fun w => ?_
  rw [WF_eq, stream_checkNet]
  obtain ⟨h0, e0⟩ : ∃ g, h.new ⟨[.int .i64 t.1, .int .i64 t.2], .own⟩ = g := ⟨_, rfl⟩
  have w0 : Wf h0 := e0 ▸ w.new
  have f0 : Fm No h h0 := e0 ▸ Fm.new Fm.refl
  have g0 : h0.get h.size = some ⟨[.int .i64 t.1, .int .i64 t.2], .own⟩ := e0 ▸ gnew
  obtain ⟨h1, e1⟩ : ∃ g, h0.new ⟨[.nilFunc], .own⟩ = g := ⟨_, rfl⟩
  have w1 : Wf h1 := e1 ▸ w0.new
  have f1 : Fm No h0 h1 := e1 ▸ Fm.new Fm.refl
  have g1 : h1.get h0.size = some ⟨[.nilFunc], .own⟩ := e1 ▸ gnew
  obtain ⟨h2, e2⟩ : ∃ g, h1.put h0.size ⟨[.func (.func 63) #[] #[]], .own⟩ = g := ⟨_, rfl⟩
  have w2 : Wf h2 := e2 ▸ w1.put (w1.lt g1)
  have f12 : Fm (fun y => y = h0.size) h1 h2 := e2 ▸ Fm.put Fm.refl fun _ => rfl
  have g2 : h2.get h0.size = some ⟨[.func (.func 63) #[] #[]], .own⟩ := e2 ▸ gput
  have f02 : Fm No h0 h2 := f1.trans f12 fun x hx e => absurd e (by omega)
  have f2 : Fm No h h2 := f0.trans f02 fun _ _ f => f
  have e2' : h0.new ⟨[.func (.func 63) #[] #[]], .own⟩ = h2 := by rw [← e2, ← e1]; exact new_put.symm
  have gt2 : h2.get h.size = some ⟨[.int .i64 t.1, .int .i64 t.2], .own⟩ := f02.keep w0 g0 (fun f => f)
  have rds : ∀ g : Hp, Fm No h2 g → g.rdN h.size 0 2 = some [.int .i64 t.1, .int .i64 t.2] ∧ g.rd h0.size 0 = some (.func (.func 63) #[] #[]) := fun g fg => ⟨rdN_mk (fg.keep w2 gt2 (fun f => f)) (by simp), rd_mk (fg.keep w2 g2 (fun f => f))⟩
  obtain ⟨n0, c0⟩ := rds h2 Fm.refl
  have ef : cellsOf (Value.func (.func 63) #[] #[]) = [.func (.func 63) #[] #[]] := rfl
  have ef2 : spl [Value.nilFunc] 0 [.func (.func 63) #[] #[]] = [.func (.func 63) #[] #[]] := rfl
  have ef3 : lenIs [Value.func (.func 63) #[] #[]] 1 = true := rfl
  simp +contextual (disch := omega) only [↓AM, ↓AV, AP, CQ, e0, e1, g1, ef, ef2, ef3, e2, e2', n0, c0]
  refine ⟨rfl, ok1, (c_cn1 (x := t)).use ?_⟩
  rintro _ h3 w3 ⟨rfl, f3⟩
  obtain ⟨n0, c0⟩ := rds h3 f3
  have fh3 := f2.trans f3 fun _ _ f => f
  by_cases hv : VT t
  case neg =>
    simp +contextual (disch := omega) only [↓AM, ↓AV, AP, CQ, e0, hv, n0, c0]
    exact ⟨by unfold neT; rw [if_neg (fun q => hv q.1)], fh3⟩
  simp +contextual (disch := omega) only [↓AM, ↓AV, AP, CQ, e0, hv, n0, c0]
  refine (c_ContainsNet (p := nNV) (ha.keepW w fh3 nNo) rfl (by omega) ok2 ?_).use ?_
  · intro x _ g fg
    exact c_cn2 (fg.keep w3 (f3.keep w2 g2 (fun f => f)) (fun f => f))
  rintro _ h4 w4 ⟨rfl, f4⟩
  have f24 := f3.trans f4 fun _ _ f => f
  have fh4 := f2.trans f24 fun _ _ f => f
  obtain ⟨n0, c0⟩ := rds h4 f24
  by_cases hany : net.any nNV = true
  · simp +contextual (disch := omega) only [↓AM, ↓AV, AP, CQ, e0, hany, n0, c0]
    refine ⟨?_, fh4⟩
    unfold neT
    rw [if_neg]
    rintro ⟨-, q⟩
    obtain ⟨x, hx, hx2⟩ := List.any_eq_true.1 hany
    unfold nNV at hx2
    rw [decide_eq_true (q x hx)] at hx2
    cases hx2
  have hany : net.any nNV = false := by simpa using hany
  have hall : ∀ x ∈ net, NV x := fun x hx => by
    have := List.any_eq_false.1 hany x hx
    unfold nNV at this
    simpa using this
  have ene : neT net t size = if ((0 ≤ size ∧ size ≤ 1048576) ∧ net.length ≤ 100 ∧ GE t 0) ∧ (∀ x ∈ net, NR x) then 0 else 1 := by unfold neT; rw [if_pos ⟨hv, hall⟩]
  simp +contextual (disch := omega) only [↓AM, ↓AV, AP, CQ, e0, hany, n0, c0]
  refine c_within.use ?_
  rintro _ h4 _ ⟨rfl, rfl⟩
  by_cases hs : 0 ≤ size ∧ size ≤ 1048576
  case neg =>
    simp +contextual (disch := omega) only [↓AM, ↓AV, AP, CQ, e0, hs, n0, c0]
    exact ⟨by rw [ene, if_neg (fun q => hs q.1.1)], fh4⟩
  by_cases hn2 : (100 : Int) < (net.length : Int)
  · simp +contextual (disch := omega) only [↓AM, ↓AV, AP, CQ, e0, hs, n0, c0, hn2]
    exact ⟨by rw [ene, if_neg (fun q => by omega)], fh4⟩
  simp +contextual (disch := omega) only [↓AM, ↓AV, AP, CQ, e0, hs, n0, c0, hn2]
  refine ⟨ok3, (c_cn3 (k := 0) hv).use ?_⟩
  rintro _ h5 w5 ⟨rfl, f5⟩
  have fh5 := fh4.trans f5 fun _ _ f => f
  by_cases hw : GE t 0
  case neg =>
    simp +contextual (disch := omega) only [↓AM, ↓AV, AP, CQ, e0, hw]
    exact ⟨by rw [ene, if_neg (fun q => hw q.1.2.2)], fh5⟩
  simp +contextual (disch := omega) only [↓AM, ↓AV, AP, CQ, e0, hw]
  refine WL.mk (fun k u h' => ∃ i : Nat, Wf h' ∧ Fm No h h' ∧ i ≤ net.length ∧ k = net.length - i ∧ (∀ x ∈ net.take i, NR x) ∧ u = [(8, some (.func (.func 66) #[] #[])), (34, some (.slice oa net.length c)), (35, some (.int .i64 (net.length : Int))), (36, some (.int .i64 (i : Int)))]) ⟨net.length, 0, w5, fh5, by omega, rfl, by simp, rfl⟩ ?_
  rintro k u h6 ⟨i, w6, f6, hi, rfl, hall2, rfl⟩
  by_cases hin : i < net.length
  · obtain ⟨b1, o1, s1, x, rfl, p1, hx, r1, -⟩ := (ha.keepW w f6 nNo).elem ntC_len rfl hin
    have hxm := List.mem_of_getElem? hx
    obtain ⟨hx1, hx2⟩ := hall x hxm
    obtain ⟨b, ⟨x1, x2⟩, ⟨d1, d2⟩⟩ := x
    simp only [ntC] at r1
    obtain ⟨h7, e7⟩ : ∃ g, h6.new ⟨[.int .i64 b, .int .i64 x1, .int .i64 x2, .int .i64 d1, .int .i64 d2], .own⟩ = g := ⟨_, rfl⟩
    have w7 : Wf h7 := e7 ▸ w6.new
    have f7 : Fm No h6 h7 := e7 ▸ Fm.new Fm.refl
    have g7 : h7.get h6.size = some ⟨[.int .i64 b, .int .i64 x1, .int .i64 x2, .int .i64 d1, .int .i64 d2], .own⟩ := e7 ▸ gnew
    have e7z : ∀ cs, (h6.new ⟨[.int .i64 0, .int .i64 0, .int .i64 0, .int .i64 0, .int .i64 0], .own⟩).put h6.size ⟨cs, .own⟩ = h6.new ⟨cs, .own⟩ := fun cs => new_put
    have fh7 := f6.trans f7 fun _ _ f => f
    have rds7 : ∀ g : Hp, Fm No h7 g → (∀ i, g.rd h6.size i = ([.int .i64 b, .int .i64 x1, .int .i64 x2, .int .i64 d1, .int .i64 d2] : List Value)[i]?) ∧ g.rdN h6.size 1 2 = some [.int .i64 x1, .int .i64 x2] ∧ g.rdN h6.size 3 2 = some [.int .i64 d1, .int .i64 d2] := fun g fg => ⟨fun i => rd_mk (fg.keep w7 g7 (fun f => f)), rdN_mk (fg.keep w7 g7 (fun f => f)) (by simp), rdN_mk (fg.keep w7 g7 (fun f => f)) (by simp)⟩
    obtain ⟨a1, a2, a3⟩ := rds7 h7 Fm.refl
    simp +contextual (disch := omega) only [↓AM, ↓AV, AP, CQ, e0, hin, p1, r1, e7z, e7, a1, a2, a3]
    refine c_within.use ?_
    rintro _ h7 _ ⟨rfl, rfl⟩
    by_cases q1 : 0 ≤ b ∧ b ≤ 1000000000
    case neg =>
      simp +contextual (disch := omega) only [↓AM, ↓AV, AP, CQ, e0, q1, a1, a2, a3]
      exact ⟨by rw [ene, if_neg (fun q => q1 (q.2 _ hxm).1)], fh7⟩
    simp +contextual (disch := omega) only [↓AM, ↓AV, AP, CQ, e0, q1, a1, a2, a3]
    refine ⟨ok3, (c_cn3 (t := (x1, x2)) (k := 1) hx1).use ?_⟩
    rintro _ h8 w8 ⟨rfl, f8⟩
    obtain ⟨a1, a2, a3⟩ := rds7 h8 f8
    have fh8 := fh7.trans f8 fun _ _ f => f
    by_cases q2 : GE (x1, x2) 1
    case neg =>
      simp +contextual (disch := omega) only [↓AM, ↓AV, AP, CQ, e0, q2, a1, a2, a3]
      exact ⟨by rw [ene, if_neg (fun q => q2 (q.2 _ hxm).2.1)], fh8⟩
    simp +contextual (disch := omega) only [↓AM, ↓AV, AP, CQ, e0, q2, a1, a2, a3]
    refine ⟨ok3, (c_cn3 (t := (d1, d2)) (k := 0) hx2).use ?_⟩
    rintro _ h9 w9 ⟨rfl, f9⟩
    have fh9 := fh8.trans f9 fun _ _ f => f
    by_cases q3 : GE (d1, d2) 0
    case neg =>
      simp +contextual (disch := omega) only [↓AM, ↓AV, AP, CQ, e0, q3]
      exact ⟨by rw [ene, if_neg (fun q => q3 (q.2 _ hxm).2.2)], fh9⟩
    simp +contextual (disch := omega) only [↓AM, ↓AV, AP, CQ, e0, q3, i64]
    refine ⟨_, ?_, i + 1, w9, fh9, by omega, rfl, ?_, rfl⟩
    · omega
    · rw [List.take_add_one, hx]
      intro y hy
      rcases List.mem_append.1 hy with hy | hy
      · exact hall2 y hy
      · have : y = (b, (x1, x2), (d1, d2)) := by simpa using hy
        rw [this]; exact ⟨q1, q2, q3⟩
  · rw [List.take_of_length_le (by omega)] at hall2
    simp +contextual (disch := omega) only [↓AM, ↓AV, AP, CQ, e0, hin]
    exact ⟨by rw [ene, if_pos ⟨⟨hs, by omega, hw⟩, hall2⟩], f6⟩
end Go.Proofs.Ytikbdeobghoglaa.St

/- The program's networks: millionths as a time. Plain theorems over the abstract machine.
   Conditions: none. -/
namespace Go.Proofs.Ytikbdeobghoglaa.St
open Go Go.RowKit Go.Proofs.Ytikbdeobghoglaa.Am Go.Proofs.Ytikbdeobghoglaa.Af Go.Proofs.Ytikbdeobghoglaa.Md Go.Proofs.Ytikbdeobghoglaa.Nu
set_option linter.unusedVariables false
set_option linter.unusedSimpArgs false
set_option linter.defProp false
set_option maxRecDepth 20000
set_option maxHeartbeats 1000000

/-- So many millionths as a time. -/
def mtN (z : Int) : Int := if fitT (lowN z 1000000) (lowD z 1000000) then lowN z 1000000 else 0
def mtD (z : Int) : Int := if fitT (lowN z 1000000) (lowD z 1000000) then (lowD z 1000000 : Int) else 0
def mtE (z : Int) : Int := if fitT (lowN z 1000000) (lowD z 1000000) then 0 else 2
theorem c_microTime {h : Hp} {bn : Nat} {z : Int} (n : IntAt h bn 0 z) (hz0 : 0 ≤ z) (hl : (dg z.natAbs).length ≤ 50000) :
    ACalls Try.prog 40 [.pointer (some ⟨bn, 0, none⟩)] h fun r h' => r = .tuple #[.agg #[.int .i64 (mtN z), .int .i64 (mtD z)], .int .i64 (mtE z)] ∧ Fm No h h' := by
  refine stream_microTime_ok.snd Af.hm rfl fun w => ?_
  rw [WF_eq, stream_microTime]
  obtain ⟨h0, e0⟩ : ∃ g, h.new ⟨[.int .i64 0, .int .i64 0], .own⟩ = g := ⟨_, rfl⟩
  have w0 : Wf h0 := e0 ▸ w.new
  have f0 : Fm No h h0 := e0 ▸ Fm.new Fm.refl
  have g0 : h0.get h.size = some ⟨[.int .i64 0, .int .i64 0], .own⟩ := e0 ▸ gnew
  have s0 : h0.size = h.size + 1 := by rw [← e0]; rfl
  obtain ⟨h1, e1⟩ : ∃ g, h0.new ⟨[.bool false, .slice none 0 0, .bool false, .slice none 0 0], .own⟩ = g := ⟨_, rfl⟩
  have w1 : Wf h1 := e1 ▸ w0.new
  have f1 : Fm No h0 h1 := e1 ▸ Fm.new Fm.refl
  have x1 : XAt h1 h0.size 2 := e1 ▸ x_new4
  have s1 : h1.size = h0.size + 1 := by rw [← e1]; rfl
  simp +contextual (disch := omega) only [↓AM, ↓AV, AP, CQ, CN, i64, e0, e1]
  refine (c_newI (v := 1000000) (by omega)).use ?_
  rintro _ h2 w2 ⟨b2, rfl, sb2, n2, f2⟩
  simp +contextual (disch := omega) only [↓AM, ↓AV, AP, CQ, CN, i64, e0, e1]
  have n1 := ((n.keep w f0).keep w0 f1).keep w1 f2
  refine (c_SetFracG (x1.keep w1 f2) n1 n2 hl (by decide) (Nat.le_trans (dg_len (k := 1) (by decide)) (by decide))).use ?_
  rintro _ h3 w3 ⟨rfl, wr3, q3⟩
  obtain ⟨zn, rfl⟩ : ∃ zn : Nat, z = (zn : Int) := ⟨z.natAbs, by omega⟩
  have ez : ((zn : Nat) : Int).natAbs = zn := by omega
  have eN : ((zn : Nat) : Int) / ((Nat.gcd ((zn : Nat) : Int).natAbs 1000000 : Nat) : Int) = lowN zn 1000000 := rfl
  have eD : 1000000 / Nat.gcd ((zn : Nat) : Int).natAbs 1000000 = lowD zn 1000000 := rfl
  rw [eN, eD] at q3
  have pn : lowN zn 1000000 = ((zn / Nat.gcd zn 1000000 : Nat) : Int) := by unfold lowN; rw [ez]; rfl
  have dp : 0 < lowD (zn : Int) 1000000 := low_pos (by decide)
  have dl : lowD (zn : Int) 1000000 ≤ 1000000 := by unfold lowD; exact Nat.div_le_self _ _
  have nl : (lowN zn 1000000).natAbs ≤ zn := by rw [pn, nab]; exact Nat.div_le_self _ _
  have np : 0 ≤ lowN zn 1000000 := by rw [pn]; exact Int.natCast_nonneg _
  have e3 : h3.get h.size = some ⟨[.int .i64 0, .int .i64 0], .own⟩ := wr3.fm.keep w2 (f2.keep w1 (f1.keep w0 g0 (fun f => f)) (fun f => f)) (by omega)
  have fm3 : Fm No h h3 := by
    have a1 : Fm No h h2 := (f0.trans f1 fun _ _ f => f).trans f2 fun _ _ f => f
    exact (a1.mono (fun _ _ f => f.elim) |>.trans wr3.fm fun _ _ f => f : Fm (fun y => y = h0.size) h h3).mono fun x hx f => by exfalso; omega
  have lt3 : h.size < h3.size := w3.lt e3
  have put : ∀ (g3 : Hp), Wf g3 → Fm No h3 g3 → ∀ cs : List Value, ∃ g, g3.put h.size ⟨cs, .own⟩ = g ∧ g.get h.size = some ⟨cs, .own⟩ ∧ Fm No h g := fun g3 wg fg cs =>
    ⟨_, rfl, gput, ((fm3.trans fg fun _ _ f => f).trans (Fm.put (Fm.refl (F := fun x => x = h.size)) fun _ => rfl) fun x hx e => absurd e (by omega))⟩
  simp +contextual (disch := omega) only [↓AM, ↓AV, AP, CQ, CN, i64, e0, e1]
  refine c_Num.use ?_
  rintro _ h3 _ ⟨rfl, rfl⟩
  simp +contextual (disch := omega) only [↓AM, ↓AV, AP, CQ, CN, i64, e0, e1]
  refine (c_IsInt64 q3.1 (Nat.le_trans (dg_mono nl) (by rw [ez] at hl; omega))).use ?_
  rintro _ h3 _ ⟨rfl, rfl⟩
  by_cases hi : -9223372036854775808 ≤ lowN zn 1000000 ∧ lowN zn 1000000 ≤ 9223372036854775807
  case neg =>
    have hf : ¬ fitT (lowN zn 1000000) (lowD zn 1000000) := fun q => by have := q.1; omega
    obtain ⟨g, eg, gg, fg⟩ := put h3 w3 Fm.refl [.int .i64 0, .int .i64 0]
    have rg : g.rdN h.size 0 2 = some [.int .i64 0, .int .i64 0] := rdN_mk gg (by simp)
    simp +contextual (disch := omega) only [↓AM, ↓AV, AP, CQ, CN, i64, e0, e1, hi, e3, eg, rg]
    unfold mtN mtD mtE
    rw [if_neg hf, if_neg hf, if_neg hf]
    exact ⟨rfl, fg⟩
  simp +contextual (disch := omega) only [↓AM, ↓AV, AP, CQ, CN, i64, e0, e1, hi]
  refine c_Num.use ?_
  rintro _ h3 _ ⟨rfl, rfl⟩
  simp +contextual (disch := omega) only [↓AM, ↓AV, AP, CQ, CN, i64, e0, e1]
  refine (c_Int64G q3.1 (by omega)).use ?_
  rintro _ h3 _ ⟨rfl, rfl⟩
  simp +contextual (disch := omega) only [↓AM, ↓AV, AP, CQ, CN, i64, e0, e1]
  have qr : RatAt h3 h0.size (zn / Nat.gcd zn 1000000) (lowD (zn : Int) 1000000) := ⟨IntAt.nat (by rw [← pn]; exact q3.1), q3.2⟩
  refine (c_Denom qr dp).use ?_
  rintro _ h3 _ ⟨rfl, rfl⟩
  simp +contextual (disch := omega) only [↓AM, ↓AV, AP, CQ, CN, i64, e0, e1]
  refine (c_Int64G q3.2.int (by omega)).use ?_
  rintro _ h3 _ ⟨rfl, rfl⟩
  obtain ⟨h4, e4⟩ : ∃ g, h3.new ⟨[.int .i64 (lowN zn 1000000), .int .i64 ((lowD (zn : Int) 1000000 : Nat) : Int)], .own⟩ = g := ⟨_, rfl⟩
  have w4 : Wf h4 := e4 ▸ w3.new
  have f4 : Fm No h3 h4 := e4 ▸ Fm.new Fm.refl
  have g4 : h4.get h3.size = some ⟨[.int .i64 (lowN zn 1000000), .int .i64 ((lowD (zn : Int) 1000000 : Nat) : Int)], .own⟩ := e4 ▸ gnew
  have e4z : (h3.new ⟨[.int .i64 0, .int .i64 0], .own⟩).put h3.size ⟨[.int .i64 (lowN zn 1000000), .int .i64 ((lowD (zn : Int) 1000000 : Nat) : Int)], .own⟩ = h4 := by rw [← e4]; exact new_put
  have r4 : h4.rdN h3.size 0 2 = some [.int .i64 (lowN zn 1000000), .int .i64 ((lowD (zn : Int) 1000000 : Nat) : Int)] := rdN_mk g4 (by simp)
  simp +contextual (disch := omega) only [↓AM, ↓AV, AP, CQ, CN, i64, e0, e1, e4z, e4, r4]
  refine (c_Valid (x := (lowN zn 1000000, ((lowD (zn : Int) 1000000 : Nat) : Int)))).use ?_
  rintro _ h5 w5 ⟨rfl, f5⟩
  have r5 : h5.rdN h3.size 0 2 = some [.int .i64 (lowN zn 1000000), .int .i64 ((lowD (zn : Int) 1000000 : Nat) : Int)] := rdN_mk (f5.keep w4 g4 (fun f => f)) (by simp)
  have e5 : h5.get h.size = some ⟨[.int .i64 0, .int .i64 0], .own⟩ := f5.keep w4 (f4.keep w3 e3 (fun f => f)) (fun f => f)
  have f45 := f4.trans f5 fun _ _ f => f
  by_cases hf : fitT (lowN zn 1000000) (lowD zn 1000000)
  · have hv : VT (lowN zn 1000000, ((lowD (zn : Int) 1000000 : Nat) : Int)) := by
      obtain ⟨p, q⟩ := hf
      exact ⟨by simp only; omega, by simp only; omega, by simp only; omega, by simp only; omega⟩
    obtain ⟨g, eg, gg, fg⟩ := put h5 w5 f45 [.int .i64 (lowN zn 1000000), .int .i64 ((lowD (zn : Int) 1000000 : Nat) : Int)]
    have rg : g.rdN h.size 0 2 = some [.int .i64 (lowN zn 1000000), .int .i64 ((lowD (zn : Int) 1000000 : Nat) : Int)] := rdN_mk gg (by simp)
    simp +contextual (disch := omega) only [↓AM, ↓AV, AP, CQ, CN, i64, e0, e1, hv, r5, e5, eg, rg]
    unfold mtN mtD mtE
    rw [if_pos hf, if_pos hf, if_pos hf]
    exact ⟨rfl, fg⟩
  · have hv : ¬ VT (lowN zn 1000000, ((lowD (zn : Int) 1000000 : Nat) : Int)) := fun q => hf ⟨by have := q.2.2; simp only at this; omega, by have := q.2.1; simp only at this; omega⟩
    obtain ⟨g, eg, gg, fg⟩ := put h5 w5 f45 [.int .i64 0, .int .i64 0]
    have rg : g.rdN h.size 0 2 = some [.int .i64 0, .int .i64 0] := rdN_mk gg (by simp)
    simp +contextual (disch := omega) only [↓AM, ↓AV, AP, CQ, CN, i64, e0, e1, hv, r5, e5, eg, rg]
    unfold mtN mtD mtE
    rw [if_neg hf, if_neg hf, if_neg hf]
    exact ⟨rfl, fg⟩
end Go.Proofs.Ytikbdeobghoglaa.St

/- The program's networks: through the pieces. Plain theorems over the abstract machine.
   Conditions: none. -/
namespace Go.Proofs.Ytikbdeobghoglaa.St
open Go Go.RowKit Go.Proofs.Ytikbdeobghoglaa.Am Go.Proofs.Ytikbdeobghoglaa.Af Go.Proofs.Ytikbdeobghoglaa.Md Go.Proofs.Ytikbdeobghoglaa.Nu
set_option linter.unusedVariables false
set_option linter.unusedSimpArgs false
set_option linter.defProp false
set_option maxRecDepth 20000
set_option maxHeartbeats 1000000

theorem c_AddZ {h : Hp} {bx ox ba oa bb ob : Nat} {x y : Int} (xa : XAt h bx ox) (na : IntAt h ba oa x) (nb : IntAt h bb ob y) (hx : (dg x.natAbs).length ≤ 400000) (hy : (dg y.natAbs).length ≤ 400000) :
    ACalls Try.prog 72 [.pointer (some ⟨bx, ox, none⟩), .pointer (some ⟨ba, oa, none⟩), .pointer (some ⟨bb, ob, none⟩)] h fun r h' => r = .pointer (some ⟨bx, ox, none⟩) ∧ Wr (fun y => y = bx) h h' ∧ IntAt h' bx ox (x + y) := by
  refine (c_AddS xa na.sgn nb.sgn hx hy).mono ?_
  rintro r h' ⟨h1, h2, h3⟩
  rw [valS_int, valS_int] at h3
  exact ⟨h1, h2, h3⟩
/-- The time of pieces, in millionths. -/
def Sm : List Nt → Int
  | [] => 0
  | x :: r => mi x.2.1 + Sm r
theorem Sm_app (a b : List Nt) : Sm (a ++ b) = Sm a + Sm b := by
  induction a with
  | nil => simp [Sm]
  | cons x a ih => simp only [List.cons_append, Sm, ih]; omega
theorem mi_bd {t : Tim} (hv : VT t) : (mi t).natAbs ≤ 1152921504606846976000000 := by
  obtain ⟨t1, t2⟩ := t
  obtain ⟨v1, v2, v3, v4⟩ := hv
  unfold mi
  simp only at *
  rw [Int.natAbs_tdiv]
  refine Nat.le_trans (Nat.div_le_self (t1 * 1000000).natAbs t2.natAbs) ?_
  omega
theorem Sm_bd : ∀ (l : List Nt), (∀ x ∈ l, NV x) → (Sm l).natAbs ≤ l.length * 1152921504606846976000000
  | [], _ => by simp [Sm]
  | x :: r, h => by
    have h1 := mi_bd (h x (by simp)).1
    have h2 := Sm_bd r fun y hy => h y (by simp [hy])
    simp only [Sm, List.length_cons, Nat.succ_mul]
    omega
theorem dg4 {z : Int} (h : z.natAbs ≤ 200 * 1152921504606846976000000) : (dg z.natAbs).length ≤ 400000 := Nat.le_trans (dg18 (by omega)) (by decide)
theorem Sm_dg {l : List Nt} (h : ∀ x ∈ l, NV x) (hn : l.length ≤ 100) : (Sm l).natAbs ≤ 100 * 1152921504606846976000000 := by
  have := Sm_bd l h
  exact Nat.le_trans this (Nat.mul_le_mul_right _ hn)
theorem c_walk {hq h : Hp} {bc c f : Nat} {oa : Option Addr} {net : List Nt} {vs : Array Value} {G : Nat → Prop} {Inv : Nat → Hp → Prop} {Post : Hp → Prop}
    (hc : h.get bc = some ⟨[.slice oa net.length c], .own⟩) (wq : Wf hq) (ha : Rd hq 5 oa net.length (net.flatMap ntC)) (fq : Fm No hq h) (hn : net.length ≤ 100) (hv : ∀ x ∈ net, NV x) (hf : okF Try.prog f = true)
    (hG : ∀ x, G x → x < h.size) (hGc : ¬ G bc) (hGn : ∀ x, G x → hq.size ≤ x) (hSF : ∀ i g, Inv i g → SF g G)
    (hk : ∀ i g g', Wf g → Inv i g → Fm No g g' → Inv i g') (h0 : Inv 0 h)
    (hs : ∀ i x g pf pt, net[i]? = some x → Wf g → h.size ≤ pf → h.size ≤ pt → Inv i g → IntAt g pf 0 (Sm (net.take i)) → IntAt g pt 0 (Sm (net.take (i + 1))) →
      ACalls Try.prog f ([.agg (ntC x).toArray, .pointer (some ⟨pf, 0, none⟩), .pointer (some ⟨pt, 0, none⟩)] ++ vs.toList) g fun r g' => Wr G g g' ∧ ((r = .bool true ∧ Inv (i + 1) g') ∨ (r = .bool false ∧ Post g'))) :
    ACalls Try.prog 71 [.func (.func f) #[] vs, .pointer (some ⟨bc, 0, none⟩)] h fun r h' => Wr G h h' ∧ (Post h' ∨ Inv net.length h') := by
  refine stream_transfer_1_ok.snd Af.hm rfl fun w => ?_
  rw [WF_eq, stream_transfer_1]
  obtain ⟨hA, eA⟩ : ∃ g, h.new ⟨[.bool false, .slice none 0 0], .own⟩ = g := ⟨_, rfl⟩
  have wA : Wf hA := eA ▸ w.new
  have fA : Fm No h hA := eA ▸ Fm.new Fm.refl
  have zA : IntAt hA h.size 0 0 := by
    rw [← eA]
    refine ⟨_, none, 0, gnew, st2, rfl, ?_, ?_⟩
    · rw [show dg (Int.natAbs 0) = [] from dig_0]; rfl
    · rw [show dg (Int.natAbs 0) = [] from dig_0]; exact ⟨Rd.mk0, Nat.le_refl _, fun d hd => by cases hd⟩
  have c0 : hA.rd bc 0 = some (.slice oa net.length c) := rd_mk (fA.keep w hc (fun f => f))
  simp +contextual (disch := omega) only [↓AM, ↓AV, AP, CQ, CN, i64, eA, c0]
  refine WL.mk (fun k t h' => ∃ i pf : Nat, i ≤ net.length ∧ k = net.length - i ∧ Wf h' ∧ Wr G h h' ∧ h.size ≤ pf ∧ IntAt h' pf 0 (Sm (net.take i)) ∧ Inv i h' ∧
    t = [(0, some (.func (.func f) #[] vs)), (3, some (.pointer (some ⟨pf, 0, none⟩))), (10, some (.slice oa net.length c)), (11, some (.int .i64 (net.length : Int))), (12, some (.int .i64 (i : Int)))])
    ⟨net.length, 0, h.size, by omega, rfl, wA, Wr.of w fA, Nat.le_refl _, zA, hk _ _ _ w h0 fA, rfl⟩ ?_
  rintro k t h1 ⟨i, pf, hi, rfl, w1, wr1, hpf, nf, inv, rfl⟩
  by_cases hin : i < net.length
  · have ha1 : Rd h1 5 oa net.length (net.flatMap ntC) := ha.keepW wq ((fq.mono (G := G) fun _ _ f => f.elim).trans wr1.fm fun _ _ f => f) fun x hx g => by have := hGn x g; omega
    obtain ⟨b1, o1, s1, x, rfl, p1, hx, r1, -⟩ := ha1.elem ntC_len rfl hin
    have hxm := List.mem_of_getElem? hx
    have hxv := hv x hxm
    have etk : Sm (net.take (i + 1)) = Sm (net.take i) + mi x.2.1 := by
      rw [List.take_add_one, hx, Sm_app]
      simp [Sm]
    obtain ⟨b, ⟨x1, x2⟩, ⟨d1, d2⟩⟩ := x
    simp only [ntC] at r1
    obtain ⟨h2, e2⟩ : ∃ g, h1.new ⟨[.int .i64 b, .int .i64 x1, .int .i64 x2, .int .i64 d1, .int .i64 d2], .own⟩ = g := ⟨_, rfl⟩
    have w2 : Wf h2 := e2 ▸ w1.new
    have f2 : Fm No h1 h2 := e2 ▸ Fm.new Fm.refl
    have g2 : h2.get h1.size = some ⟨[.int .i64 b, .int .i64 x1, .int .i64 x2, .int .i64 d1, .int .i64 d2], .own⟩ := e2 ▸ gnew
    have e2z : (h1.new ⟨[.int .i64 0, .int .i64 0, .int .i64 0, .int .i64 0, .int .i64 0], .own⟩).put h1.size ⟨[.int .i64 b, .int .i64 x1, .int .i64 x2, .int .i64 d1, .int .i64 d2], .own⟩ = h2 := by rw [← e2]; exact new_put
    have rds : ∀ g : Hp, Fm No h2 g → g.rdN h1.size 1 2 = some [.int .i64 x1, .int .i64 x2] ∧ g.rdN h1.size 0 5 = some [.int .i64 b, .int .i64 x1, .int .i64 x2, .int .i64 d1, .int .i64 d2] := fun g fg => ⟨rdN_mk (fg.keep w2 g2 (fun f => f)) (by simp), rdN_mk (fg.keep w2 g2 (fun f => f)) (by simp)⟩
    obtain ⟨n1, n2⟩ := rds h2 Fm.refl
    simp +contextual (disch := omega) only [↓AM, ↓AV, AP, CQ, CN, i64, hin, p1, r1, e2z, e2, n1, n2]
    refine (c_micros (t := (x1, x2)) hxv.1).use ?_
    rintro _ h3 w3 ⟨pl, rfl, spl', nl, f3⟩
    have nf3 := (nf.keep w1 f2).keep w2 f3
    obtain ⟨h4, e4⟩ : ∃ g, h3.new ⟨[.bool false, .slice none 0 0], .own⟩ = g := ⟨_, rfl⟩
    have w4 : Wf h4 := e4 ▸ w3.new
    have f4 : Fm No h3 h4 := e4 ▸ Fm.new Fm.refl
    have x4 : XAt h4 h3.size 0 := e4 ▸ x_new (by decide)
    have s4 : h4.size = h3.size + 1 := by rw [← e4]; rfl
    simp +contextual (disch := omega) only [↓AM, ↓AV, AP, CQ, CN, i64, e4]
    have bS := Sm_dg (l := net.take i) (fun y hy => hv y (List.mem_of_mem_take hy)) (by rw [List.length_take]; omega)
    have bM := mi_bd hxv.1
    refine (c_AddZ x4 (nf3.keep w3 f4) (nl.keep w3 f4) (dg4 (by omega)) (dg4 (by simp only at bM; omega))).use ?_
    rintro _ h5 w5 ⟨rfl, wr5, n5⟩
    have nlt : h1.size < h3.size := by
      have := f3.size
      have : h2.size = h1.size + 1 := by rw [← e2]; rfl
      omega
    have f15 : Fm No h1 h5 := by
      have a1 : Fm No h1 h4 := (f2.trans f3 fun _ _ f => f).trans f4 fun _ _ f => f
      exact (a1.mono (fun _ _ f => f.elim) |>.trans wr5.fm fun _ _ f => f : Fm (fun y => y = h3.size) h1 h5).mono fun x hx f => by exfalso; omega
    have f25 : Fm No h2 h5 := by
      have a1 : Fm No h2 h4 := f3.trans f4 fun _ _ f => f
      have := f3.size
      exact (a1.mono (fun _ _ f => f.elim) |>.trans wr5.fm fun _ _ f => f : Fm (fun y => y = h3.size) h2 h5).mono fun x hx f => by exfalso; omega
    obtain ⟨n1, n2⟩ := rds h5 f25
    have et : Sm (net.take i) + mi (x1, x2) = Sm (net.take (i + 1)) := etk.symm
    rw [et] at n5
    have s1h := wr1.fm.size
    simp +contextual (disch := omega) only [↓AM, ↓AV, AP, CQ, CN, i64, n1, n2]
    refine ⟨hf, (hs i (b, (x1, x2), (d1, d2)) h5 pf h3.size hx w5 hpf (by omega) (hk _ _ _ w1 inv f15) (nf.keep w1 f15) n5).use ?_⟩
    rintro r h6 w6 ⟨wr6, hor⟩
    have wr16 : Wr G h h6 := (wr1.trans w w1 (Wr.of (F := No) w1 f15) (fun _ _ f => f.elim)).trans w w5 wr6 fun _ _ f => f
    rcases hor with ⟨rfl, inv6⟩ | ⟨rfl, post⟩
    · simp +contextual (disch := omega) only [↓AM, ↓AV, AP, CQ, CN, i64]
      refine ⟨_, ?_, i + 1, h3.size, by omega, rfl, w6, wr16, by omega, ?_, inv6, rfl⟩
      · omega
      · exact n5.wr w5 wr6 (hSF i h5 (hk _ _ _ w1 inv f15)) (fun q => by have := hG _ q; omega)
    · simp +contextual (disch := omega) only [↓AM, ↓AV, AP, CQ, CN, i64]
      exact ⟨wr16, .inl post⟩
  · have : i = net.length := by omega
    subst this
    simp +contextual (disch := omega) only [↓AM, ↓AV, AP, CQ, CN, i64, hin]
    exact ⟨wr1, .inr inv⟩
end Go.Proofs.Ytikbdeobghoglaa.St

/- The program's networks: where a request falls. Plain theorems over the abstract machine.
   Conditions: none. -/
namespace Go.Proofs.Ytikbdeobghoglaa.St
open Go Go.RowKit Go.Proofs.Ytikbdeobghoglaa.Am Go.Proofs.Ytikbdeobghoglaa.Af Go.Proofs.Ytikbdeobghoglaa.Md Go.Proofs.Ytikbdeobghoglaa.Nu
set_option linter.unusedVariables false
set_option linter.unusedSimpArgs false
set_option linter.defProp false
set_option maxRecDepth 20000
set_option maxHeartbeats 1000000

/-- When a request begins to come: its time and the delay of the piece in which it falls. -/
def fnd : List Nt → Int → Int → Option Int
  | [], _, _ => none
  | x :: r, f, t => if f + mi x.2.1 ≤ t then fnd r (f + mi x.2.1) t else some (t + mi x.2.2)
theorem cmpZ_ge {a b : Int} : (0 ≤ cmpZ a b) = (b ≤ a) := by
  unfold cmpZ
  split
  · simp; omega
  · split <;> simp <;> omega
theorem st1p {oa : Option Addr} : St [.pointer oa] := by
  intro i k a
  rcases i with _ | i <;> simp
theorem wr_cell {h : Hp} {b : Nat} {p q : Option Addr} (w : Wf h) (hg : h.get b = some ⟨[.pointer p], .own⟩) : Wr (fun y => y = b) h (h.put b ⟨[.pointer q], .own⟩) :=
  ⟨Fm.put Fm.refl fun _ => rfl, by
    rintro _ cs rfl hg'
    rw [hg] at hg'
    cases hg'
    exact ⟨_, gput, rfl, fun _ => st1p⟩⟩
theorem c_find {h : Hp} {x : Nt} {pf pt ca cb ba : Nat} {t to : Int} (hv : NV x) (hca : h.get ca = some ⟨[.pointer (some ⟨ba, 0, none⟩)], .own⟩) (hcb : h.get cb = some ⟨[.pointer none], .own⟩) (na : IntAt h ba 0 t) (nt : IntAt h pt 0 to)
    (bt : t.natAbs ≤ 200 * 1152921504606846976000000) (bo : to.natAbs ≤ 200 * 1152921504606846976000000) :
    ACalls Try.prog 73 [.agg (ntC x).toArray, .pointer (some ⟨pf, 0, none⟩), .pointer (some ⟨pt, 0, none⟩), .pointer (some ⟨ca, 0, none⟩), .pointer (some ⟨cb, 0, none⟩)] h fun r h' =>
      Wr (fun y => y = cb) h h' ∧ ((r = .bool true ∧ to ≤ t ∧ Fm No h h') ∨ (r = .bool false ∧ ¬ to ≤ t ∧ ∃ bb, h'.get cb = some ⟨[.pointer (some ⟨bb, 0, none⟩)], .own⟩ ∧ IntAt h' bb 0 (t + mi x.2.2) ∧ h.size ≤ bb)) := by
  refine stream_transfer_2_ok.snd Af.hm rfl fun w => ?_
  rw [WF_eq, stream_transfer_2]
  obtain ⟨b, ⟨x1, x2⟩, ⟨d1, d2⟩⟩ := x
  simp only [ntC]
  obtain ⟨h0, e0⟩ : ∃ g, h.new ⟨[.int .i64 b, .int .i64 x1, .int .i64 x2, .int .i64 d1, .int .i64 d2], .own⟩ = g := ⟨_, rfl⟩
  have w0 : Wf h0 := e0 ▸ w.new
  have f0 : Fm No h h0 := e0 ▸ Fm.new Fm.refl
  have g0 : h0.get h.size = some ⟨[.int .i64 b, .int .i64 x1, .int .i64 x2, .int .i64 d1, .int .i64 d2], .own⟩ := e0 ▸ gnew
  have s0 : h0.size = h.size + 1 := by rw [← e0]; rfl
  have rds : ∀ g : Hp, Fm No h0 g → g.rdN h.size 3 2 = some [.int .i64 d1, .int .i64 d2] ∧ g.rd ca 0 = some (.pointer (some ⟨ba, 0, none⟩)) := fun g fg => ⟨rdN_mk (fg.keep w0 g0 (fun f => f)) (by simp), rd_mk (fg.keep w0 (f0.keep w hca (fun f => f)) (fun f => f))⟩
  obtain ⟨n1, n2⟩ := rds h0 Fm.refl
  simp +contextual (disch := omega) only [↓AM, ↓AV, AP, CQ, CN, i64, e0, n1, n2]
  refine (c_CmpS (na.keep w f0) (nt.keep w f0) (Nat.le_trans (dg4 bt) (by decide)) (Nat.le_trans (dg4 bo) (by decide))).use ?_
  rintro _ h0 _ ⟨rfl, rfl⟩
  by_cases hle : to ≤ t
  · have ec : (0 ≤ cmpZ t to) = True := by rw [cmpZ_ge]; exact eq_true hle
    simp +contextual (disch := omega) only [↓AM, ↓AV, AP, CQ, CN, i64, e0, n1, n2, ec]
    exact ⟨Wr.of w f0, .inl ⟨hle, f0⟩⟩
  have ec : (0 ≤ cmpZ t to) = False := by rw [cmpZ_ge]; exact eq_false hle
  simp +contextual (disch := omega) only [↓AM, ↓AV, AP, CQ, CN, i64, e0, n1, n2, ec]
  refine (c_micros (t := (d1, d2)) hv.2).use ?_
  rintro _ h1 w1 ⟨pl, rfl, spl', nl, f1⟩
  obtain ⟨h2, e2⟩ : ∃ g, h1.new ⟨[.bool false, .slice none 0 0], .own⟩ = g := ⟨_, rfl⟩
  have w2 : Wf h2 := e2 ▸ w1.new
  have f2 : Fm No h1 h2 := e2 ▸ Fm.new Fm.refl
  have x2' : XAt h2 h1.size 0 := e2 ▸ x_new (by decide)
  have f02 : Fm No h0 h2 := f1.trans f2 fun _ _ f => f
  obtain ⟨n1, n2⟩ := rds h2 f02
  simp +contextual (disch := omega) only [↓AM, ↓AV, AP, CQ, CN, i64, e0, e2, n1, n2]
  have bM := mi_bd hv.2
  refine (c_AddZ x2' ((na.keep w f0).keep w0 f02) (nl.keep w1 f2) (dg4 bt) (dg4 (by simp only at bM; omega))).use ?_
  rintro _ h3 w3 ⟨rfl, wr3, n3⟩
  have fh2 : Fm No h h2 := f0.trans f02 fun _ _ f => f
  have f3 : Fm No h h3 := by
    have := f1.size
    exact (fh2.mono (fun _ _ f => f.elim) |>.trans wr3.fm fun _ _ f => f : Fm (fun y => y = h1.size) h h3).mono fun x hx f => by exfalso; omega
  have gcb := f3.keep w hcb (fun f => f)
  have hlt := w.lt hcb
  have s1 := f1.size
  have wrc := wr_cell (q := some ⟨h1.size, 0, none⟩) w3 gcb
  obtain ⟨h4, e4⟩ : ∃ g, h3.put cb ⟨[.pointer (some ⟨h1.size, 0, none⟩)], .own⟩ = g := ⟨_, rfl⟩
  have g4 : h4.get cb = some ⟨[.pointer (some ⟨h1.size, 0, none⟩)], .own⟩ := e4 ▸ gput
  rw [e4] at wrc
  have n4 : IntAt h4 h1.size 0 (t + mi (d1, d2)) := n3.wr w3 wrc (by rintro y rfl _; exact ⟨_, gcb, st1p⟩) (by omega)
  simp +contextual (disch := omega) only [↓AM, ↓AV, AP, CQ, CN, i64, e0, e2, gcb, e4]
  exact ⟨(Wr.of (F := fun y => y = cb) w f3).trans w w3 wrc fun _ _ f => f, .inr ⟨hle, _, rfl, n4, by omega⟩⟩
end Go.Proofs.Ytikbdeobghoglaa.St

/- The program's networks: when a request is complete, piece by piece. Plain theorems over the abstract machine.
   Conditions: none. -/
namespace Go.Proofs.Ytikbdeobghoglaa.St
open Go Go.RowKit Go.Proofs.Ytikbdeobghoglaa.Am Go.Proofs.Ytikbdeobghoglaa.Af Go.Proofs.Ytikbdeobghoglaa.Md Go.Proofs.Ytikbdeobghoglaa.Nu
set_option linter.unusedVariables false
set_option linter.unusedSimpArgs false
set_option linter.defProp false
set_option maxRecDepth 20000
set_option maxHeartbeats 1000000

/-- Divided and rounded up, both above zero. -/
def cdv (a b : Int) : Int := a.tdiv b + (if 0 < a.tmod b then 1 else 0)
def mx (a b : Int) : Int := if a < b then b else a
/-- When a request is complete. -/
def ld : List Nt → Int → Int → Int → Option Int
  | [], _, _, _ => none
  | x :: r, f, b, left => if f + mi x.2.1 ≤ b ∨ x.1 = 0 then ld r (f + mi x.2.1) b left
    else if (f + mi x.2.1 - mx f b) * x.1 < left then ld r (f + mi x.2.1) b (left - (f + mi x.2.1 - mx f b) * x.1)
    else some (cdv left x.1 + mx f b)
theorem cmpZ_lt {a b : Int} : (cmpZ a b < 0) = (a < b) := by
  unfold cmpZ
  split
  · simp; omega
  · split <;> simp <;> omega
theorem sgnZ_gt {a : Int} : (0 < sgnZ a) = (0 < a) := by
  unfold sgnZ
  split
  · simp; omega
  · split <;> simp <;> omega
/-- What is left, and what is found, in memory. -/
structure Ls (g : Hp) (cb cl cd bb bl : Nat) (b L : Int) (d : Option Addr) : Prop where
  gb : g.get cb = some ⟨[.pointer (some ⟨bb, 0, none⟩)], .own⟩
  gl : g.get cl = some ⟨[.pointer (some ⟨bl, 0, none⟩)], .own⟩
  gd : g.get cd = some ⟨[.pointer d], .own⟩
  nb : IntAt g bb 0 b
  nl : IntAt g bl 0 L
theorem Ls.keep {g g' : Hp} {cb cl cd bb bl : Nat} {b L : Int} {d : Option Addr} (l : Ls g cb cl cd bb bl b L d) (w : Wf g) (fm : Fm No g g') : Ls g' cb cl cd bb bl b L d :=
  ⟨fm.keep w l.gb (fun f => f), fm.keep w l.gl (fun f => f), fm.keep w l.gd (fun f => f), l.nb.keep w fm, l.nl.keep w fm⟩
theorem wr_fresh {h h1 h2 : Hp} {b : Nat} (a : Fm No h h1) (r : Wr (fun y => y = b) h1 h2) (hb : h.size ≤ b) : Fm No h h2 :=
  (a.mono (fun _ _ f => f.elim) |>.trans r.fm fun _ _ f => f : Fm (fun y => y = b) h h2).mono fun x hx f => by exfalso; omega
theorem wr_fresh2 {h h1 h2 : Hp} {b c : Nat} (a : Fm No h h1) (r : Wr (fun y => y = b ∨ y = c) h1 h2) (hb : h.size ≤ b) (hc : h.size ≤ c) : Fm No h h2 :=
  (a.mono (fun _ _ f => f.elim) |>.trans r.fm fun _ _ f => f : Fm (fun y => y = b ∨ y = c) h h2).mono fun x hx f => by exfalso; omega
theorem c_load {h : Hp} {x : Nt} {pf pt cb cl cd bb bl : Nat} {f to b L : Int} (hv : NV x) (hr : 0 ≤ x.1 ∧ x.1 ≤ 1000000000) (ls : Ls h cb cl cd bb bl b L none) (n1 : bl ≠ bb) (n2 : bl ≠ pf) (n3 : cb ≠ cd ∧ cl ≠ cd ∧ bb ≠ cd ∧ bl ≠ cd ∧ cb ≠ bl ∧ cl ≠ bl) (nf : IntAt h pf 0 f) (nt : IntAt h pt 0 to)
    (bf : f.natAbs ≤ 100 * 1152921504606846976000000) (bo : to.natAbs ≤ 100 * 1152921504606846976000000) (bB : b.natAbs ≤ 2 * 1152921504606846976000000) (bL : 0 ≤ L ∧ L ≤ 1048576000000) :
    ACalls Try.prog 75 [.agg (ntC x).toArray, .pointer (some ⟨pf, 0, none⟩), .pointer (some ⟨pt, 0, none⟩), .pointer (some ⟨cb, 0, none⟩), .pointer (some ⟨cl, 0, none⟩), .pointer (some ⟨cd, 0, none⟩)] h fun r h' =>
      Wr (fun y => y = bl ∨ y = cd) h h' ∧ ((r = .bool true ∧ (to ≤ b ∨ x.1 = 0) ∧ Ls h' cb cl cd bb bl b L none) ∨
        (r = .bool true ∧ ¬ (to ≤ b ∨ x.1 = 0) ∧ (to - mx f b) * x.1 < L ∧ Ls h' cb cl cd bb bl b (L - (to - mx f b) * x.1) none) ∨
        (r = .bool false ∧ ¬ (to ≤ b ∨ x.1 = 0) ∧ ¬ (to - mx f b) * x.1 < L ∧ ∃ bd, h'.get cd = some ⟨[.pointer (some ⟨bd, 0, none⟩)], .own⟩ ∧ IntAt h' bd 0 (cdv L x.1 + mx f b))) := by
  refine stream_transfer_3_ok.snd Af.hm rfl fun w => ?_
  rw [WF_eq, stream_transfer_3]
  obtain ⟨y, ⟨x1, x2⟩, ⟨d1, d2⟩⟩ := x
  simp only [ntC]
  simp only at hr
  obtain ⟨h0, e0⟩ : ∃ g, h.new ⟨[.int .i64 y, .int .i64 x1, .int .i64 x2, .int .i64 d1, .int .i64 d2], .own⟩ = g := ⟨_, rfl⟩
  have w0 : Wf h0 := e0 ▸ w.new
  have f0 : Fm No h h0 := e0 ▸ Fm.new Fm.refl
  have g0 : h0.get h.size = some ⟨[.int .i64 y, .int .i64 x1, .int .i64 x2, .int .i64 d1, .int .i64 d2], .own⟩ := e0 ▸ gnew
  have s0 : h0.size = h.size + 1 := by rw [← e0]; rfl
  have ls0 := ls.keep w f0
  have nf0 := nf.keep w f0
  have nt0 := nt.keep w f0
  have ry : ∀ g : Hp, Fm No h0 g → g.rd h.size 0 = some (.int .i64 y) := fun g fg => rd_mk (fg.keep w0 g0 (fun f => f))
  have rb : ∀ g : Hp, Fm No h0 g → g.rd cb 0 = some (.pointer (some ⟨bb, 0, none⟩)) ∧ g.rd cl 0 = some (.pointer (some ⟨bl, 0, none⟩)) := fun g fg => ⟨rd_mk (ls0.keep w0 fg).gb, rd_mk (ls0.keep w0 fg).gl⟩
  have r0 := ry h0 Fm.refl
  obtain ⟨q1, q2⟩ := rb h0 Fm.refl
  have dB : (dg b.natAbs).length ≤ 400000 := dg4 (by omega)
  have dO : (dg to.natAbs).length ≤ 400000 := dg4 (by omega)
  have dF : (dg f.natAbs).length ≤ 400000 := dg4 (by omega)
  simp +contextual (disch := omega) only [↓AM, ↓AV, AP, CQ, CN, i64, e0, r0, q1, q2]
  refine (c_CmpS ls0.nb nt0 (by omega) (by omega)).use ?_
  rintro _ h0 _ ⟨rfl, rfl⟩
  by_cases hle : to ≤ b
  · have ec : (0 ≤ cmpZ b to) = True := by rw [cmpZ_ge]; exact eq_true hle
    simp +contextual (disch := omega) only [↓AM, ↓AV, AP, CQ, CN, i64, e0, r0, q1, q2, ec]
    exact ⟨Wr.of w f0, .inl ⟨.inl hle, ls0⟩⟩
  have ec : (0 ≤ cmpZ b to) = False := by rw [cmpZ_ge]; exact eq_false hle
  by_cases hy : y = 0
  · have ey : EqI y 0 = True := eq_true hy
    simp +contextual (disch := omega) only [↓AM, ↓AV, AP, CQ, CN, i64, e0, r0, q1, q2, ec, ey]
    exact ⟨Wr.of w f0, .inl ⟨.inr hy, ls0⟩⟩
  have ey : EqI y 0 = False := eq_false hy
  simp +contextual (disch := omega) only [↓AM, ↓AV, AP, CQ, CN, i64, e0, r0, q1, q2, ec, ey]
  refine (c_CmpS ls0.nb nf0 (by omega) (by omega)).use ?_
  rintro _ h0 _ ⟨rfl, rfl⟩
  have bP : (mx f b).natAbs ≤ 100 * 1152921504606846976000000 := by unfold mx; split <;> omega
  have dP : (dg (mx f b).natAbs).length ≤ 400000 := dg4 (by omega)
  have bS : (to - mx f b).natAbs ≤ 200 * 1152921504606846976000000 := by omega
  have bG : (dg ((to - mx f b) * y).natAbs).length ≤ 4 := by
    refine dg18 ?_
    rw [Int.natAbs_mul]
    have h1 : (to - mx f b).natAbs * y.natAbs ≤ (200 * 1152921504606846976000000) * 1000000000 := Nat.mul_le_mul bS (by omega)
    exact Nat.lt_of_le_of_lt h1 (by decide)
  have bL4 : (dg L.natAbs).length ≤ 4 := dg18 (by omega)
  by_cases hfb : f < b
  · have e2 : (0 < cmpZ b f) = True := by rw [cmpZ_gt]; exact eq_true hfb
    have np : IntAt h0 bb 0 (mx f b) := by unfold mx; rw [if_pos hfb]; exact ls0.nb
    simp +contextual (disch := omega) only [↓AM, ↓AV, AP, CQ, CN, i64, e0, r0, q1, q2, ec, ey, e2]
    refine (c_newIS (z := y) (by omega)).use ?_
    rintro _ h1 w1 ⟨b1, rfl, sb1, ny, f1⟩
    obtain ⟨h2, e2'⟩ : ∃ g, h1.new ⟨[.bool false, .slice none 0 0], .own⟩ = g := ⟨_, rfl⟩
    have w2 : Wf h2 := e2' ▸ w1.new
    have f2 : Fm No h1 h2 := e2' ▸ Fm.new Fm.refl
    have xg : XAt h2 h1.size 0 := e2' ▸ x_new (by decide)
    have s2 : h2.size = h1.size + 1 := by rw [← e2']; rfl
    obtain ⟨h3, e3⟩ : ∃ g, h2.new ⟨[.bool false, .slice none 0 0], .own⟩ = g := ⟨_, rfl⟩
    have w3 : Wf h3 := e3 ▸ w2.new
    have f3 : Fm No h2 h3 := e3 ▸ Fm.new Fm.refl
    have xs : XAt h3 h2.size 0 := e3 ▸ x_new (by decide)
    have s3 : h3.size = h2.size + 1 := by rw [← e3]; rfl
    have s1 := f1.size
    have f13 : Fm No h1 h3 := f2.trans f3 fun _ _ f => f
    have f03 : Fm No h0 h3 := f1.trans f13 fun _ _ f => f
    simp +contextual (disch := omega) only [↓AM, ↓AV, AP, CQ, CN, i64, e0, e2', e3]
    refine (c_SubS xs (nt0.keep w0 f03) (np.keep w0 f03) (by omega) dP).use ?_
    rintro _ h4 w4 ⟨rfl, wr4, ns⟩
    have f04 : Fm No h0 h4 := wr_fresh f03 wr4 (by omega)
    have f14 : Fm No h1 h4 := wr_fresh f13 wr4 (by omega)
    simp +contextual (disch := omega) only [↓AM, ↓AV, AP, CQ, CN, i64, e0, e2', e3]
    refine (c_MulS ((xg.keep w2 f3).wr w3 wr4) ns (ny.keep w1 f14) (dg4 (by omega)) (dg4 (by omega))).use ?_
    rintro _ h5 w5 ⟨rfl, wr5, ng⟩
    have f05 : Fm No h0 h5 := wr_fresh f04 wr5 (by omega)
    have f15 : Fm No h1 h5 := wr_fresh f14 wr5 (by omega)
    obtain ⟨q1, q2⟩ := rb h5 f05
    have ls5 := ls0.keep w0 f05
    simp +contextual (disch := omega) only [↓AM, ↓AV, AP, CQ, CN, i64, e0, e2', e3, q1, q2]
    refine (c_CmpS ng ls5.nl (by omega) (by omega)).use ?_
    rintro _ h5 _ ⟨rfl, rfl⟩
    by_cases hgl : (to - mx f b) * y < L
    · have eg : (cmpZ ((to - mx f b) * y) L < 0) = True := by rw [cmpZ_lt]; exact eq_true hgl
      simp +contextual (disch := omega) only [↓AM, ↓AV, AP, CQ, CN, i64, e0, e2', e3, q1, q2, eg]
      refine (c_SubS ls5.nl.x ls5.nl ng (by omega) (by omega)).use ?_
      rintro _ h6 w6 ⟨rfl, wr6, nl6⟩
      simp +contextual (disch := omega) only [↓AM, ↓AV, AP, CQ, CN, i64, e0]
      refine ⟨(Wr.of (F := fun y => y = bl ∨ y = cd) w (f0.trans f05 fun _ _ f => f)).trans w w5 wr6 fun _ _ f => .inl f, .inr (.inl ⟨fun q => q.elim hle hy, hgl, ?_⟩)⟩
      exact ⟨wr6.fm.keep w5 ls5.gb n3.2.2.2.2.1, wr6.fm.keep w5 ls5.gl n3.2.2.2.2.2, wr6.fm.keep w5 ls5.gd (fun e => n3.2.2.2.1 e.symm), ls5.nb.wr w5 wr6 ls5.nl.x.sf (fun e => n1 e.symm), nl6⟩
    have eg : (cmpZ ((to - mx f b) * y) L < 0) = False := by rw [cmpZ_lt]; exact eq_false hgl
    obtain ⟨h6, e6⟩ : ∃ g, h5.new ⟨[.bool false, .slice none 0 0], .own⟩ = g := ⟨_, rfl⟩
    have w6 : Wf h6 := e6 ▸ w5.new
    have f6 : Fm No h5 h6 := e6 ▸ Fm.new Fm.refl
    have xq : XAt h6 h5.size 0 := e6 ▸ x_new (by decide)
    have s6 : h6.size = h5.size + 1 := by rw [← e6]; rfl
    obtain ⟨h7, e7⟩ : ∃ g, h6.new ⟨[.bool false, .slice none 0 0], .own⟩ = g := ⟨_, rfl⟩
    have w7 : Wf h7 := e7 ▸ w6.new
    have f7 : Fm No h6 h7 := e7 ▸ Fm.new Fm.refl
    have xr : XAt h7 h6.size 0 := e7 ▸ x_new (by decide)
    have f57 : Fm No h5 h7 := f6.trans f7 fun _ _ f => f
    have f07 : Fm No h0 h7 := f05.trans f57 fun _ _ f => f
    have f17 : Fm No h1 h7 := f15.trans f57 fun _ _ f => f
    obtain ⟨q1, q2⟩ := rb h6 (f05.trans f6 fun _ _ f => f)
    have ls7 := ls0.keep w0 f07
    have z05 := f05.size
    simp +contextual (disch := omega) only [↓AM, ↓AV, AP, CQ, CN, i64, e0, e2', e3, q1, q2, eg, e6, e7]
    refine (c_QuoRemG (xq.keep w6 f7) xr (by omega) ls7.nl (ny.keep w1 f17) (by omega) hy (Nat.le_trans (dg18 (by omega)) (by decide))).use ?_
    rintro _ h8 w8 ⟨rfl, wr8, nq, nr⟩
    have f08 : Fm No h0 h8 := wr_fresh2 f07 wr8 (by omega) (by omega)
    simp +contextual (disch := omega) only [↓AM, ↓AV, AP, CQ, CN, i64, e0]
    refine (c_SignG nr).use ?_
    rintro _ h8 _ ⟨rfl, rfl⟩
    have bq : (L.tdiv y).natAbs ≤ 1048576000000 := by
      rw [Int.natAbs_tdiv]
      refine Nat.le_trans (Nat.div_le_self L.natAbs y.natAbs) ?_
      omega
    by_cases hs : 0 < L.tmod y
    · have es : (0 < sgnZ (L.tmod y)) = True := by rw [sgnZ_gt]; exact eq_true hs
      have ev : cdv L y = L.tdiv y + 1 := by unfold cdv; rw [if_pos hs]
      simp +contextual (disch := omega) only [↓AM, ↓AV, AP, CQ, CN, i64, e0, es]
      refine (c_newIS (z := 1) (by omega)).use ?_
      rintro _ h9 w9 ⟨b9, rfl, sb9, no, f9⟩
      have nq9 := nq.keep w8 f9
      simp +contextual (disch := omega) only [↓AM, ↓AV, AP, CQ, CN, i64, e0]
      refine (c_AddZ nq9.x nq9 no (dg4 (by omega)) (dg4 (by omega))).use ?_
      rintro _ h10 w10 ⟨rfl, wr10, n10⟩
      have f010 : Fm No h0 h10 := wr_fresh (f08.trans f9 fun _ _ f => f) wr10 (by omega)
      simp +contextual (disch := omega) only [↓AM, ↓AV, AP, CQ, CN, i64, e0]
      refine (c_AddZ n10.x n10 (np.keep w0 f010) (dg4 (by omega)) dP).use ?_
      rintro _ h11 w11 ⟨rfl, wr11, n11⟩
      have f011 : Fm No h0 h11 := wr_fresh f010 wr11 (by omega)
      rw [← ev] at n11
      have fh11 : Fm No h h11 := f0.trans f011 fun _ _ f => f
      have gcd := (ls0.keep w0 f011).gd
      have wrc := wr_cell (q := some ⟨h5.size, 0, none⟩) w11 gcd
      obtain ⟨h12, e12⟩ : ∃ g, h11.put cd ⟨[.pointer (some ⟨h5.size, 0, none⟩)], .own⟩ = g := ⟨_, rfl⟩
      have g12 : h12.get cd = some ⟨[.pointer (some ⟨h5.size, 0, none⟩)], .own⟩ := e12 ▸ gput
      rw [e12] at wrc
      have hlt := w0.lt ls0.gd
      have n12 := n11.wr w11 wrc (by rintro y rfl _; exact ⟨_, gcd, st1p⟩) (by omega)
      simp +contextual (disch := omega) only [↓AM, ↓AV, AP, CQ, CN, i64, e0, gcd, e12]
      exact ⟨(Wr.of (F := fun y => y = bl ∨ y = cd) w fh11).trans w w11 wrc fun _ _ f => .inr f, .inr (.inr ⟨fun q => q.elim hle hy, hgl, _, rfl, n12⟩)⟩
    · have es : (0 < sgnZ (L.tmod y)) = False := by rw [sgnZ_gt]; exact eq_false hs
      have ev : cdv L y = L.tdiv y := by unfold cdv; rw [if_neg hs]; omega
      simp +contextual (disch := omega) only [↓AM, ↓AV, AP, CQ, CN, i64, e0, es]
      refine (c_AddZ nq.x nq (np.keep w0 f08) (dg4 (by omega)) dP).use ?_
      rintro _ h11 w11 ⟨rfl, wr11, n11⟩
      have f011 : Fm No h0 h11 := wr_fresh f08 wr11 (by omega)
      rw [← ev] at n11
      have fh11 : Fm No h h11 := f0.trans f011 fun _ _ f => f
      have gcd := (ls0.keep w0 f011).gd
      have wrc := wr_cell (q := some ⟨h5.size, 0, none⟩) w11 gcd
      obtain ⟨h12, e12⟩ : ∃ g, h11.put cd ⟨[.pointer (some ⟨h5.size, 0, none⟩)], .own⟩ = g := ⟨_, rfl⟩
      have g12 : h12.get cd = some ⟨[.pointer (some ⟨h5.size, 0, none⟩)], .own⟩ := e12 ▸ gput
      rw [e12] at wrc
      have hlt := w0.lt ls0.gd
      have n12 := n11.wr w11 wrc (by rintro y rfl _; exact ⟨_, gcd, st1p⟩) (by omega)
      simp +contextual (disch := omega) only [↓AM, ↓AV, AP, CQ, CN, i64, e0, gcd, e12]
      exact ⟨(Wr.of (F := fun y => y = bl ∨ y = cd) w fh11).trans w w11 wrc fun _ _ f => .inr f, .inr (.inr ⟨fun q => q.elim hle hy, hgl, _, rfl, n12⟩)⟩
  · have e2 : (0 < cmpZ b f) = False := by rw [cmpZ_gt]; exact eq_false hfb
    have np : IntAt h0 pf 0 (mx f b) := by unfold mx; rw [if_neg hfb]; exact nf0
    simp +contextual (disch := omega) only [↓AM, ↓AV, AP, CQ, CN, i64, e0, r0, q1, q2, ec, ey, e2]
    refine (c_newIS (z := y) (by omega)).use ?_
    rintro _ h1 w1 ⟨b1, rfl, sb1, ny, f1⟩
    obtain ⟨h2, e2'⟩ : ∃ g, h1.new ⟨[.bool false, .slice none 0 0], .own⟩ = g := ⟨_, rfl⟩
    have w2 : Wf h2 := e2' ▸ w1.new
    have f2 : Fm No h1 h2 := e2' ▸ Fm.new Fm.refl
    have xg : XAt h2 h1.size 0 := e2' ▸ x_new (by decide)
    have s2 : h2.size = h1.size + 1 := by rw [← e2']; rfl
    obtain ⟨h3, e3⟩ : ∃ g, h2.new ⟨[.bool false, .slice none 0 0], .own⟩ = g := ⟨_, rfl⟩
    have w3 : Wf h3 := e3 ▸ w2.new
    have f3 : Fm No h2 h3 := e3 ▸ Fm.new Fm.refl
    have xs : XAt h3 h2.size 0 := e3 ▸ x_new (by decide)
    have s3 : h3.size = h2.size + 1 := by rw [← e3]; rfl
    have s1 := f1.size
    have f13 : Fm No h1 h3 := f2.trans f3 fun _ _ f => f
    have f03 : Fm No h0 h3 := f1.trans f13 fun _ _ f => f
    simp +contextual (disch := omega) only [↓AM, ↓AV, AP, CQ, CN, i64, e0, e2', e3]
    refine (c_SubS xs (nt0.keep w0 f03) (np.keep w0 f03) (by omega) dP).use ?_
    rintro _ h4 w4 ⟨rfl, wr4, ns⟩
    have f04 : Fm No h0 h4 := wr_fresh f03 wr4 (by omega)
    have f14 : Fm No h1 h4 := wr_fresh f13 wr4 (by omega)
    simp +contextual (disch := omega) only [↓AM, ↓AV, AP, CQ, CN, i64, e0, e2', e3]
    refine (c_MulS ((xg.keep w2 f3).wr w3 wr4) ns (ny.keep w1 f14) (dg4 (by omega)) (dg4 (by omega))).use ?_
    rintro _ h5 w5 ⟨rfl, wr5, ng⟩
    have f05 : Fm No h0 h5 := wr_fresh f04 wr5 (by omega)
    have f15 : Fm No h1 h5 := wr_fresh f14 wr5 (by omega)
    obtain ⟨q1, q2⟩ := rb h5 f05
    have ls5 := ls0.keep w0 f05
    simp +contextual (disch := omega) only [↓AM, ↓AV, AP, CQ, CN, i64, e0, e2', e3, q1, q2]
    refine (c_CmpS ng ls5.nl (by omega) (by omega)).use ?_
    rintro _ h5 _ ⟨rfl, rfl⟩
    by_cases hgl : (to - mx f b) * y < L
    · have eg : (cmpZ ((to - mx f b) * y) L < 0) = True := by rw [cmpZ_lt]; exact eq_true hgl
      simp +contextual (disch := omega) only [↓AM, ↓AV, AP, CQ, CN, i64, e0, e2', e3, q1, q2, eg]
      refine (c_SubS ls5.nl.x ls5.nl ng (by omega) (by omega)).use ?_
      rintro _ h6 w6 ⟨rfl, wr6, nl6⟩
      simp +contextual (disch := omega) only [↓AM, ↓AV, AP, CQ, CN, i64, e0]
      refine ⟨(Wr.of (F := fun y => y = bl ∨ y = cd) w (f0.trans f05 fun _ _ f => f)).trans w w5 wr6 fun _ _ f => .inl f, .inr (.inl ⟨fun q => q.elim hle hy, hgl, ?_⟩)⟩
      exact ⟨wr6.fm.keep w5 ls5.gb n3.2.2.2.2.1, wr6.fm.keep w5 ls5.gl n3.2.2.2.2.2, wr6.fm.keep w5 ls5.gd (fun e => n3.2.2.2.1 e.symm), ls5.nb.wr w5 wr6 ls5.nl.x.sf (fun e => n1 e.symm), nl6⟩
    have eg : (cmpZ ((to - mx f b) * y) L < 0) = False := by rw [cmpZ_lt]; exact eq_false hgl
    obtain ⟨h6, e6⟩ : ∃ g, h5.new ⟨[.bool false, .slice none 0 0], .own⟩ = g := ⟨_, rfl⟩
    have w6 : Wf h6 := e6 ▸ w5.new
    have f6 : Fm No h5 h6 := e6 ▸ Fm.new Fm.refl
    have xq : XAt h6 h5.size 0 := e6 ▸ x_new (by decide)
    have s6 : h6.size = h5.size + 1 := by rw [← e6]; rfl
    obtain ⟨h7, e7⟩ : ∃ g, h6.new ⟨[.bool false, .slice none 0 0], .own⟩ = g := ⟨_, rfl⟩
    have w7 : Wf h7 := e7 ▸ w6.new
    have f7 : Fm No h6 h7 := e7 ▸ Fm.new Fm.refl
    have xr : XAt h7 h6.size 0 := e7 ▸ x_new (by decide)
    have f57 : Fm No h5 h7 := f6.trans f7 fun _ _ f => f
    have f07 : Fm No h0 h7 := f05.trans f57 fun _ _ f => f
    have f17 : Fm No h1 h7 := f15.trans f57 fun _ _ f => f
    obtain ⟨q1, q2⟩ := rb h6 (f05.trans f6 fun _ _ f => f)
    have ls7 := ls0.keep w0 f07
    have z05 := f05.size
    simp +contextual (disch := omega) only [↓AM, ↓AV, AP, CQ, CN, i64, e0, e2', e3, q1, q2, eg, e6, e7]
    refine (c_QuoRemG (xq.keep w6 f7) xr (by omega) ls7.nl (ny.keep w1 f17) (by omega) hy (Nat.le_trans (dg18 (by omega)) (by decide))).use ?_
    rintro _ h8 w8 ⟨rfl, wr8, nq, nr⟩
    have f08 : Fm No h0 h8 := wr_fresh2 f07 wr8 (by omega) (by omega)
    simp +contextual (disch := omega) only [↓AM, ↓AV, AP, CQ, CN, i64, e0]
    refine (c_SignG nr).use ?_
    rintro _ h8 _ ⟨rfl, rfl⟩
    have bq : (L.tdiv y).natAbs ≤ 1048576000000 := by
      rw [Int.natAbs_tdiv]
      refine Nat.le_trans (Nat.div_le_self L.natAbs y.natAbs) ?_
      omega
    by_cases hs : 0 < L.tmod y
    · have es : (0 < sgnZ (L.tmod y)) = True := by rw [sgnZ_gt]; exact eq_true hs
      have ev : cdv L y = L.tdiv y + 1 := by unfold cdv; rw [if_pos hs]
      simp +contextual (disch := omega) only [↓AM, ↓AV, AP, CQ, CN, i64, e0, es]
      refine (c_newIS (z := 1) (by omega)).use ?_
      rintro _ h9 w9 ⟨b9, rfl, sb9, no, f9⟩
      have nq9 := nq.keep w8 f9
      simp +contextual (disch := omega) only [↓AM, ↓AV, AP, CQ, CN, i64, e0]
      refine (c_AddZ nq9.x nq9 no (dg4 (by omega)) (dg4 (by omega))).use ?_
      rintro _ h10 w10 ⟨rfl, wr10, n10⟩
      have f010 : Fm No h0 h10 := wr_fresh (f08.trans f9 fun _ _ f => f) wr10 (by omega)
      simp +contextual (disch := omega) only [↓AM, ↓AV, AP, CQ, CN, i64, e0]
      refine (c_AddZ n10.x n10 (np.keep w0 f010) (dg4 (by omega)) dP).use ?_
      rintro _ h11 w11 ⟨rfl, wr11, n11⟩
      have f011 : Fm No h0 h11 := wr_fresh f010 wr11 (by omega)
      rw [← ev] at n11
      have fh11 : Fm No h h11 := f0.trans f011 fun _ _ f => f
      have gcd := (ls0.keep w0 f011).gd
      have wrc := wr_cell (q := some ⟨h5.size, 0, none⟩) w11 gcd
      obtain ⟨h12, e12⟩ : ∃ g, h11.put cd ⟨[.pointer (some ⟨h5.size, 0, none⟩)], .own⟩ = g := ⟨_, rfl⟩
      have g12 : h12.get cd = some ⟨[.pointer (some ⟨h5.size, 0, none⟩)], .own⟩ := e12 ▸ gput
      rw [e12] at wrc
      have hlt := w0.lt ls0.gd
      have n12 := n11.wr w11 wrc (by rintro y rfl _; exact ⟨_, gcd, st1p⟩) (by omega)
      simp +contextual (disch := omega) only [↓AM, ↓AV, AP, CQ, CN, i64, e0, gcd, e12]
      exact ⟨(Wr.of (F := fun y => y = bl ∨ y = cd) w fh11).trans w w11 wrc fun _ _ f => .inr f, .inr (.inr ⟨fun q => q.elim hle hy, hgl, _, rfl, n12⟩)⟩
    · have es : (0 < sgnZ (L.tmod y)) = False := by rw [sgnZ_gt]; exact eq_false hs
      have ev : cdv L y = L.tdiv y := by unfold cdv; rw [if_neg hs]; omega
      simp +contextual (disch := omega) only [↓AM, ↓AV, AP, CQ, CN, i64, e0, es]
      refine (c_AddZ nq.x nq (np.keep w0 f08) (dg4 (by omega)) dP).use ?_
      rintro _ h11 w11 ⟨rfl, wr11, n11⟩
      have f011 : Fm No h0 h11 := wr_fresh f08 wr11 (by omega)
      rw [← ev] at n11
      have fh11 : Fm No h h11 := f0.trans f011 fun _ _ f => f
      have gcd := (ls0.keep w0 f011).gd
      have wrc := wr_cell (q := some ⟨h5.size, 0, none⟩) w11 gcd
      obtain ⟨h12, e12⟩ : ∃ g, h11.put cd ⟨[.pointer (some ⟨h5.size, 0, none⟩)], .own⟩ = g := ⟨_, rfl⟩
      have g12 : h12.get cd = some ⟨[.pointer (some ⟨h5.size, 0, none⟩)], .own⟩ := e12 ▸ gput
      rw [e12] at wrc
      have hlt := w0.lt ls0.gd
      have n12 := n11.wr w11 wrc (by rintro y rfl _; exact ⟨_, gcd, st1p⟩) (by omega)
      simp +contextual (disch := omega) only [↓AM, ↓AV, AP, CQ, CN, i64, e0, gcd, e12]
      exact ⟨(Wr.of (F := fun y => y = bl ∨ y = cd) w fh11).trans w w11 wrc fun _ _ f => .inr f, .inr (.inr ⟨fun q => q.elim hle hy, hgl, _, rfl, n12⟩)⟩
end Go.Proofs.Ytikbdeobghoglaa.St

/- The program's networks: when a request is complete. Plain theorems over the abstract machine.
   Conditions: none. -/
namespace Go.Proofs.Ytikbdeobghoglaa.St
open Go Go.RowKit Go.Proofs.Ytikbdeobghoglaa.Am Go.Proofs.Ytikbdeobghoglaa.Af Go.Proofs.Ytikbdeobghoglaa.Md Go.Proofs.Ytikbdeobghoglaa.Nu
set_option linter.unusedVariables false
set_option linter.unusedSimpArgs false
set_option linter.defProp false
set_option maxRecDepth 20000
set_option maxHeartbeats 1000000

theorem mi_nn {t : Tim} (hv : VT t) (h : 0 ≤ t.1) : 0 ≤ mi t := by
  unfold mi
  have := hv.1
  exact Int.tdiv_nonneg (by omega) (by omega)
theorem ok71 : okF Try.prog 71 = true := by kernel_rfl
theorem ok73 : okF Try.prog 73 = true := by kernel_rfl
theorem ok75 : okF Try.prog 75 = true := by kernel_rfl
def trn (net : List Nt) (t size : Int) : Option Int := (fnd net 0 t).bind fun b => if size = 0 then some b else ld net 0 b (size * 1000000)
theorem fnd_bd {t : Int} : ∀ (l : List Nt) (f : Int), (∀ x ∈ l, NV x) → t.natAbs ≤ 1152921504606846976000000 → ∀ z, fnd l f t = some z → z.natAbs ≤ 2 * 1152921504606846976000000
  | [], _, _, _, z, h => by cases h
  | x :: r, f, hv, ht, z, h => by
    unfold fnd at h
    split at h
    · exact fnd_bd r _ (fun y hy => hv y (by simp [hy])) ht z h
    · have := mi_bd (hv x (by simp)).2
      cases h
      omega
theorem fnd_drop {net : List Nt} {i : Nat} {x : Nt} {t : Int} (hx : net[i]? = some x) : fnd (net.drop i) (Sm (net.take i)) t = if Sm (net.take (i + 1)) ≤ t then fnd (net.drop (i + 1)) (Sm (net.take (i + 1))) t else some (t + mi x.2.2) := by
  have hk : i < net.length := (List.getElem?_eq_some_iff.1 hx).1
  have e1 : Sm (net.take (i + 1)) = Sm (net.take i) + mi x.2.1 := by
    rw [List.take_add_one, hx, Sm_app]
    simp [Sm]
  have e2 : net.drop i = x :: net.drop (i + 1) := by
    rw [List.drop_eq_getElem_cons hk]
    rw [List.getElem?_eq_getElem hk] at hx
    cases hx; rfl
  rw [e2, e1]
  rfl
theorem ld_drop {net : List Nt} {i : Nat} {x : Nt} {b L : Int} (hx : net[i]? = some x) : ld (net.drop i) (Sm (net.take i)) b L = if Sm (net.take (i + 1)) ≤ b ∨ x.1 = 0 then ld (net.drop (i + 1)) (Sm (net.take (i + 1))) b L
    else if (Sm (net.take (i + 1)) - mx (Sm (net.take i)) b) * x.1 < L then ld (net.drop (i + 1)) (Sm (net.take (i + 1))) b (L - (Sm (net.take (i + 1)) - mx (Sm (net.take i)) b) * x.1)
    else some (cdv L x.1 + mx (Sm (net.take i)) b) := by
  have hk : i < net.length := (List.getElem?_eq_some_iff.1 hx).1
  have e1 : Sm (net.take (i + 1)) = Sm (net.take i) + mi x.2.1 := by
    rw [List.take_add_one, hx, Sm_app]
    simp [Sm]
  have e2 : net.drop i = x :: net.drop (i + 1) := by
    rw [List.drop_eq_getElem_cons hk]
    rw [List.getElem?_eq_getElem hk] at hx
    cases hx; rfl
  rw [e2, e1]
  rfl
theorem tk_len {net : List Nt} (i : Nat) (hn : net.length ≤ 100) : (net.take i).length ≤ 100 := by rw [List.length_take]; omega
theorem tk_mem {net : List Nt} {P : Nt → Prop} (i : Nat) (h : ∀ x ∈ net, P x) : ∀ x ∈ net.take i, P x := fun x hx => h x (List.mem_of_mem_take hx)
theorem in0 : isNilV 0 (Value.pointer none) = some true := rfl
theorem in1 {a : Addr} : isNilV 0 (Value.pointer (some a)) = some false := rfl
theorem c_transfer {h : Hp} {oa : Option Addr} {c ba : Nat} {net : List Nt} {t size : Int} (ha : Rd h 5 oa net.length (net.flatMap ntC)) (hn : net.length ≤ 100) (hv : ∀ x ∈ net, NV x) (hr : ∀ x ∈ net, NR x) (na : IntAt h ba 0 t) (ht : t.natAbs ≤ 1152921504606846976000000) (hs : 0 ≤ size ∧ size ≤ 1048576) :
    ACalls Try.prog 39 [.slice oa net.length c, .pointer (some ⟨ba, 0, none⟩), .int .i64 size] h fun r h' => ((trn net t size = none ∧ r = .tuple #[.pointer none, .bool false]) ∨ (∃ z b, trn net t size = some z ∧ r = .tuple #[.pointer (some ⟨b, 0, none⟩), .bool true] ∧ IntAt h' b 0 z)) ∧ Fm No h h' := by
  refine stream_transfer_ok.snd Af.hm rfl fun w => ?_
  rw [WF_eq, stream_transfer]
  obtain ⟨hA, eA⟩ : ∃ g, h.new ⟨[.slice oa net.length c], .own⟩ = g := ⟨_, rfl⟩
  have wA : Wf hA := eA ▸ w.new
  have fA : Fm No h hA := eA ▸ Fm.new Fm.refl
  have gA : hA.get h.size = some ⟨[.slice oa net.length c], .own⟩ := eA ▸ gnew
  have sA : hA.size = h.size + 1 := by rw [← eA]; rfl
  obtain ⟨hB, eB⟩ : ∃ g, hA.new ⟨[.pointer (some ⟨ba, 0, none⟩)], .own⟩ = g := ⟨_, rfl⟩
  have wB : Wf hB := eB ▸ wA.new
  have fB : Fm No hA hB := eB ▸ Fm.new Fm.refl
  have gB : hB.get hA.size = some ⟨[.pointer (some ⟨ba, 0, none⟩)], .own⟩ := eB ▸ gnew
  have sB : hB.size = hA.size + 1 := by rw [← eB]; rfl
  obtain ⟨hC, eC⟩ : ∃ g, hB.new ⟨[.pointer none], .own⟩ = g := ⟨_, rfl⟩
  have wC : Wf hC := eC ▸ wB.new
  have fC : Fm No hB hC := eC ▸ Fm.new Fm.refl
  have gC : hC.get hB.size = some ⟨[.pointer none], .own⟩ := eC ▸ gnew
  have sC : hC.size = hB.size + 1 := by rw [← eC]; rfl
  have gA := fC.keep wB (fB.keep wA gA (fun f => f)) (fun f => f)
  have gB := fC.keep wB gB (fun f => f)
  have fhC : Fm No h hC := (fA.trans fB fun _ _ f => f).trans fC fun _ _ f => f
  have naC := na.keep w fhC
  have haC := ha.keepW w fhC nNo
  have hbl : ba < h.size := na.x.lt w
  simp +contextual (disch := omega) only [↓AM, ↓AV, AP, CQ, CN, i64, eA, eB, eC]
  refine ⟨ok71, (c_walk (hq := h) (h := hC) (bc := h.size) (c := c) (f := 73) (oa := oa) (net := net) (vs := #[.pointer (some ⟨hA.size, 0, none⟩), .pointer (some ⟨hB.size, 0, none⟩)]) (G := fun y => y = hB.size)
    (Inv := fun i g => g.get hA.size = some ⟨[.pointer (some ⟨ba, 0, none⟩)], .own⟩ ∧ g.get hB.size = some ⟨[.pointer none], .own⟩ ∧ IntAt g ba 0 t ∧ fnd net 0 t = fnd (net.drop i) (Sm (net.take i)) t)
    (Post := fun g => ∃ bb z, g.get hB.size = some ⟨[.pointer (some ⟨bb, 0, none⟩)], .own⟩ ∧ IntAt g bb 0 z ∧ fnd net 0 t = some z)
    gA w ha fhC hn hv ok73 (fun x e => by omega) (by omega) (fun x e => by omega)
    (fun i g q => by rintro y rfl _; exact ⟨_, q.2.1, st1p⟩)
    (fun i g g' wg q fg => ⟨fg.keep wg q.1 (fun f => f), fg.keep wg q.2.1 (fun f => f), q.2.2.1.keep wg fg, q.2.2.2⟩)
    ⟨gB, gC, naC, rfl⟩ ?_).use ?_⟩
  · rintro i x g pf pt hx wg hpf hpt ⟨i1, i2, i3, i4⟩ nf nt
    have hxm := List.mem_of_getElem? hx
    have b1 := Sm_dg (tk_mem (i + 1) hv) (tk_len (i + 1) hn)
    refine (c_find (pf := pf) (hv x hxm) i1 i2 i3 nt (by omega) (by omega)).mono ?_
    rintro r g' ⟨wr, hor⟩
    refine ⟨wr, ?_⟩
    rcases hor with ⟨rfl, hle, fg⟩ | ⟨rfl, hle, bb, g1, n1, -⟩
    · refine .inl ⟨rfl, fg.keep wg i1 (fun f => f), fg.keep wg i2 (fun f => f), i3.keep wg fg, ?_⟩
      rw [i4, fnd_drop hx, if_pos hle]
    · refine .inr ⟨rfl, bb, _, g1, n1, ?_⟩
      rw [i4, fnd_drop hx, if_neg hle]
  rintro r hD wD ⟨wrD, hor⟩
  have fD : Fm No h hD := wr_fresh fhC wrD (by omega)
  rcases hor with ⟨bb, b, g1, nb, hfn⟩ | ⟨-, g1, -, hfn⟩
  case inr =>
    have e1 : hD.rd hB.size 0 = some (.pointer none) := rd_mk g1
    rw [List.drop_length] at hfn
    have htr : trn net t size = none := by unfold trn; rw [hfn]; rfl
    simp +contextual (disch := omega) only [↓AM, ↓AV, AP, CQ, CN, i64, eA, eB, eC, e1, in0, in1]
    exact ⟨.inl htr, fD⟩
  have e1 : hD.rd hB.size 0 = some (.pointer (some ⟨bb, 0, none⟩)) := rd_mk g1
  have hb := fnd_bd net 0 hv ht b hfn
  have htr : trn net t size = if size = 0 then some b else ld net 0 b (size * 1000000) := by unfold trn; rw [hfn]; rfl
  by_cases hz : size = 0
  · have ez : EqI size 0 = True := eq_true hz
    rw [if_pos hz] at htr
    simp +contextual (disch := omega) only [↓AM, ↓AV, AP, CQ, CN, i64, eA, eB, eC, e1, ez, in0, in1]
    exact ⟨.inr ⟨b, bb, htr, rfl, nb⟩, fD⟩
  have ez : EqI size 0 = False := eq_false hz
  rw [if_neg hz] at htr
  obtain ⟨hE, eE⟩ : ∃ g, hD.new ⟨[.bool false, .slice none 0 0], .own⟩ = g := ⟨_, rfl⟩
  have wE : Wf hE := eE ▸ wD.new
  have fE : Fm No hD hE := eE ▸ Fm.new Fm.refl
  have xE : XAt hE hD.size 0 := eE ▸ x_new (by decide)
  have sE : hE.size = hD.size + 1 := by rw [← eE]; rfl
  simp +contextual (disch := omega) only [↓AM, ↓AV, AP, CQ, CN, i64, eA, eB, eC, e1, ez, eE, in0, in1]
  refine (c_newIS (z := size) (by omega)).use ?_
  rintro _ hF wF ⟨b1, rfl, sb1, n1, fF⟩
  simp +contextual (disch := omega) only [↓AM, ↓AV, AP, CQ, CN, i64]
  refine (c_newIS (z := 1000000) (by omega)).use ?_
  rintro _ hG wG ⟨b2, rfl, sb2, n2, fG⟩
  have fEG : Fm No hE hG := fF.trans fG fun _ _ f => f
  simp +contextual (disch := omega) only [↓AM, ↓AV, AP, CQ, CN, i64]
  refine (c_MulS (xE.keep wE fEG) (n1.keep wF fG) n2 (dg4 (by omega)) (dg4 (by decide))).use ?_
  rintro _ hH wH ⟨rfl, wrH, nl⟩
  have fDG : Fm No hD hG := fE.trans fEG fun _ _ f => f
  have fDH : Fm No hD hH := wr_fresh fDG wrH (by omega)
  have sDH := fDH.size
  have sDG := fDG.size
  have sEG := fEG.size
  have sGH := wrH.fm.size
  obtain ⟨hI, eI⟩ : ∃ g, hH.new ⟨[.pointer (some ⟨hD.size, 0, none⟩)], .own⟩ = g := ⟨_, rfl⟩
  have wI : Wf hI := eI ▸ wH.new
  have fI : Fm No hH hI := eI ▸ Fm.new Fm.refl
  have gI : hI.get hH.size = some ⟨[.pointer (some ⟨hD.size, 0, none⟩)], .own⟩ := eI ▸ gnew
  have sI : hI.size = hH.size + 1 := by rw [← eI]; rfl
  have eIz : (hH.new ⟨[.pointer none], .own⟩).put hH.size ⟨[.pointer (some ⟨hD.size, 0, none⟩)], .own⟩ = hI := by rw [← eI]; exact new_put
  obtain ⟨hJ, eJ⟩ : ∃ g, hI.new ⟨[.pointer none], .own⟩ = g := ⟨_, rfl⟩
  have wJ : Wf hJ := eJ ▸ wI.new
  have fJ : Fm No hI hJ := eJ ▸ Fm.new Fm.refl
  have gJ : hJ.get hI.size = some ⟨[.pointer none], .own⟩ := eJ ▸ gnew
  have sJ : hJ.size = hI.size + 1 := by rw [← eJ]; rfl
  have fDJ : Fm No hD hJ := (fDH.trans fI fun _ _ f => f).trans fJ fun _ _ f => f
  have fhJ : Fm No h hJ := fD.trans fDJ fun _ _ f => f
  have hbb : bb < hD.size := nb.x.lt wD
  have lsJ : Ls hJ hB.size hH.size hI.size bb hD.size b (size * 1000000) none := ⟨fDJ.keep wD g1 (fun f => f), fJ.keep wI gI (fun f => f), gJ, nb.keep wD fDJ, (nl.keep wH fI).keep wI fJ⟩
  have gAJ : hJ.get h.size = some ⟨[.slice oa net.length c], .own⟩ := fDJ.keep wD (wrD.fm.keep wC gA (by omega)) (fun f => f)
  have sCD := wrD.fm.size
  simp +contextual (disch := omega) only [↓AM, ↓AV, AP, CQ, CN, i64, eIz, eI, eJ]
  refine ⟨ok71, (c_walk (hq := h) (h := hJ) (bc := h.size) (c := c) (f := 75) (oa := oa) (net := net) (vs := #[.pointer (some ⟨hB.size, 0, none⟩), .pointer (some ⟨hH.size, 0, none⟩), .pointer (some ⟨hI.size, 0, none⟩)]) (G := fun y => y = hD.size ∨ y = hI.size)
    (Inv := fun i g => ∃ L : Int, 0 ≤ L ∧ L ≤ 1048576000000 ∧ Ls g hB.size hH.size hI.size bb hD.size b L none ∧ ld net 0 b (size * 1000000) = ld (net.drop i) (Sm (net.take i)) b L)
    (Post := fun g => ∃ bd z, g.get hI.size = some ⟨[.pointer (some ⟨bd, 0, none⟩)], .own⟩ ∧ IntAt g bd 0 z ∧ ld net 0 b (size * 1000000) = some z)
    gAJ w ha fhJ hn hv ok75 (fun x e => by omega) (by omega) (fun x e => by have := fD.size; omega)
    (by
      rintro i g ⟨L, -, -, q, -⟩ y (rfl | rfl) hy
      · exact q.nl.x.sf _ rfl hy
      · exact ⟨_, q.gd, st1p⟩)
    (by
      rintro i g g' wg ⟨L, l1, l2, q, l3⟩ fg
      exact ⟨L, l1, l2, q.keep wg fg, l3⟩)
    ⟨_, by omega, by omega, lsJ, rfl⟩ ?_).use ?_⟩
  · rintro i x g pf pt hx wg hpf hpt ⟨L, l1, l2, q, l3⟩ nf nt
    have hxm := List.mem_of_getElem? hx
    have b1 := Sm_dg (tk_mem i hv) (tk_len i hn)
    have b2 := Sm_dg (tk_mem (i + 1) hv) (tk_len (i + 1) hn)
    have em : Sm (net.take (i + 1)) = Sm (net.take i) + mi x.2.1 := by
      rw [List.take_add_one, hx, Sm_app]
      simp [Sm]
    have mn := mi_nn (hv x hxm).1 (by have := (hr x hxm).2.1.2; omega)
    have rx := (hr x hxm).1
    refine (c_load (hv x hxm) rx q (by omega) (by omega) (by omega) nf nt b1 b2 hb ⟨l1, l2⟩).mono ?_
    rintro r g' ⟨wr, hor⟩
    refine ⟨wr, ?_⟩
    rcases hor with ⟨rfl, hle, q'⟩ | ⟨rfl, hle, hlt, q'⟩ | ⟨rfl, hle, hlt, bd, g3, n3⟩
    · exact .inl ⟨rfl, L, l1, l2, q', by rw [l3, ld_drop hx, if_pos hle]⟩
    · refine .inl ⟨rfl, _, by omega, ?_, q', by rw [l3, ld_drop hx, if_neg hle, if_pos hlt]⟩
      have : 0 ≤ (Sm (net.take (i + 1)) - mx (Sm (net.take i)) b) * x.1 := Int.mul_nonneg (by unfold mx; split <;> omega) rx.1
      omega
    · exact .inr ⟨rfl, bd, _, g3, n3, by rw [l3, ld_drop hx, if_neg hle, if_neg hlt]⟩
  rintro r hK wK ⟨wrK, hor⟩
  have fK : Fm No h hK := wr_fresh2 fhJ wrK (by have := fD.size; omega) (by have := fD.size; omega)
  rcases hor with ⟨bd, z, g3, nz, hld⟩ | ⟨L, -, -, q, hld⟩
  · have e3 : hK.rd hI.size 0 = some (.pointer (some ⟨bd, 0, none⟩)) := rd_mk g3
    rw [hld] at htr
    simp +contextual (disch := omega) only [↓AM, ↓AV, AP, CQ, CN, i64, eA, eB, eC, eE, eIz, eI, eJ, e3, in0, in1]
    exact ⟨.inr ⟨z, bd, htr, rfl, nz⟩, fK⟩
  · have e3 : hK.rd hI.size 0 = some (.pointer none) := rd_mk q.gd
    rw [List.drop_length] at hld
    rw [show ld net 0 b (size * 1000000) = none from hld] at htr
    simp +contextual (disch := omega) only [↓AM, ↓AV, AP, CQ, CN, i64, eA, eB, eC, eE, eIz, eI, eJ, e3, in0, in1]
    exact ⟨.inl htr, fK⟩
end Go.Proofs.Ytikbdeobghoglaa.St

/- The program's networks: when a request is complete, or the error. Plain theorems over the abstract machine.
   Conditions: none. -/
namespace Go.Proofs.Ytikbdeobghoglaa.St
open Go Go.RowKit Go.Proofs.Ytikbdeobghoglaa.Am Go.Proofs.Ytikbdeobghoglaa.Af Go.Proofs.Ytikbdeobghoglaa.Md Go.Proofs.Ytikbdeobghoglaa.Nu
set_option linter.unusedVariables false
set_option linter.unusedSimpArgs false
set_option linter.defProp false
set_option maxRecDepth 20000
set_option maxHeartbeats 1000000

theorem Sm_nn : ∀ (l : List Nt), (∀ x ∈ l, NV x) → (∀ x ∈ l, NR x) → 0 ≤ Sm l
  | [], _, _ => by simp [Sm]
  | x :: r, hv, hr => by
    have h1 := mi_nn (hv x (by simp)).1 (by have := (hr x (by simp)).2.1.2; omega)
    have h2 := Sm_nn r (fun y hy => hv y (by simp [hy])) fun y hy => hr y (by simp [hy])
    simp only [Sm]
    omega
theorem cdv_bd {a b : Int} (ha : 0 ≤ a) (hb : 0 ≤ b) : 0 ≤ cdv a b ∧ cdv a b ≤ a + 1 := by
  have h1 : 0 ≤ a.tdiv b := Int.tdiv_nonneg ha hb
  have h2 : a.tdiv b ≤ a := by
    have := Int.natAbs_tdiv a b
    have h3 := Nat.div_le_self a.natAbs b.natAbs
    have h4 : a.natAbs.div b.natAbs ≤ a.natAbs := h3
    omega
  unfold cdv
  split <;> omega
theorem ld_bd {b : Int} (hb : 0 ≤ b ∧ b ≤ 2305843009213693952000000) : ∀ (l : List Nt) (f L : Int), (∀ x ∈ l, NV x) → (∀ x ∈ l, NR x) → 0 ≤ f → f + Sm l ≤ 115292150460684697600000000 → 0 ≤ L → L ≤ 1048576000000 → ∀ z, ld l f b L = some z → 0 ≤ z ∧ z ≤ 200000000000000000000000000
  | [], _, _, _, _, _, _, _, _, z, h => by cases h
  | x :: r, f, L, hv, hr, hf, hS, h0, h1, z, h => by
    have rv : ∀ y ∈ r, NV y := fun y hy => hv y (by simp [hy])
    have rr : ∀ y ∈ r, NR y := fun y hy => hr y (by simp [hy])
    have sn := Sm_nn r rv rr
    have mn := mi_nn (hv x (by simp)).1 (by have := (hr x (by simp)).2.1.2; omega)
    have rx := (hr x (by simp)).1
    simp only [Sm] at hS
    have hm : 0 ≤ mx f b ∧ mx f b ≤ 115292150460684697600000000 := by unfold mx; split <;> omega
    unfold ld at h
    split at h
    · exact ld_bd hb r _ L rv rr (by omega) (by omega) h0 h1 z h
    · rename_i hle
      split at h
      · refine ld_bd hb r _ _ rv rr (by omega) (by omega) (by omega) ?_ z h
        have : 0 ≤ (f + mi x.2.1 - mx f b) * x.1 := Int.mul_nonneg (by unfold mx; split <;> omega) rx.1
        omega
      · cases h
        have := cdv_bd h0 rx.1
        omega
theorem fnd_nn {t : Int} (ht : 0 ≤ t) : ∀ (l : List Nt) (f : Int), (∀ x ∈ l, NV x) → (∀ x ∈ l, NR x) → ∀ z, fnd l f t = some z → 0 ≤ z
  | [], _, _, _, z, h => by cases h
  | x :: r, f, hv, hr, z, h => by
    unfold fnd at h
    split at h
    · exact fnd_nn ht r _ (fun y hy => hv y (by simp [hy])) (fun y hy => hr y (by simp [hy])) z h
    · have := mi_nn (hv x (by simp)).2 (hr x (by simp)).2.2.2
      cases h
      omega
theorem trn_bd {net : List Nt} {t size : Int} (hv : ∀ x ∈ net, NV x) (hr : ∀ x ∈ net, NR x) (hn : net.length ≤ 100) (ht : 0 ≤ t ∧ t ≤ 1152921504606846976000000) (hs : 0 ≤ size ∧ size ≤ 1048576) {z : Int} (h : trn net t size = some z) : 0 ≤ z ∧ z ≤ 200000000000000000000000000 := by
  unfold trn at h
  cases hf : fnd net 0 t with
  | none => rw [hf] at h; cases h
  | some b =>
    rw [hf] at h
    have h1 := fnd_nn ht.1 net 0 hv hr b hf
    have h2 := fnd_bd net 0 hv (by omega) b hf
    simp only [Option.bind_some] at h
    split at h
    · cases h; omega
    · exact ld_bd (by omega) net 0 _ hv hr (Int.le_refl 0) (by have := Sm_dg hv hn; omega) (by omega) (by omega) z h
/-- What Transfer answers. -/
def tfN (net : List Nt) (t : Tim) (size : Int) : Int := if neT net t size = 0 then (match trn net (mi t) size with | none => 0 | some z => mtN z) else 0
def tfD (net : List Nt) (t : Tim) (size : Int) : Int := if neT net t size = 0 then (match trn net (mi t) size with | none => 0 | some z => mtD z) else 0
def tfE (net : List Nt) (t : Tim) (size : Int) : Int := if neT net t size = 0 then (match trn net (mi t) size with | none => 271 | some z => mtE z) else neT net t size
theorem neT_0 {net : List Nt} {t : Tim} {size : Int} (h : neT net t size = 0) : VT t ∧ (∀ x ∈ net, NV x) ∧ (0 ≤ size ∧ size ≤ 1048576) ∧ net.length ≤ 100 ∧ GE t 0 ∧ (∀ x ∈ net, NR x) := by
  unfold neT at h
  split at h
  · rename_i h1
    split at h
    · rename_i h2
      exact ⟨h1.1, h1.2, h2.1.1, h2.1.2.1, h2.1.2.2, h2.2⟩
    · cases h
  · cases h
theorem c_Transfer {h : Hp} {oa : Option Addr} {c : Nat} {net : List Nt} {t : Tim} {size : Int} (ha : Rd h 5 oa net.length (net.flatMap ntC)) (hn : net.length ≤ 120) :
    ACalls Try.prog 18 [.slice oa net.length c, .agg #[.int .i64 t.1, .int .i64 t.2], .int .i64 size] h fun r h' => r = .tuple #[.agg #[.int .i64 (tfN net t size), .int .i64 (tfD net t size)], .int .i64 (tfE net t size)] ∧ Fm No h h' := by
  refine stream_Transfer_ok.snd Af.hm rfl fun w => ?_
  rw [WF_eq, stream_Transfer]
  obtain ⟨h0, e0⟩ : ∃ g, h.new ⟨[.int .i64 t.1, .int .i64 t.2], .own⟩ = g := ⟨_, rfl⟩
  have w0 : Wf h0 := e0 ▸ w.new
  have f0 : Fm No h h0 := e0 ▸ Fm.new Fm.refl
  have g0 : h0.get h.size = some ⟨[.int .i64 t.1, .int .i64 t.2], .own⟩ := e0 ▸ gnew
  have s0 : h0.size = h.size + 1 := by rw [← e0]; rfl
  obtain ⟨h1, e1⟩ : ∃ g, h0.new ⟨[.int .i64 0, .int .i64 0], .own⟩ = g := ⟨_, rfl⟩
  have w1 : Wf h1 := e1 ▸ w0.new
  have f1 : Fm No h0 h1 := e1 ▸ Fm.new Fm.refl
  have g1 : h1.get h0.size = some ⟨[.int .i64 0, .int .i64 0], .own⟩ := e1 ▸ gnew
  have g0 := f1.keep w0 g0 (fun f => f)
  have f01 : Fm No h h1 := f0.trans f1 fun _ _ f => f
  have rds : ∀ g : Hp, Fm No h1 g → g.rdN h.size 0 2 = some [.int .i64 t.1, .int .i64 t.2] ∧ g.get h0.size = some ⟨[.int .i64 0, .int .i64 0], .own⟩ := fun g fg => ⟨rdN_mk (fg.keep w1 g0 (fun f => f)) (by simp), fg.keep w1 g1 (fun f => f)⟩
  have put : ∀ (g3 : Hp), Wf g3 → Fm No h1 g3 → ∀ cs : List Value, ∃ g, g3.put h0.size ⟨cs, .own⟩ = g ∧ g.get h0.size = some ⟨cs, .own⟩ ∧ Fm No h g := fun g3 wg fg cs =>
    ⟨_, rfl, gput, ((f01.trans fg fun _ _ f => f).trans (Fm.put (Fm.refl (F := fun x => x = h0.size)) fun _ => rfl) fun x hx e => absurd e (by omega))⟩
  obtain ⟨n1, n2⟩ := rds h1 Fm.refl
  simp +contextual (disch := omega) only [↓AM, ↓AV, AP, CQ, CN, i64, e0, e1, n1, n2]
  refine (c_checkNet (ha.keepW w f01 nNo) hn).use ?_
  rintro _ h2 w2 ⟨rfl, f2⟩
  obtain ⟨n1, n2⟩ := rds h2 f2
  by_cases hE : neT net t size = 0
  case neg =>
    have e2 : EqI (neT net t size) 0 = False := eq_false hE
    obtain ⟨g, eg, gg, fg⟩ := put h2 w2 f2 [.int .i64 0, .int .i64 0]
    have rg : g.rdN h0.size 0 2 = some [.int .i64 0, .int .i64 0] := rdN_mk gg (by simp)
    have eN : tfN net t size = 0 := by unfold tfN; rw [if_neg hE]
    have eD : tfD net t size = 0 := by unfold tfD; rw [if_neg hE]
    have eE : tfE net t size = neT net t size := by unfold tfE; rw [if_neg hE]
    rw [eN, eD, eE]
    simp +contextual (disch := omega) only [↓AM, ↓AV, AP, CQ, CN, i64, e0, e1, n1, n2, e2, eg, rg]
    exact fg
  have e2 : EqI (neT net t size) 0 = True := eq_true hE
  obtain ⟨k1, k2, k3, k4, k5, k6⟩ := neT_0 hE
  have eN : tfN net t size = (match trn net (mi t) size with | none => 0 | some z => mtN z) := by unfold tfN; rw [if_pos hE]
  have eD : tfD net t size = (match trn net (mi t) size with | none => 0 | some z => mtD z) := by unfold tfD; rw [if_pos hE]
  have eE : tfE net t size = (match trn net (mi t) size with | none => 271 | some z => mtE z) := by unfold tfE; rw [if_pos hE]
  simp +contextual (disch := omega) only [↓AM, ↓AV, AP, CQ, CN, i64, e0, e1, n1, n2, e2]
  refine (c_micros k1).use ?_
  rintro _ h3 w3 ⟨bm, rfl, sbm, nm, f3⟩
  have f13 := f2.trans f3 fun _ _ f => f
  have fh3 := f01.trans f13 fun _ _ f => f
  have bm1 := mi_bd k1
  have bm2 := mi_nn k1 k5.2
  simp +contextual (disch := omega) only [↓AM, ↓AV, AP, CQ, CN, i64, e0, e1]
  refine (c_transfer (ha.keepW w fh3 nNo) k4 k2 k6 nm bm1 k3).use ?_
  rintro _ h4 w4 ⟨hor, f4⟩
  have f14 := f13.trans f4 fun _ _ f => f
  obtain ⟨n1, n2⟩ := rds h4 f14
  rcases hor with ⟨htr, rfl⟩ | ⟨z, bz, htr, rfl, nz⟩
  · obtain ⟨g, eg, gg, fg⟩ := put h4 w4 f14 [.int .i64 0, .int .i64 0]
    have rg : g.rdN h0.size 0 2 = some [.int .i64 0, .int .i64 0] := rdN_mk gg (by simp)
    rw [htr] at eN eD eE
    simp only at eN eD eE
    rw [eN, eD, eE]
    simp +contextual (disch := omega) only [↓AM, ↓AV, AP, CQ, CN, i64, e0, e1, n1, n2, eg, rg]
    exact fg
  · rw [htr] at eN eD eE
    simp only at eN eD eE
    have zb := trn_bd k2 k6 k4 (by omega) k3 htr
    simp +contextual (disch := omega) only [↓AM, ↓AV, AP, CQ, CN, i64, e0, e1, n1, n2]
    refine (c_microTime nz zb.1 (Nat.le_trans (dg18 (by omega)) (by decide))).use ?_
    rintro _ h5 w5 ⟨rfl, f5⟩
    have f15 := f14.trans f5 fun _ _ f => f
    obtain ⟨n1, n2⟩ := rds h5 f15
    obtain ⟨g, eg, gg, fg⟩ := put h5 w5 f15 [.int .i64 (mtN z), .int .i64 (mtD z)]
    have rg : g.rdN h0.size 0 2 = some [.int .i64 (mtN z), .int .i64 (mtD z)] := rdN_mk gg (by simp)
    rw [eN, eD, eE]
    simp +contextual (disch := omega) only [↓AM, ↓AV, AP, CQ, CN, i64, e0, e1, n1, n2, eg, rg]
    exact fg
end Go.Proofs.Ytikbdeobghoglaa.St

/- Networks of a law's argument. Plain theorems over the abstract machine.
   Conditions: none. -/
namespace Go.Proofs.Ytikbdeobghoglaa.St
open Go Go.RowKit Go.Proofs.Ytikbdeobghoglaa.Am Go.Proofs.Ytikbdeobghoglaa.Af Go.Proofs.Ytikbdeobghoglaa.Md Go.Proofs.Ytikbdeobghoglaa.Nu
set_option linter.unusedVariables false
set_option linter.unusedSimpArgs false
set_option maxRecDepth 20000

def ntK := AKd.pair (AKd.int .i64) (AKd.pair (AKd.pair (AKd.int .i64) (AKd.int .i64)) (AKd.pair (AKd.int .i64) (AKd.int .i64)))
theorem nt_open {h : Hp} {x : Nt} {cs : List Value} (a : ntK.A h x cs) : cs = ntC x := by
  obtain ⟨m, ⟨f1, f2⟩, t1, t2⟩ := x
  obtain ⟨c1, c2, rfl, a1, c3, c4, rfl, ⟨c5, c6, rfl, a2, a3⟩, c7, c8, rfl, a4, a5⟩ := a
  have a1 : c1 = [.int .i64 m] := a1
  have a2 : c5 = [.int .i64 f1] := a2
  have a3 : c6 = [.int .i64 f2] := a3
  have a4 : c7 = [.int .i64 t1] := a4
  have a5 : c8 = [.int .i64 t2] := a5
  subst a1 a2 a3 a4 a5
  rfl
theorem nets_open {h : Hp} : ∀ {xs : List Nt} {r : List Value}, AKd.Row (ntK.A h) xs r → r = xs.flatMap ntC
  | [], r, e => e
  | x :: xs, r, ⟨c, r', e, h1, h2⟩ => by
    rw [e, nt_open h1, nets_open h2]
    rfl
end Go.Proofs.Ytikbdeobghoglaa.St

/- A faster network: plain. Plain theorems.
   Conditions: none. -/
namespace Go.Proofs.Ytikbdeobghoglaa.St
open Go Go.RowKit Go.Proofs.Ytikbdeobghoglaa.Am Go.Proofs.Ytikbdeobghoglaa.Af Go.Proofs.Ytikbdeobghoglaa.Md Go.Proofs.Ytikbdeobghoglaa.Nu
set_option linter.unusedVariables false
set_option linter.unusedSimpArgs false
set_option maxRecDepth 20000

/-- The same pieces, with as many bytes or more. -/
def Fa : List Nt → List Nt → Prop
  | [], [] => True
  | x :: l, y :: m => (x.1 ≤ y.1 ∧ y.1 ≤ 1000000000 ∨ y.1 = x.1) ∧ y.2 = x.2 ∧ Fa l m
  | _, _ => False
theorem le_cdv {L y : Int} (hL : 0 ≤ L) (hy : 0 < y) : L ≤ cdv L y * y := by
  have h := Int.tdiv_mul_add_tmod L y
  have h2 := Int.tmod_lt_of_pos L hy
  unfold cdv
  split
  · rw [Int.add_mul]; omega
  · rw [Int.add_zero]; omega
theorem cdv_le {L y k : Int} (hL : 0 ≤ L) (hy : 0 < y) (h : L ≤ k * y) : cdv L y ≤ k := by
  have h1 := Int.tdiv_mul_add_tmod L y
  have h3 := Int.tmod_nonneg y hL
  unfold cdv
  split
  · rename_i hp
    refine Int.add_one_le_of_lt ?_
    refine Int.lt_of_mul_lt_mul_right (a := y) ?_ (by omega)
    omega
  · rw [Int.add_zero]
    refine Int.le_of_mul_le_mul_right (a := y) ?_ hy
    omega
theorem ld_ge {b : Int} : ∀ (l : List Nt) (f L : Int), (∀ x ∈ l, NV x) → (∀ x ∈ l, NR x) → 0 ≤ L → ∀ z, ld l f b L = some z → f ≤ z
  | [], _, _, _, _, _, z, h => by cases h
  | x :: r, f, L, hv, hr, h0, z, h => by
    have rv : ∀ y ∈ r, NV y := fun y hy => hv y (by simp [hy])
    have rr : ∀ y ∈ r, NR y := fun y hy => hr y (by simp [hy])
    have mn := mi_nn (hv x (by simp)).1 (by have := (hr x (by simp)).2.1.2; omega)
    have rx := (hr x (by simp)).1
    unfold ld at h
    split at h
    · have := ld_ge r _ L rv rr h0 z h
      omega
    · split at h
      · have := ld_ge r _ _ rv rr (by omega) z h
        omega
      · cases h
        have := cdv_bd h0 rx.1
        have : f ≤ mx f b := by unfold mx; split <;> omega
        omega
theorem fnd_fa {t : Int} : ∀ (l m : List Nt) (f : Int), Fa l m → fnd l f t = fnd m f t
  | [], [], _, _ => rfl
  | x :: l, y :: m, f, ⟨_, e, h⟩ => by
    unfold fnd
    rw [e, fnd_fa l m _ h]
  | [], _ :: _, _, h => h.elim
  | _ :: _, [], _, h => h.elim
theorem ld_fa {b : Int} : ∀ (l m : List Nt) (f L L' : Int), Fa l m → (∀ x ∈ l, NV x) → (∀ x ∈ l, NR x) → 0 ≤ L' → L' ≤ L → ∀ z, ld l f b L = some z → ∃ z', ld m f b L' = some z' ∧ z' ≤ z
  | [], _, _, _, _, _, _, _, _, _, z, h => by cases h
  | x :: l, [], _, _, _, h, _, _, _, _, _, _ => h.elim
  | x :: l, y :: m, f, L, L', ⟨hy, e, hfa⟩, hv, hr, h0, hle, z, h => by
    have rv : ∀ y ∈ l, NV y := fun y hy => hv y (by simp [hy])
    have rr : ∀ y ∈ l, NR y := fun y hy => hr y (by simp [hy])
    have mn := mi_nn (hv x (by simp)).1 (by have := (hr x (by simp)).2.1.2; omega)
    have rx := (hr x (by simp)).1
    have hxy : x.1 ≤ y.1 := by omega
    unfold ld
    rw [e]
    unfold ld at h
    by_cases htb : f + mi x.2.1 ≤ b
    · rw [if_pos (.inl htb)] at h ⊢
      exact ld_fa l m _ L L' hfa rv rr h0 hle z h
    have hmx : mx f b ≤ f + mi x.2.1 := by unfold mx; split <;> omega
    by_cases hx0 : x.1 = 0
    · rw [if_pos (.inr hx0)] at h
      by_cases hy0 : y.1 = 0
      · rw [if_pos (.inr hy0)]
        exact ld_fa l m _ L L' hfa rv rr h0 hle z h
      · rw [if_neg (by omega)]
        have hg : 0 ≤ (f + mi x.2.1 - mx f b) * y.1 := Int.mul_nonneg (by omega) (by omega)
        by_cases hgl : (f + mi x.2.1 - mx f b) * y.1 < L'
        · rw [if_pos hgl]
          exact ld_fa l m _ L _ hfa rv rr (by omega) (by omega) z h
        · rw [if_neg hgl]
          have h1 := ld_ge l _ L rv rr (by omega) z h
          have h2 := cdv_le (L := L') (y := y.1) (k := f + mi x.2.1 - mx f b) h0 (by omega) (by omega)
          exact ⟨_, rfl, by omega⟩
    · rw [if_neg (by omega)] at h
      rw [if_neg (by omega)]
      have hm : (f + mi x.2.1 - mx f b) * x.1 ≤ (f + mi x.2.1 - mx f b) * y.1 := Int.mul_le_mul_of_nonneg_left hxy (by omega)
      by_cases hgl : (f + mi x.2.1 - mx f b) * x.1 < L
      · rw [if_pos hgl] at h
        by_cases hgl' : (f + mi x.2.1 - mx f b) * y.1 < L'
        · rw [if_pos hgl']
          exact ld_fa l m _ _ _ hfa rv rr (by omega) (by omega) z h
        · rw [if_neg hgl']
          have h1 := ld_ge l _ _ rv rr (by omega) z h
          have h2 := cdv_le (L := L') (y := y.1) (k := f + mi x.2.1 - mx f b) h0 (by omega) (by omega)
          exact ⟨_, rfl, by omega⟩
      · rw [if_neg hgl] at h
        rw [if_neg (by omega)]
        cases h
        have h1 := le_cdv (L := L) (y := x.1) (by omega) (by omega)
        have h2 : cdv L x.1 * x.1 ≤ cdv L x.1 * y.1 := Int.mul_le_mul_of_nonneg_left hxy (cdv_bd (by omega) rx.1).1
        have h3 := cdv_le (L := L') (y := y.1) (k := cdv L x.1) h0 (by omega) (by omega)
        exact ⟨_, rfl, by omega⟩
theorem trn_fa {l m : List Nt} {t size z : Int} (hfa : Fa l m) (hv : ∀ x ∈ l, NV x) (hr : ∀ x ∈ l, NR x) (hs : 0 ≤ size) (h : trn l t size = some z) : ∃ z', trn m t size = some z' ∧ z' ≤ z := by
  unfold trn at h ⊢
  rw [← fnd_fa l m 0 hfa]
  cases hf : fnd l 0 t with
  | none => rw [hf] at h; cases h
  | some b =>
    rw [hf] at h
    simp only [Option.bind_some] at h ⊢
    split at h
    · rename_i h0
      rw [if_pos h0]
      exact ⟨b, rfl, by cases h; omega⟩
    · rename_i h0
      rw [if_neg h0]
      exact ld_fa l m 0 _ _ hfa hv hr (by omega) (Int.le_refl _) z h
theorem fa_mem : ∀ {l m : List Nt}, Fa l m → (∀ x ∈ l, NV x) → (∀ x ∈ l, NR x) → (∀ x ∈ m, NV x) ∧ (∀ x ∈ m, NR x)
  | [], [], _, _, _ => ⟨fun x h => (by cases h), fun x h => (by cases h)⟩
  | x :: l, y :: m, ⟨hy, e, hfa⟩, hv, hr => by
    obtain ⟨h1, h2⟩ := fa_mem hfa (fun y hy => hv y (by simp [hy])) fun y hy => hr y (by simp [hy])
    have vx := hv x (by simp)
    have rx := hr x (by simp)
    constructor
    · intro z hz
      rcases List.mem_cons.1 hz with rfl | hz
      · unfold NV; rw [e]; exact vx
      · exact h1 z hz
    · intro z hz
      rcases List.mem_cons.1 hz with rfl | hz
      · obtain ⟨r1, r2⟩ := rx
        unfold NR
        rw [e]
        exact ⟨by omega, r2⟩
      · exact h2 z hz
  | [], _ :: _, h, _, _ => h.elim
  | _ :: _, [], h, _, _ => h.elim
theorem fa_len : ∀ {l m : List Nt}, Fa l m → m.length = l.length
  | [], [], _ => rfl
  | x :: l, y :: m, ⟨_, _, h⟩ => by simp [fa_len h]
  | [], _ :: _, h => h.elim
  | _ :: _, [], h => h.elim
theorem mt_cross {z z' : Int} (h : z' ≤ z) (hf : fitT (lowN z 1000000) (lowD z 1000000)) (hf' : fitT (lowN z' 1000000) (lowD z' 1000000)) : cmpZ (mtN z' * mtD z) (mtN z * mtD z') ≤ 0 := by
  unfold mtN mtD
  rw [if_pos hf, if_pos hf, if_pos hf', if_pos hf']
  rw [low_cross (show 0 < 1000000 by decide) (show 0 < 1000000 by decide), cmpZ_le]
  have : z' * ((1000000 : Nat) : Int) ≤ z * ((1000000 : Nat) : Int) := by omega
  exact this
end Go.Proofs.Ytikbdeobghoglaa.St

/- A faster network: the pieces. Plain theorems.
   Conditions: none. -/
namespace Go.Proofs.Ytikbdeobghoglaa.St
open Go Go.RowKit Go.Proofs.Ytikbdeobghoglaa.Am Go.Proofs.Ytikbdeobghoglaa.Af Go.Proofs.Ytikbdeobghoglaa.Md Go.Proofs.Ytikbdeobghoglaa.Nu
set_option linter.unusedVariables false
set_option linter.unusedSimpArgs false
set_option maxRecDepth 20000

def fz (x : Nt) (m : Option Int) : Nt := match m with
  | some m => if x.1 ≤ 1000000000 - m then (x.1 + m, x.2) else x
  | none => x
def fastN : List Nt → List Int → List Nt
  | [], _ => []
  | x :: r, [] => fz x none :: fastN r []
  | x :: r, m :: ms => fz x (some m) :: fastN r ms
theorem fastN_len : ∀ (l : List Nt) (ms : List Int), (fastN l ms).length = l.length
  | [], _ => rfl
  | x :: r, [] => by simp [fastN, fastN_len r []]
  | x :: r, m :: ms => by simp [fastN, fastN_len r ms]
theorem fastN_get : ∀ (l : List Nt) (ms : List Int) (i : Nat) (x : Nt), l[i]? = some x → (fastN l ms)[i]? = some (fz x ms[i]?)
  | [], _, i, x, h => by simp at h
  | y :: r, [], 0, x, h => by cases h; rfl
  | y :: r, [], i + 1, x, h => by
    have := fastN_get r [] i x h
    simpa [fastN] using this
  | y :: r, m :: ms, 0, x, h => by cases h; rfl
  | y :: r, m :: ms, i + 1, x, h => by
    have := fastN_get r ms i x h
    simpa [fastN] using this
theorem fz_fa {x : Nt} {m : Option Int} (h : ∀ k, m = some k → 0 ≤ k) : (x.1 ≤ (fz x m).1 ∧ (fz x m).1 ≤ 1000000000 ∨ (fz x m).1 = x.1) ∧ (fz x m).2 = x.2 := by
  cases m with
  | none => exact ⟨.inr rfl, rfl⟩
  | some k =>
    have := h k rfl
    unfold fz
    simp only
    split
    · exact ⟨.inl ⟨by simp only; omega, by simp only; omega⟩, rfl⟩
    · exact ⟨.inr rfl, rfl⟩
theorem fastN_fa : ∀ (l : List Nt) (ms : List Int), (∀ k ∈ ms, 0 ≤ k) → Fa l (fastN l ms)
  | [], _, _ => trivial
  | x :: r, [], h => ⟨(fz_fa (m := none) (fun k e => by cases e)).1, rfl, fastN_fa r [] h⟩
  | x :: r, m :: ms, h => ⟨(fz_fa (x := x) (m := some m) (fun k e => by cases e; exact h _ (by simp))).1, (fz_fa (x := x) (m := some m) (fun k e => by cases e; exact h _ (by simp))).2, fastN_fa r ms fun k hk => h k (by simp [hk])⟩
theorem u16s_open {h : Hp} : ∀ {xs : List Int} {r : List Value}, AKd.Row ((AKd.int .u16).A h) xs r → r = xs.map (Value.int .u16)
  | [], r, e => e
  | x :: xs, r, ⟨c, r', e, h1, h2⟩ => by
    have h1 : c = [.int .u16 x] := h1
    rw [e, h1, u16s_open h2]
    rfl
theorem tf_ok {net : List Nt} {t : Tim} {size : Int} (h : tfE net t size = 0) : neT net t size = 0 ∧ ∃ z, trn net (mi t) size = some z ∧ fitT (lowN z 1000000) (lowD z 1000000) ∧ tfN net t size = mtN z ∧ tfD net t size = mtD z := by
  by_cases hE : neT net t size = 0
  · refine ⟨hE, ?_⟩
    unfold tfE at h
    unfold tfN tfD
    rw [if_pos hE] at h ⊢
    rw [if_pos hE]
    cases ht : trn net (mi t) size with
    | none => rw [ht] at h; cases h
    | some z =>
      rw [ht] at h
      refine ⟨z, rfl, ?_, rfl, rfl⟩
      have h : mtE z = 0 := h
      unfold mtE at h
      split at h
      · assumption
      · cases h
  · unfold tfE at h
    rw [if_neg hE] at h
    exact absurd h hE
theorem mt_VT {z : Int} (hf : fitT (lowN z 1000000) (lowD z 1000000)) : VT (mtN z, mtD z) := by
  have hp : 0 < lowD z 1000000 := low_pos (by decide)
  obtain ⟨h1, h2⟩ := hf
  unfold mtN mtD
  rw [if_pos ⟨h1, h2⟩, if_pos ⟨h1, h2⟩]
  exact ⟨by simp only; omega, by simp only; omega, by simp only; omega, by simp only; omega⟩
theorem tf_fast {net m : List Nt} {t : Tim} {size : Int} (hfa : Fa net m) (h : tfE net t size = 0) : tfE m t size = 2 ∨ (tfE m t size = 0 ∧ VT (tfN net t size, tfD net t size) ∧ VT (tfN m t size, tfD m t size) ∧ cmpZ (tfN m t size * tfD net t size) (tfN net t size * tfD m t size) ≤ 0) := by
  obtain ⟨hE, z, hz, hf, eN, eD⟩ := tf_ok h
  obtain ⟨k1, k2, k3, k4, k5, k6⟩ := neT_0 hE
  obtain ⟨v, r⟩ := fa_mem hfa k2 k6
  have hE2 : neT m t size = 0 := by unfold neT; rw [if_pos ⟨k1, v⟩, if_pos ⟨⟨k3, by rw [fa_len hfa]; exact k4, k5⟩, r⟩]
  obtain ⟨z', hz', hle⟩ := trn_fa hfa k2 k6 k3.1 hz
  have e1 : tfE m t size = mtE z' := by unfold tfE; rw [if_pos hE2, hz']
  have e2 : tfN m t size = mtN z' := by unfold tfN; rw [if_pos hE2, hz']
  have e3 : tfD m t size = mtD z' := by unfold tfD; rw [if_pos hE2, hz']
  by_cases hf' : fitT (lowN z' 1000000) (lowD z' 1000000)
  · refine .inr ⟨by rw [e1]; unfold mtE; rw [if_pos hf'], by rw [eN, eD]; exact mt_VT hf, by rw [e2, e3]; exact mt_VT hf', ?_⟩
    rw [e2, e3, eN, eD]
    exact mt_cross hle hf hf'
  · exact .inl (by rw [e1]; unfold mtE; rw [if_neg hf'])
end Go.Proofs.Ytikbdeobghoglaa.St

/- The law StreamFaster: over a faster network no request is complete later. The walk over the abstract machine.
   Conditions: none. -/
namespace Go.Proofs.Ytikbdeobghoglaa.LStreamFaster
open Go Go.RowKit Go.Proofs.Ytikbdeobghoglaa.Am Go.Proofs.Ytikbdeobghoglaa.Af Go.Proofs.Ytikbdeobghoglaa.Md Go.Proofs.Ytikbdeobghoglaa.Nu Go.Proofs.Ytikbdeobghoglaa.St
set_option linter.unusedVariables false
set_option linter.unusedSimpArgs false
set_option maxRecDepth 20000
set_option maxHeartbeats 2000000

theorem walk {h : Hp} (x0 : ((List (Int × (Int × Int) × (Int × Int))) × (List Int) × (Int × Int) × Int)) (cs0 : List Value) (A0 : (AKd.pair (AKd.slice (AKd.pair (AKd.int .i64) (AKd.pair (AKd.pair (AKd.int .i64) (AKd.int .i64)) (AKd.pair (AKd.int .i64) (AKd.int .i64))))) (AKd.pair (AKd.slice (AKd.int .u16)) (AKd.pair (AKd.pair (AKd.int .i64) (AKd.int .i64)) (AKd.int .i64)))).A h x0 cs0) (w0 : (x0.1.length * Try.prog.bytesOf 48 ≤ 140737488351232 ∧ ∀ x ∈ x0.1, ((Lit.int .i64 x.1).wf = true) ∧ (((Lit.int .i64 x.2.1.1).wf = true) ∧ ((Lit.int .i64 x.2.1.2).wf = true)) ∧ (((Lit.int .i64 x.2.2.1).wf = true) ∧ ((Lit.int .i64 x.2.2.2).wf = true))) ∧ (x0.2.1.length * Try.prog.bytesOf 49 ≤ 140737488351232 ∧ ∀ x ∈ x0.2.1, (Lit.int .u16 x).wf = true) ∧ (((Lit.int .i64 x0.2.2.1.1).wf = true) ∧ ((Lit.int .i64 x0.2.2.1.2).wf = true)) ∧ ((Lit.int .i64 x0.2.2.2).wf = true)) : ACalls Try.prog 6 [.agg cs0.toArray] h fun v h' => v = .bool true := by
  obtain ⟨net, more, ⟨t1, t2⟩, size⟩ := x0
  obtain ⟨c1, c2, rfl, a1, c3, c4, rfl, a2, c5, c6, rfl, ⟨c7, c8, rfl, a5, a6⟩, a4⟩ := A0
  have a4 : c6 = [.int .i64 size] := a4
  have a5 : c7 = [.int .i64 t1] := a5
  have a6 : c8 = [.int .i64 t2] := a6
  subst a4 a5 a6
  obtain ⟨oa, c, r, rfl, rd, row, hc⟩ := a1
  obtain ⟨ob, d, s, rfl, rm, rowm, hd⟩ := a2
  have er := nets_open row
  subst er
  have em := u16s_open rowm
  subst em
  have hb : Nat.ble 1 (Try.prog.bytesOf 48) = true := by kernel_rfl
  have hb := Nat.le_of_ble_eq_true hb
  have hn0 : net.length ≤ 140737488351232 := Nat.le_trans (Nat.le_mul_of_pos_right _ hb) w0.1.1
  have hb2 : Nat.ble 1 (Try.prog.bytesOf 49) = true := by kernel_rfl
  have hb2 := Nat.le_of_ble_eq_true hb2
  have hm0 : more.length ≤ 140737488351232 := Nat.le_trans (Nat.le_mul_of_pos_right _ hb2) w0.2.1.1
  have hby : ∀ x ∈ net, -9223372036854775808 ≤ x.1 ∧ x.1 ≤ 9223372036854775807 := fun x hx => (Lit.wf_int_iff .i64 x.1).1 (w0.1.2 x hx).1
  have hmo : ∀ k ∈ more, 0 ≤ k ∧ k ≤ 65535 := fun k hk => (Lit.wf_int_iff .u16 k).1 (w0.2.1.2 k hk)
  clear w0
  have rd : Rd h 5 oa net.length (net.flatMap ntC) := rd
  have rm : Rd h 1 ob more.length (more.map (Value.int .u16)) := rm
  refine dioramalaw27_StreamFaster_ok.snd hm rfl fun w => ?_
  show WF _ dioramalaw27_StreamFaster [.agg #[.slice oa net.length c, .slice ob more.length d, .int .i64 t1, .int .i64 t2, .int .i64 size]] h _
  rw [WF_eq, dioramalaw27_StreamFaster]
  obtain ⟨hA, eA⟩ : ∃ g, h.new ⟨[.slice oa net.length c, .slice ob more.length d, .int .i64 t1, .int .i64 t2, .int .i64 size], .own⟩ = g := ⟨_, rfl⟩
  have wA : Wf hA := eA ▸ w.new
  have fA : Fm No h hA := eA ▸ Fm.new Fm.refl
  have gA : hA.get h.size = some ⟨[.slice oa net.length c, .slice ob more.length d, .int .i64 t1, .int .i64 t2, .int .i64 size], .own⟩ := eA ▸ gnew
  obtain ⟨hZ, eZ⟩ : ∃ g, hA.new ⟨[.int .i64 0, .int .i64 0], .own⟩ = g := ⟨_, rfl⟩
  obtain ⟨hB, eB⟩ : ∃ g, hA.new ⟨[.int .i64 t1, .int .i64 t2], .own⟩ = g := ⟨_, rfl⟩
  have wB : Wf hB := eB ▸ wA.new
  have fB : Fm No hA hB := eB ▸ Fm.new Fm.refl
  have fZ : Fm No hA hZ := eZ ▸ Fm.new Fm.refl
  have gZ0 : hZ.get hA.size = some ⟨[.int .i64 0, .int .i64 0], .own⟩ := eZ ▸ gnew
  have eP : hZ.put hA.size ⟨[.int .i64 t1, .int .i64 t2], .own⟩ = hB := by rw [← eZ, new_put, eB]
  have fhB := fA.trans fB fun _ _ f => f
  have rA : ∀ g : Hp, Fm No hA g → (∀ i, g.rd h.size i = ([.slice oa net.length c, .slice ob more.length d, .int .i64 t1, .int .i64 t2, .int .i64 size] : List Value)[i]?) ∧ g.rdN h.size 2 2 = some [.int .i64 t1, .int .i64 t2] := fun g fg => ⟨fun i => rd_mk (fg.keep wA gA (fun f => f)), rdN_mk (fg.keep wA gA (fun f => f)) (by simp)⟩
  have hT : hB.get hA.size = some ⟨[.int .i64 t1, .int .i64 t2], .own⟩ := eB ▸ gnew
  have rds : ∀ g : Hp, Fm No hB g → g.rdN hA.size 0 2 = some [.int .i64 t1, .int .i64 t2] := fun g fg => rdN_mk (fg.keep wB hT (fun f => f)) (by simp)
  obtain ⟨r0, n0⟩ := rA hA Fm.refl
  obtain ⟨r1, n1⟩ := rA hZ fZ
  obtain ⟨r2, n2⟩ := rA hB fB
  by_cases hbig : (60 : Int) < (net.length : Int)
  · simp +contextual (disch := omega) only [↓AM, ↓AV, AP, CQ, CN, i64, eA, eZ, gZ0, eP, r0, n0, r1, n1, r2, n2, hbig]
  simp +contextual (disch := omega) only [↓AM, ↓AV, AP, CQ, CN, i64, eA, eZ, gZ0, eP, r0, n0, r1, n1, r2, n2, hbig]
  obtain ⟨hC, eC⟩ : ∃ g, hB.new ⟨rep net.length [.int .i64 0, .int .i64 0, .int .i64 0, .int .i64 0, .int .i64 0], .own⟩ = g := ⟨_, rfl⟩
  have wC : Wf hC := eC ▸ wB.new
  have fC : Fm No hB hC := eC ▸ Fm.new Fm.refl
  have oC : Ow hC 5 (some ⟨hB.size, 0, none⟩) 0 net.length [] := by
    have := Ow.new (h := hB) (z := 5) (n := net.length) (cs := rep net.length [.int .i64 0, .int .i64 0, .int .i64 0, .int .i64 0, .int .i64 0]) (by simp [rep]) (m := 0) (Nat.zero_le _)
    rw [eC] at this
    simpa using this
  have hnn : net.length ≤ 60 := by omega
  refine ⟨by omega, ?_⟩
  simp only [eC]
  refine WL.mk (fun k u' h' => ∃ (i : Nat) (oa' : Option Addr) (cap' : Nat), i ≤ net.length ∧ k = net.length - i ∧ Wf h' ∧ Fm No hB h' ∧ Nw hB oa' ∧ Ow h' 5 oa' i cap' (((fastN net more).take i).flatMap ntC) ∧
    u' = [(3, some (.slice oa net.length c)), (4, some (.slice ob more.length d)), (5, some (.pointer (some ⟨hA.size, 0, none⟩))), (6, some (.int .i64 size)), (7, some (.slice oa' i cap')), (8, some (.int .i64 (i : Int)))])
    ⟨net.length, 0, some ⟨hB.size, 0, none⟩, net.length, by omega, rfl, wC, fC, Nw.new Fm.refl, oC, rfl⟩ ?_
  rintro k u' h1 ⟨i, oa', cap', hi, rfl, w1, f1, nw, ow, rfl⟩
  by_cases hin : i < net.length
  · obtain ⟨b1, o1, s1, x, rfl, p1, hx, r3, -⟩ := (rd.keepW w (fhB.trans f1 fun _ _ f => f) nNo).elem ntC_len rfl hin
    have hxm := List.mem_of_getElem? hx
    have hxb := hby x hxm
    have hfe := fastN_get net more i x hx
    obtain ⟨b, ⟨x1, x2⟩, ⟨d1, d2⟩⟩ := x
    simp only [ntC] at r3
    simp only at hxb
    obtain ⟨h2, e2⟩ : ∃ g, h1.new ⟨[.int .i64 b, .int .i64 x1, .int .i64 x2, .int .i64 d1, .int .i64 d2], .own⟩ = g := ⟨_, rfl⟩
    have w2 : Wf h2 := e2 ▸ w1.new
    have f2 : Fm No h1 h2 := e2 ▸ Fm.new Fm.refl
    have f2' : Fm No hB h2 := f1.trans f2 fun _ _ f => f
    have g2 : h2.get h1.size = some ⟨[.int .i64 b, .int .i64 x1, .int .i64 x2, .int .i64 d1, .int .i64 d2], .own⟩ := e2 ▸ gnew
    have e2z : (h1.new ⟨[.int .i64 0, .int .i64 0, .int .i64 0, .int .i64 0, .int .i64 0], .own⟩).put h1.size ⟨[.int .i64 b, .int .i64 x1, .int .i64 x2, .int .i64 d1, .int .i64 d2], .own⟩ = h2 := by rw [← e2]; exact new_put
    have q0 : h2.rd h1.size 0 = some (.int .i64 b) := rd_mk g2
    have q5 : h2.rdN h1.size 0 5 = some [.int .i64 b, .int .i64 x1, .int .i64 x2, .int .i64 d1, .int .i64 d2] := rdN_mk g2 (by simp)
    have hs2 : (h2.new ⟨[.int .i64 b, .int .i64 x1, .int .i64 x2, .int .i64 d1, .int .i64 d2], .own⟩).src 5 (.slice (some ⟨h2.size, 0, none⟩) 1 1) = some [.int .i64 b, .int .i64 x1, .int .i64 x2, .int .i64 d1, .int .i64 d2] := (Rd.of (z := 5) (n := 1) rfl (rdN_mk gnew (by simp))).src
    by_cases hmi : i < more.length
    · obtain ⟨b2, o2', s2, rfl, p2, v, hmv, rmv⟩ := (rm.keepW w (fhB.trans f2' fun _ _ f => f) nNo).int hmi
      have hvb := hmo v (List.mem_of_getElem? hmv)
      by_cases hle : b ≤ 1000000000 - v
      · obtain ⟨h3, e3⟩ : ∃ g, h2.put h1.size ⟨[.int .i64 (b + v), .int .i64 x1, .int .i64 x2, .int .i64 d1, .int .i64 d2], .own⟩ = g := ⟨_, rfl⟩
        have e3z : h1.new ⟨[.int .i64 (b + v), .int .i64 x1, .int .i64 x2, .int .i64 d1, .int .i64 d2], .own⟩ = h3 := by rw [← e3, ← e2]; exact new_put.symm
        have w3 : Wf h3 := e3z ▸ w1.new
        have f3 : Fm No h1 h3 := e3z ▸ Fm.new Fm.refl
        have f3' : Fm No hB h3 := f1.trans f3 fun _ _ f => f
        have g3 : h3.get h1.size = some ⟨[.int .i64 (b + v), .int .i64 x1, .int .i64 x2, .int .i64 d1, .int .i64 d2], .own⟩ := e3z ▸ gnew
        have q6 : h3.rdN h1.size 0 5 = some [.int .i64 (b + v), .int .i64 x1, .int .i64 x2, .int .i64 d1, .int .i64 d2] := rdN_mk g3 (by simp)
        have hs3 : (h3.new ⟨[.int .i64 (b + v), .int .i64 x1, .int .i64 x2, .int .i64 d1, .int .i64 d2], .own⟩).src 5 (.slice (some ⟨h3.size, 0, none⟩) 1 1) = some [.int .i64 (b + v), .int .i64 x1, .int .i64 x2, .int .i64 d1, .int .i64 d2] := (Rd.of (z := 5) (n := 1) rfl (rdN_mk gnew (by simp))).src
        simp +contextual (disch := omega) only [↓AM, ↓AV, AP, CQ, CN, i64, eA, eZ, gZ0, eP, hin, p1, r3, e2z, e2, q0, q5, hmi, p2, rmv, hle, g2, e3, e3z, q6, hs3]
        have o2 := ow.keep w1 f3 fun _ _ f => f
        refine o2.push (m := 1) w3 rfl ?_ fun oa2 cap2 h6 o6 w6 f6 n6 => ?_
        · omega
        have g6 := grown (f3' : Fm No hB h3) nw f6 n6
        simp +contextual (disch := omega) only [↓AM, ↓AV, AP, CQ, CN, i64, eA, eZ, gZ0, eP, i64]
        refine ⟨_, ?_, i + 1, oa2, cap2, by omega, rfl, w6, g6.1, g6.2, ?_, rfl⟩
        · omega
        · rw [List.take_add_one, hfe, List.flatMap_append]
          have ey : fz (b, (x1, x2), (d1, d2)) more[i]? = (b + v, (x1, x2), (d1, d2)) := by rw [hmv]; unfold fz; simp only; rw [if_pos hle]
          rw [ey]
          exact o6
      · simp +contextual (disch := omega) only [↓AM, ↓AV, AP, CQ, CN, i64, eA, eZ, gZ0, eP, hin, p1, r3, e2z, e2, q0, q5, hmi, p2, rmv, hle, hs2]
        have o2 := ow.keep w1 f2 fun _ _ f => f
        refine o2.push (m := 1) w2 rfl ?_ fun oa2 cap2 h6 o6 w6 f6 n6 => ?_
        · omega
        have g6 := grown (f2' : Fm No hB h2) nw f6 n6
        simp +contextual (disch := omega) only [↓AM, ↓AV, AP, CQ, CN, i64, eA, eZ, gZ0, eP, i64]
        refine ⟨_, ?_, i + 1, oa2, cap2, by omega, rfl, w6, g6.1, g6.2, ?_, rfl⟩
        · omega
        · rw [List.take_add_one, hfe, List.flatMap_append]
          have ey : fz (b, (x1, x2), (d1, d2)) more[i]? = (b, (x1, x2), (d1, d2)) := by rw [hmv]; unfold fz; simp only; rw [if_neg hle]
          rw [ey]
          exact o6
    · simp +contextual (disch := omega) only [↓AM, ↓AV, AP, CQ, CN, i64, eA, eZ, gZ0, eP, hin, p1, r3, e2z, e2, q0, q5, hmi, hs2]
      have o2 := ow.keep w1 f2 fun _ _ f => f
      refine o2.push (m := 1) w2 rfl ?_ fun oa2 cap2 h6 o6 w6 f6 n6 => ?_
      · omega
      have g6 := grown (f2' : Fm No hB h2) nw f6 n6
      simp +contextual (disch := omega) only [↓AM, ↓AV, AP, CQ, CN, i64, eA, eZ, gZ0, eP, i64]
      refine ⟨_, ?_, i + 1, oa2, cap2, by omega, rfl, w6, g6.1, g6.2, ?_, rfl⟩
      · omega
      · rw [List.take_add_one, hfe, List.flatMap_append]
        have ey : fz (b, (x1, x2), (d1, d2)) more[i]? = (b, (x1, x2), (d1, d2)) := by rw [List.getElem?_eq_none (by omega)]; rfl
        rw [ey]
        exact o6
  · have hil : i = net.length := by omega
    subst hil
    have flen := fastN_len net more
    rw [List.take_of_length_le (by omega)] at ow
    have fa := fastN_fa net more (fun k hk => (hmo k hk).1)
    have nz : ∀ (g : Hp) (x y : Value), (g.new ⟨[.int .i64 0, .int .i64 0], .own⟩).put g.size ⟨[x, y], .own⟩ = g.new ⟨[x, y], .own⟩ := fun g x y => new_put
    have n3 := rds h1 f1
    simp +contextual (disch := omega) only [↓AM, ↓AV, AP, CQ, CN, i64, eA, eZ, gZ0, eP, hin, n3]
    refine (c_Transfer (t := (t1, t2)) (rd.keepW w (fhB.trans f1 fun _ _ f => f) nNo) (by omega)).use ?_
    rintro _ h2 w2 ⟨rfl, f2⟩
    have f12 := f1.trans f2 fun _ _ f => f
    obtain ⟨h3, e3⟩ : ∃ g, h2.new ⟨[.int .i64 (tfN net (t1, t2) size), .int .i64 (tfD net (t1, t2) size)], .own⟩ = g := ⟨_, rfl⟩
    have w3 : Wf h3 := e3 ▸ w2.new
    have f3 : Fm No h2 h3 := e3 ▸ Fm.new Fm.refl
    have g3 : h3.get h2.size = some ⟨[.int .i64 (tfN net (t1, t2) size), .int .i64 (tfD net (t1, t2) size)], .own⟩ := e3 ▸ gnew
    have f13 := f12.trans f3 fun _ _ f => f
    have n4 := rds h3 f13
    have ow3 := (ow.keep w1 f2 fun _ _ f => f).keep w2 f3 fun _ _ f => f
    simp +contextual (disch := omega) only [↓AM, ↓AV, AP, CQ, CN, i64, eA, eZ, gZ0, eP, nz, e3, n4]
    have rf : Rd h3 5 oa' (fastN net more).length ((fastN net more).flatMap ntC) := by rw [flen]; exact ow3.rd
    have cf := c_Transfer (c := cap') (t := (t1, t2)) (size := size) rf (by omega)
    rw [flen] at cf
    refine cf.use ?_
    rintro _ h4 w4 ⟨rfl, f4⟩
    obtain ⟨h5, e5⟩ : ∃ g, h4.new ⟨[.int .i64 (tfN (fastN net more) (t1, t2) size), .int .i64 (tfD (fastN net more) (t1, t2) size)], .own⟩ = g := ⟨_, rfl⟩
    have w5 : Wf h5 := e5 ▸ w4.new
    have f5 : Fm No h4 h5 := e5 ▸ Fm.new Fm.refl
    have g5 : h5.get h4.size = some ⟨[.int .i64 (tfN (fastN net more) (t1, t2) size), .int .i64 (tfD (fastN net more) (t1, t2) size)], .own⟩ := e5 ▸ gnew
    have f35 := f4.trans f5 fun _ _ f => f
    have rb : ∀ g : Hp, Fm No h5 g → g.rdN h4.size 0 2 = some [.int .i64 (tfN (fastN net more) (t1, t2) size), .int .i64 (tfD (fastN net more) (t1, t2) size)] ∧ g.rdN h2.size 0 2 = some [.int .i64 (tfN net (t1, t2) size), .int .i64 (tfD net (t1, t2) size)] := fun g fg => ⟨rdN_mk (fg.keep w5 g5 (fun f => f)) (by simp), rdN_mk (fg.keep w5 (f35.keep w3 g3 (fun f => f)) (fun f => f)) (by simp)⟩
    obtain ⟨q1, q2⟩ := rb h5 Fm.refl
    by_cases he : tfE net (t1, t2) size = 0
    case neg =>
      have ee : EqI (tfE net (t1, t2) size) 0 = False := eq_false he
      simp +contextual (disch := omega) only [↓AM, ↓AV, AP, CQ, CN, i64, eA, eZ, gZ0, eP, nz, e3, e5, ee]
      refine c_awake.use ?_
      rintro _ _ _ ⟨rfl, rfl⟩
      simp +contextual (disch := omega) only [↓AM, ↓AV, AP, CQ, CN, i64, eA, eZ, gZ0, eP, nz]
    have ee : EqI (tfE net (t1, t2) size) 0 = True := eq_true he
    rcases tf_fast fa he with h2' | ⟨h0', v1, v2, hc'⟩
    · have e2' : EqI (tfE (fastN net more) (t1, t2) size) 2 = True := eq_true h2'
      simp +contextual (disch := omega) only [↓AM, ↓AV, AP, CQ, CN, i64, eA, eZ, gZ0, eP, nz, e3, e5, ee, e2']
      refine c_awake.use ?_
      rintro _ _ _ ⟨rfl, rfl⟩
      simp +contextual (disch := omega) only [↓AM, ↓AV, AP, CQ, CN, i64, eA, eZ, gZ0, eP, nz]
    · have e2' : EqI (tfE (fastN net more) (t1, t2) size) 2 = False := eq_false (by unfold EqI; omega)
      have e0' : EqI (tfE (fastN net more) (t1, t2) size) 0 = True := eq_true h0'
      simp +contextual (disch := omega) only [↓AM, ↓AV, AP, CQ, CN, i64, eA, eZ, gZ0, eP, nz, e3, e5, ee, e2', e0', q1, q2]
      refine (c_OfT v2).use ?_
      rintro u6 h6 w6 ⟨l6, f6⟩
      obtain ⟨q1, q2⟩ := rb h6 f6
      simp +contextual (disch := omega) only [↓AM, ↓AV, AP, CQ, CN, i64, eA, eZ, gZ0, eP, nz, e3, e5, q1, q2]
      repeat (refine ⟨⟨_, rfl, rfl⟩, ?_⟩)
      refine (c_OfT v1).use ?_
      rintro u7 h7 w7 ⟨l7, f7⟩
      obtain ⟨q1, q2⟩ := rb h7 (f6.trans f7 fun _ _ f => f)
      simp +contextual (disch := omega) only [↓AM, ↓AV, AP, CQ, CN, i64, eA, eZ, gZ0, eP, nz, e3, e5, q1, q2]
      repeat (refine ⟨⟨_, rfl, rfl⟩, ?_⟩)
      refine (c_CmpFT v2 v1 (l6.kp (Kp.fm w6 f7)) l7).use ?_
      rintro _ h8 w8 ⟨rfl, f8⟩
      obtain ⟨q1, q2⟩ := rb h8 ((f6.trans f7 fun _ _ f => f).trans f8 fun _ _ f => f)
      have ec : (cmpZ (tfN (fastN net more) (t1, t2) size * tfD net (t1, t2) size) (tfN net (t1, t2) size * tfD (fastN net more) (t1, t2) size) ≤ 0) = True := eq_true hc'
      simp +contextual (disch := omega) only [↓AM, ↓AV, AP, CQ, CN, i64, eA, eZ, gZ0, eP, nz, e3, e5, q1, q2, ec]
      repeat (refine ⟨⟨_, rfl, rfl⟩, ?_⟩)
      refine c_awake.use ?_
      rintro _ _ w9 ⟨rfl, rfl⟩
      simp +contextual (disch := omega) only [↓AM, ↓AV, AP, CQ, CN, i64, eA, eZ, gZ0, eP, nz, e3, e5, q1, q2]
      repeat (refine ⟨⟨_, rfl, rfl⟩, ?_⟩)
end Go.Proofs.Ytikbdeobghoglaa.LStreamFaster
