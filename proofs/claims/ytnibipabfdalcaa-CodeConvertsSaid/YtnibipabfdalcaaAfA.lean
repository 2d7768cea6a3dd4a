/- The functions of the program in the abstract machine's words, printed by a program of ours; each is the program's by the kernel's reckoning.
   Conditions: none. -/
import Derived.Test.YtnibipabfdalcaaAmZ
import Derived.Test.YtnibipabfdalcaaProg
namespace Go.Proofs.Ytnibipabfdalcaa.Af
open Go Go.RowKit Go.Proofs.Ytnibipabfdalcaa.Am
theorem hm : Try.prog.follows .mixedOrders = true := by kernel_rfl
/-- diorama/dioramalaw20.CodeTracks -/
def dioramalaw20_CodeTracks : AF := ⟨46, [.tmp 6],
 .seq (
  .ops [D 3 (.box (T 0)),
   D 4 (.box (T 1)),
   D 6 (.mv (.const (.bool false)))]) (
 .trim [2, 3, 4] (
  .seq (
   .ops [D 11 (.mv (T 2)),
    D 12 (.len (T 11)),
    D 13 (.bin .gtr (T 12) (I 1000))]) (
  .cond (T 13) (
   .seq (
    .ops [D 14 (.call 6 []),
     D 6 (.mv (T 14))]) (
   .ret)) (
   .skip))) (
 .trim [2, 3, 4, 7, 8] (
  .ops [D 16 (.ldN 2 (T 3)),
   D 17 (.iaa 2 1 (T 4) (I 0)),
   D 18 (.ld1 (T 17)),
   D 19 (.iaa 2 1 (T 4) (I 1)),
   D 20 (.ld1 (T 19)),
   D 21 (.mv (T 2)),
   D 22 (.call 7 [(T 16), (T 18), (T 20), (T 21)]),
   D 15 (.mv (T 22)),
   D 23 (.ext (T 15) 0),
   D 24 (.ext (T 15) 1),
   D 7 (.alloc [(.int .i64 0), (.int .i64 0), (.string ⟨#[]⟩), (.int .i64 0), (.slice none 0 0), (.string ⟨#[]⟩), (.string ⟨#[]⟩), (.int .i64 0), (.slice none 0 0), (.slice none 0 0), (.slice none 0 0)]),
   E (.st 11 (T 7) (T 23)),
   D 8 (.mv (T 24))]) (
 .trim [7, 8, 9, 10] (
  .ops [D 26 (.ldN 2 (T 3)),
   D 27 (.iaa 2 1 (T 4) (I 0)),
   D 28 (.ld1 (T 27)),
   D 29 (.iaa 2 1 (T 4) (I 1)),
   D 30 (.ld1 (T 29)),
   D 31 (.mv (T 2)),
   D 32 (.call 8 [(T 26), (T 28), (T 30), (T 31)]),
   D 25 (.mv (T 32)),
   D 33 (.ext (T 25) 0),
   D 34 (.ext (T 25) 1),
   D 9 (.alloc [(.int .i64 0), (.int .i64 0), (.string ⟨#[]⟩), (.int .i64 0), (.slice none 0 0), (.string ⟨#[]⟩), (.string ⟨#[]⟩), (.int .i64 0), (.slice none 0 0), (.slice none 0 0), (.slice none 0 0)]),
   E (.st 11 (T 9) (T 33)),
   D 10 (.mv (T 34))]) (
 .trim [6] (
  .ops [D 35 (.ldN 11 (T 7)),
   D 36 (.ldN 11 (T 9)),
   D 37 (.call 9 [(T 35), (T 36)]),
   D 38 (.mv (T 37)),
   ⟨(some 39), some (38, true), .mv (T 8)⟩,
   ⟨(some 40), some (38, true), .mv (T 10)⟩,
   ⟨(some 41), some (38, true), .bin .eql (T 39) (T 40)⟩,
   D 42 (.pick (T 38) (T 41) (.const (.bool false))),
   D 43 (.mv (T 42)),
   ⟨(some 44), some (43, true), .call 6 []⟩,
   D 45 (.pick (T 43) (T 44) (.const (.bool false))),
   D 6 (.mv (T 45))]) (
 .ret)))))⟩
theorem dioramalaw20_CodeTracks_ok : Ok Try.prog 3 dioramalaw20_CodeTracks := ⟨by kernel_rfl, by kernel_rfl⟩

/-- diorama/dioramalaw20.awake -/
def dioramalaw20_awake : AF := ⟨35, [.tmp 0],
 .seq (
  .ops [D 0 (.mv (.const (.bool false)))]) (
 .seq (
  .ops [D 6 (.build [(.int .i64 0), (.bool false)] [(0, 1, (I 30)), (1, 1, (.const (.bool true)))]),
   D 1 (.alloc [(.int .i64 0), (.bool false)]),
   E (.st 2 (T 1) (T 6))]) (
 .trim [1, 2, 3] (
  .ops [D 8 (.ldN 2 (T 1)),
   D 9 (.build [(.int .i64 0), (.int .i64 0), (.int .i64 0), (.int .i64 0)] [(2, 1, (I 59)), (3, 1, (I 29))]),
   D 10 (.call 14 [(T 8), (T 9), (I 1)]),
   D 7 (.mv (T 10)),
   D 11 (.ext (T 7) 0),
   D 12 (.ext (T 7) 1),
   D 2 (.alloc [(.int .i64 0), (.int .i64 0), (.int .i64 0), (.int .i64 0)]),
   E (.st 4 (T 2) (T 11)),
   D 3 (.mv (T 12))]) (
 .trim [2, 3, 4, 5] (
  .ops [D 14 (.ldN 2 (T 1)),
   D 15 (.build [(.int .i64 0), (.int .i64 0), (.int .i64 0), (.int .i64 0)] [(1, 1, (I 9)), (2, 1, (I 59)), (3, 1, (I 29))]),
   D 16 (.call 14 [(T 14), (T 15), (I 1)]),
   D 13 (.mv (T 16)),
   D 17 (.ext (T 13) 0),
   D 18 (.ext (T 13) 1),
   D 4 (.alloc [(.int .i64 0), (.int .i64 0), (.int .i64 0), (.int .i64 0)]),
   E (.st 4 (T 4) (T 17)),
   D 5 (.mv (T 18))]) (
 .trim [0] (
  .ops [D 19 (.mv (T 3)),
   D 20 (.bin .eql (T 19) (I 0)),
   D 21 (.mv (T 20)),
   ⟨(some 22), some (21, true), .mv (T 5)⟩,
   ⟨(some 23), some (21, true), .bin .eql (T 22) (I 0)⟩,
   D 24 (.pick (T 21) (T 23) (.const (.bool false))),
   D 25 (.mv (T 24)),
   ⟨(some 26), some (25, true), .ldN 4 (T 2)⟩,
   ⟨(some 27), some (25, true), .build [(.int .i64 0), (.int .i64 0), (.int .i64 0), (.int .i64 0)] [(1, 1, (I 1)), (3, 1, (I 2))]⟩,
   ⟨(some 28), some (25, true), .eqa false [1, 1, 1, 1] (T 26) (T 27)⟩,
   D 29 (.pick (T 25) (T 28) (.const (.bool false))),
   D 30 (.mv (T 29)),
   ⟨(some 31), some (30, true), .ldN 4 (T 4)⟩,
   ⟨(some 32), some (30, true), .build [(.int .i64 0), (.int .i64 0), (.int .i64 0), (.int .i64 0)] [(1, 1, (I 10))]⟩,
   ⟨(some 33), some (30, true), .eqa false [1, 1, 1, 1] (T 31) (T 32)⟩,
   D 34 (.pick (T 30) (T 33) (.const (.bool false))),
   D 0 (.mv (T 34))]) (
 .ret)))))⟩
theorem dioramalaw20_awake_ok : Ok Try.prog 6 dioramalaw20_awake := ⟨by kernel_rfl, by kernel_rfl⟩

/-- diorama/code.Track -/
def code_Track : AF := ⟨90, [.cellN 11 8, .tmp 9],
 .seq (
  .ops [D 4 (.box (T 0)),
   D 8 (.alloc [(.int .i64 0), (.int .i64 0), (.string ⟨#[]⟩), (.int .i64 0), (.slice none 0 0), (.string ⟨#[]⟩), (.string ⟨#[]⟩), (.int .i64 0), (.slice none 0 0), (.slice none 0 0), (.slice none 0 0)]),
   D 9 (.mv (I 0))]) (
 .trim [1, 2, 3, 4, 8] (
  .seq (
   .ops [D 17 (.ldN 2 (T 4)),
    D 18 (.call 15 [(T 17)]),
    D 10 (.mv (T 18))]) (
  .seq (
   .ops [D 19 (.mv (T 10)),
    D 20 (.bin .neq (T 19) (I 0))]) (
  .cond (T 20) (
   .seq (
    .ops [D 21 (.build [(.int .i64 0), (.int .i64 0), (.string ⟨#[]⟩), (.int .i64 0), (.slice none 0 0), (.string ⟨#[]⟩), (.string ⟨#[]⟩), (.int .i64 0), (.slice none 0 0), (.slice none 0 0), (.slice none 0 0)] []),
     D 22 (.mv (T 10)),
     E (.st 11 (T 8) (T 21)),
     D 9 (.mv (T 22))]) (
   .ret)) (
   .skip)))) (
 .seq (
  .ops [D 11 (.mv (.const (.int .u8 0)))]) (
 .cut [1, 2, 3, 4, 8, 11] (
  .seq (
   .ops [D 23 (.fa 1 (T 4)),
    D 24 (.ld1 (T 23))]) (
  .cond (T 24) (
   .ops [D 11 (.mv (.const (.int .u8 1)))]) (
   .skip))) (
 .trim [3, 4, 8, 12] (
  .ops [D 25 (.mv (T 1)),
   D 26 (.mv (T 2)),
   D 27 (.fa 0 (T 4)),
   D 28 (.ld1 (T 27)),
   D 29 (.cvi .u8 (T 28)),
   D 30 (.mv (T 11)),
   D 31 (.bslice [(.int .u8 0), (.int .u8 0)] 2 [(0, 1, (T 29)), (1, 1, (T 30))]),
   D 32 (.build [(.int .i64 0), (.int .i64 0), (.string ⟨#[]⟩), (.int .i64 0), (.slice none 0 0), (.string ⟨#[]⟩), (.string ⟨#[]⟩), (.int .i64 0), (.slice none 0 0), (.slice none 0 0), (.slice none 0 0)] [(0, 1, (T 25)), (1, 1, (I 6)), (2, 1, (.const (.string ⟨#[116, 109, 99, 49]⟩))), (3, 1, (T 26)), (4, 1, (T 31)), (5, 1, (.const (.string ⟨#[117, 110, 100]⟩)))]),
   D 12 (.alloc [(.int .i64 0), (.int .i64 0), (.string ⟨#[]⟩), (.int .i64 0), (.slice none 0 0), (.string ⟨#[]⟩), (.string ⟨#[]⟩), (.int .i64 0), (.slice none 0 0), (.slice none 0 0), (.slice none 0 0)]),
   E (.st 11 (T 12) (T 32))]) (
 .trim [8, 12] (
  .seq (
   .ops [D 33 (.mv (T 3)),
    D 34 (.len (T 33)),
    D 35 (.mv (I 0))]) (
  .block 0 (
   .loop [4, 8, 12, 33, 34, 35] (
    .seq (
     .ops [D 36 (.bin .lss (T 35) (T 34))]) (
    .seq (
     .cond (T 36) (
      .skip) (
      .exit 0)) (
    .trim [4, 8, 12, 33, 34, 35] (
     .block 1 (
      .seq (
       .ops [D 37 (.ia 6 (T 33) (T 35)),
        D 38 (.ldN 6 (T 37)),
        D 14 (.alloc [(.int .i64 0), (.int .i64 0), (.int .i64 0), (.bool false), (.slice none 0 0), (.slice none 0 0)]),
        E (.st 6 (T 14) (T 38))]) (
      .seq (
       .ops [D 39 (.fa 0 (T 14)),
        D 40 (.ld1 (T 39)),
        D 15 (.mv (T 40))]) (
      .trim [4, 8, 12, 14, 15, 33, 34, 35] (
       .block 2 (
        .trim [4, 8, 12, 14, 15, 33, 34, 35, 41] (
         .ops [D 42 (.mv (T 15)),
          D 43 (.bin .lss (T 42) (I 0)),
          D 44 (.mv (T 43)),
          ⟨(some 45), some (44, false), .mv (T 15)⟩,
          ⟨(some 46), some (44, false), .ldN 2 (T 4)⟩,
          ⟨(some 47), some (44, false), .build [(.int .i64 0), (.bool false)] [(0, 2, (T 46))]⟩,
          ⟨(some 48), some (44, false), .call 16 [(T 47)]⟩,
          ⟨(some 49), some (44, false), .bin .geq (T 45) (T 48)⟩,
          D 50 (.pick (T 44) (.const (.bool true)) (T 49)),
          D 41 (.mv (T 50))]) (
        .cond (T 41) (
         .seq (
          .ops [D 51 (.build [(.int .i64 0), (.int .i64 0), (.string ⟨#[]⟩), (.int .i64 0), (.slice none 0 0), (.string ⟨#[]⟩), (.string ⟨#[]⟩), (.int .i64 0), (.slice none 0 0), (.slice none 0 0), (.slice none 0 0)] []),
           E (.st 11 (T 8) (T 51)),
           D 9 (.mv (I 1))]) (
         .ret)) (
         .seq (
          .ops [D 53 (.fa 5 (T 14)),
           D 54 (.ld1 (T 53)),
           D 55 (.len (T 54)),
           D 56 (.bin .gtr (T 55) (I 0)),
           D 52 (.mv (T 56))]) (
         .cond (T 52) (
          .seq (
           .ops [D 57 (.build [(.int .i64 0), (.int .i64 0), (.string ⟨#[]⟩), (.int .i64 0), (.slice none 0 0), (.string ⟨#[]⟩), (.string ⟨#[]⟩), (.int .i64 0), (.slice none 0 0), (.slice none 0 0), (.slice none 0 0)] []),
            E (.st 11 (T 8) (T 57)),
            D 9 (.mv (I 4))]) (
          .ret)) (
          .skip)))))) (
      .ops [D 58 (.fa 10 (T 12)),
       D 59 (.ld1 (T 58)),
       D 60 (.fa 1 (T 14)),
       D 61 (.ld1 (T 60)),
       D 62 (.fa 1 (T 14)),
       D 63 (.ld1 (T 62)),
       D 64 (.fa 2 (T 14)),
       D 65 (.ld1 (T 64)),
       D 66 (.mv (T 15)),
       D 67 (.shrc (T 66) 24),
       D 68 (.cvi .u8 (T 67)),
       D 69 (.mv (T 15)),
       D 70 (.shrc (T 69) 16),
       D 71 (.cvi .u8 (T 70)),
       D 72 (.mv (T 15)),
       D 73 (.shrc (T 72) 8),
       D 74 (.cvi .u8 (T 73)),
       D 75 (.mv (T 15)),
       D 76 (.cvi .u8 (T 75)),
       D 77 (.bslice [(.int .u8 0), (.int .u8 0), (.int .u8 0), (.int .u8 0)] 4 [(0, 1, (T 68)), (1, 1, (T 71)), (2, 1, (T 74)), (3, 1, (T 76))]),
       D 78 (.build [(.int .i64 0), (.int .i64 0), (.int .i64 0), (.bool false), (.slice none 0 0), (.slice none 0 0)] [(0, 1, (T 61)), (1, 1, (T 63)), (2, 1, (T 65)), (3, 1, (.const (.bool true))), (5, 1, (T 77))]),
       D 79 (.bslice [(.int .i64 0), (.int .i64 0), (.int .i64 0), (.bool false), (.slice none 0 0), (.slice none 0 0)] 1 [(0, 6, (T 78))]),
       D 80 (.app 6 80 (T 59) (T 79)),
       D 81 (.fa 10 (T 12)),
       E (.st 1 (T 81) (T 80))]))))) (
    .ops [D 82 (.bin .add (T 35) (I 1)),
     D 35 (.mv (T 82))]))))))) (
 .trim [8, 12] (
  .seq (
   .ops [D 83 (.ldN 11 (T 12)),
    D 84 (.call 17 [(T 83)]),
    D 16 (.mv (T 84))]) (
  .seq (
   .ops [D 85 (.mv (T 16)),
    D 86 (.bin .neq (T 85) (I 0))]) (
  .cond (T 86) (
   .seq (
    .ops [D 87 (.build [(.int .i64 0), (.int .i64 0), (.string ⟨#[]⟩), (.int .i64 0), (.slice none 0 0), (.string ⟨#[]⟩), (.string ⟨#[]⟩), (.int .i64 0), (.slice none 0 0), (.slice none 0 0), (.slice none 0 0)] []),
     D 88 (.mv (T 16)),
     E (.st 11 (T 8) (T 87)),
     D 9 (.mv (T 88))]) (
   .ret)) (
   .skip)))) (
 .seq (
  .ops [D 89 (.ldN 11 (T 12)),
   E (.st 11 (T 8) (T 89)),
   D 9 (.mv (I 0))]) (
 .ret))))))))⟩
theorem code_Track_ok : Ok Try.prog 7 code_Track := ⟨by kernel_rfl, by kernel_rfl⟩

/-- diorama/dioramaref20.Track -/
def dioramaref20_Track : AF := ⟨103, [.cellN 11 8, .tmp 9],
 .seq (
  .ops [D 4 (.box (T 0)),
   D 8 (.alloc [(.int .i64 0), (.int .i64 0), (.string ⟨#[]⟩), (.int .i64 0), (.slice none 0 0), (.string ⟨#[]⟩), (.string ⟨#[]⟩), (.int .i64 0), (.slice none 0 0), (.slice none 0 0), (.slice none 0 0)]),
   D 9 (.mv (I 0))]) (
 .trim [1, 2, 3, 4, 8, 10, 11] (
  .ops [D 17 (.ldN 2 (T 4)),
   D 18 (.call 18 [(T 17)]),
   D 16 (.mv (T 18)),
   D 19 (.ext (T 16) 0),
   D 20 (.ext (T 16) 1),
   D 10 (.mv (T 19)),
   D 11 (.mv (T 20))]) (
 .trim [1, 2, 3, 4, 8, 10] (
  .seq (
   .ops [D 21 (.mv (T 11)),
    D 22 (.bin .neq (T 21) (I 0))]) (
  .cond (T 22) (
   .seq (
    .ops [D 23 (.build [(.int .i64 0), (.int .i64 0), (.string ⟨#[]⟩), (.int .i64 0), (.slice none 0 0), (.string ⟨#[]⟩), (.string ⟨#[]⟩), (.int .i64 0), (.slice none 0 0), (.slice none 0 0), (.slice none 0 0)] []),
     D 24 (.mv (T 11)),
     E (.st 11 (T 8) (T 23)),
     D 9 (.mv (T 24))]) (
   .ret)) (
   .skip))) (
 .trim [3, 4, 8, 10, 12] (
  .ops [D 25 (.mv (T 1)),
   D 26 (.mv (T 2)),
   D 27 (.fa 0 (T 4)),
   D 28 (.ld1 (T 27)),
   D 29 (.cvi .u8 (T 28)),
   D 30 (.bslice [(.int .u8 0), (.int .u8 0)] 2 [(0, 1, (T 29)), (1, 1, (.const (.int .u8 0)))]),
   D 31 (.build [(.int .i64 0), (.int .i64 0), (.string ⟨#[]⟩), (.int .i64 0), (.slice none 0 0), (.string ⟨#[]⟩), (.string ⟨#[]⟩), (.int .i64 0), (.slice none 0 0), (.slice none 0 0), (.slice none 0 0)] [(0, 1, (T 25)), (1, 1, (I 6)), (2, 1, (.const (.string ⟨#[116, 109, 99, 49]⟩))), (3, 1, (T 26)), (4, 1, (T 30)), (5, 1, (.const (.string ⟨#[117, 110, 100]⟩)))]),
   D 12 (.alloc [(.int .i64 0), (.int .i64 0), (.string ⟨#[]⟩), (.int .i64 0), (.slice none 0 0), (.string ⟨#[]⟩), (.string ⟨#[]⟩), (.int .i64 0), (.slice none 0 0), (.slice none 0 0), (.slice none 0 0)]),
   E (.st 11 (T 12) (T 31))]) (
 .cut [3, 8, 10, 12] (
  .seq (
   .ops [D 32 (.fa 1 (T 4)),
    D 33 (.ld1 (T 32))]) (
  .cond (T 33) (
   .ops [D 34 (.fa 4 (T 12)),
    D 35 (.ld1 (T 34)),
    D 36 (.ia 1 (T 35) (I 1)),
    E (.st 1 (T 36) (.const (.int .u8 1)))]) (
   .skip))) (
 .trim [8, 12] (
  .seq (
   .ops [D 13 (.mv (I 0))]) (
  .block 0 (
   .loop [3, 8, 10, 12, 13] (
    .seq (
     .seq (
      .ops [D 37 (.mv (T 13)),
       D 38 (.mv (T 3)),
       D 39 (.len (T 38)),
       D 40 (.bin .lss (T 37) (T 39))]) (
     .cond (T 40) (
      .skip) (
      .exit 0))) (
    .trim [3, 8, 10, 12, 13] (
     .block 1 (
      .trim [3, 8, 10, 12, 13, 14] (
       .ops [D 43 (.mv (T 3)),
        D 44 (.mv (T 13)),
        D 45 (.ia 6 (T 43) (T 44)),
        D 46 (.fa 0 (T 45)),
        D 47 (.ld1 (T 46)),
        D 14 (.mv (T 47))]) (
      .trim [3, 8, 10, 12, 13, 14] (
       .seq (
        .ops [D 48 (.mv (T 14)),
         D 49 (.mv (T 10)),
         D 50 (.bin .sub (T 49) (I 1)),
         D 51 (.call 19 [(T 48), (I 0), (T 50)]),
         D 52 (.un .not (T 51))]) (
       .cond (T 52) (
        .seq (
         .ops [D 53 (.build [(.int .i64 0), (.int .i64 0), (.string ⟨#[]⟩), (.int .i64 0), (.slice none 0 0), (.string ⟨#[]⟩), (.string ⟨#[]⟩), (.int .i64 0), (.slice none 0 0), (.slice none 0 0), (.slice none 0 0)] []),
          E (.st 11 (T 8) (T 53)),
          D 9 (.mv (I 1))]) (
        .ret)) (
        .skip))) (
      .trim [3, 8, 10, 12, 13, 14] (
       .trim [3, 8, 10, 12, 13, 14, 60] (
        .ops [D 54 (.mv (T 3)),
         D 55 (.mv (T 13)),
         D 56 (.ia 6 (T 54) (T 55)),
         D 57 (.fa 5 (T 56)),
         D 58 (.ld1 (T 57)),
         D 59 (.len (T 58)),
         D 60 (.bin .gtr (T 59) (I 0))]) (
       .cond (T 60) (
        .seq (
         .ops [D 61 (.build [(.int .i64 0), (.int .i64 0), (.string ⟨#[]⟩), (.int .i64 0), (.slice none 0 0), (.string ⟨#[]⟩), (.string ⟨#[]⟩), (.int .i64 0), (.slice none 0 0), (.slice none 0 0), (.slice none 0 0)] []),
          E (.st 11 (T 8) (T 61)),
          D 9 (.mv (I 4))]) (
        .ret)) (
        .skip))) (
      .trim [3, 8, 10, 12, 13, 15] (
       .ops [D 62 (.mv (T 14)),
        D 63 (.shrc (T 62) 24),
        D 64 (.cvi .u8 (T 63)),
        D 65 (.mv (T 14)),
        D 66 (.shrc (T 65) 16),
        D 67 (.cvi .u8 (T 66)),
        D 68 (.mv (T 14)),
        D 69 (.shrc (T 68) 8),
        D 70 (.cvi .u8 (T 69)),
        D 71 (.mv (T 14)),
        D 72 (.cvi .u8 (T 71)),
        D 73 (.bslice [(.int .u8 0), (.int .u8 0), (.int .u8 0), (.int .u8 0)] 4 [(0, 1, (T 64)), (1, 1, (T 67)), (2, 1, (T 70)), (3, 1, (T 72))]),
        D 15 (.mv (T 73))]) (
      .draw [⟨0, 0, 0, D 74 (.fa 10 (T 12))⟩,
       ⟨1, 1, 1, D 75 (.ld1 (T 74))⟩,
       ⟨2, 0, 0, D 76 (.mv (T 3))⟩,
       ⟨3, 0, 0, D 77 (.mv (T 13))⟩,
       ⟨4, 0, 12, D 78 (.ia 6 (T 76) (T 77))⟩,
       ⟨5, 0, 28, D 79 (.fa 1 (T 78))⟩,
       ⟨6, 1, 60, D 80 (.ld1 (T 79))⟩,
       ⟨7, 0, 0, D 81 (.mv (T 3))⟩,
       ⟨8, 0, 0, D 82 (.mv (T 13))⟩,
       ⟨9, 0, 384, D 83 (.ia 6 (T 81) (T 82))⟩,
       ⟨10, 0, 896, D 84 (.fa 1 (T 83))⟩,
       ⟨11, 1, 1920, D 85 (.ld1 (T 84))⟩,
       ⟨12, 0, 0, D 86 (.mv (T 3))⟩,
       ⟨13, 0, 0, D 87 (.mv (T 13))⟩,
       ⟨14, 0, 12288, D 88 (.ia 6 (T 86) (T 87))⟩,
       ⟨15, 0, 28672, D 89 (.fa 2 (T 88))⟩,
       ⟨16, 1, 61440, D 90 (.ld1 (T 89))⟩,
       ⟨17, 0, 0, D 91 (.mv (T 15))⟩,
       ⟨18, 0, 262140, D 92 (.build [(.int .i64 0), (.int .i64 0), (.int .i64 0), (.bool false), (.slice none 0 0), (.slice none 0 0)] [(0, 1, (T 80)), (1, 1, (T 85)), (2, 1, (T 90)), (3, 1, (.const (.bool true))), (5, 1, (T 91))])⟩,
       ⟨19, 2, 524284, D 93 (.bslice [(.int .i64 0), (.int .i64 0), (.int .i64 0), (.bool false), (.slice none 0 0), (.slice none 0 0)] 1 [(0, 6, (T 92))])⟩,
       ⟨20, 4, 1048575, D 94 (.app 6 80 (T 75) (T 93))⟩,
       ⟨21, 0, 2097151, D 95 (.fa 10 (T 12))⟩,
       ⟨22, 4, 4194303, E (.st 1 (T 95) (T 94))⟩])))))) (
    .ops [D 41 (.mv (T 13)),
     D 42 (.bin .add (T 41) (I 1)),
     D 13 (.mv (T 42))])))))) (
 .seq (
  .ops [D 96 (.ldN 11 (T 12)),
   D 97 (.call 20 [(T 96)]),
   D 11 (.mv (T 97))]) (
 .trim [8, 12] (
  .seq (
   .ops [D 98 (.mv (T 11)),
    D 99 (.bin .neq (T 98) (I 0))]) (
  .cond (T 99) (
   .seq (
    .ops [D 100 (.build [(.int .i64 0), (.int .i64 0), (.string ⟨#[]⟩), (.int .i64 0), (.slice none 0 0), (.string ⟨#[]⟩), (.string ⟨#[]⟩), (.int .i64 0), (.slice none 0 0), (.slice none 0 0), (.slice none 0 0)] []),
     D 101 (.mv (T 11)),
     E (.st 11 (T 8) (T 100)),
     D 9 (.mv (T 101))]) (
   .ret)) (
   .skip))) (
 .seq (
  .ops [D 102 (.ldN 11 (T 12)),
   E (.st 11 (T 8) (T 102)),
   D 9 (.mv (I 0))]) (
 .ret)))))))))⟩
theorem dioramaref20_Track_ok : Ok Try.prog 8 dioramaref20_Track := ⟨by kernel_rfl, by kernel_rfl⟩

/-- diorama/dioramaref00.EqTrack -/
def dioramaref00_EqTrack : AF := ⟨78, [.tmp 4],
 .seq (
  .ops [D 2 (.box (T 0)),
   D 3 (.box (T 1)),
   D 4 (.mv (.const (.bool false)))]) (
 .trim [2, 3] (
  .trim [2, 3, 51] (
   .ops [D 5 (.fa 0 (T 2)),
    D 6 (.ld1 (T 5)),
    D 7 (.fa 0 (T 3)),
    D 8 (.ld1 (T 7)),
    D 9 (.bin .neq (T 6) (T 8)),
    D 10 (.mv (T 9)),
    ⟨(some 11), some (10, false), .fa 1 (T 2)⟩,
    ⟨(some 12), some (10, false), .ld1 (T 11)⟩,
    ⟨(some 13), some (10, false), .fa 1 (T 3)⟩,
    ⟨(some 14), some (10, false), .ld1 (T 13)⟩,
    ⟨(some 15), some (10, false), .bin .neq (T 12) (T 14)⟩,
    D 16 (.pick (T 10) (.const (.bool true)) (T 15)),
    D 17 (.mv (T 16)),
    ⟨(some 18), some (17, false), .fa 2 (T 2)⟩,
    ⟨(some 19), some (17, false), .ld1 (T 18)⟩,
    ⟨(some 20), some (17, false), .fa 2 (T 3)⟩,
    ⟨(some 21), some (17, false), .ld1 (T 20)⟩,
    ⟨(some 22), some (17, false), .bin .neq (T 19) (T 21)⟩,
    D 23 (.pick (T 17) (.const (.bool true)) (T 22)),
    D 24 (.mv (T 23)),
    ⟨(some 25), some (24, false), .fa 3 (T 2)⟩,
    ⟨(some 26), some (24, false), .ld1 (T 25)⟩,
    ⟨(some 27), some (24, false), .fa 3 (T 3)⟩,
    ⟨(some 28), some (24, false), .ld1 (T 27)⟩,
    ⟨(some 29), some (24, false), .bin .neq (T 26) (T 28)⟩,
    D 30 (.pick (T 24) (.const (.bool true)) (T 29)),
    D 31 (.mv (T 30)),
    ⟨(some 32), some (31, false), .fa 5 (T 2)⟩,
    ⟨(some 33), some (31, false), .ld1 (T 32)⟩,
    ⟨(some 34), some (31, false), .fa 5 (T 3)⟩,
    ⟨(some 35), some (31, false), .ld1 (T 34)⟩,
    ⟨(some 36), some (31, false), .bin .neq (T 33) (T 35)⟩,
    D 37 (.pick (T 31) (.const (.bool true)) (T 36)),
    D 38 (.mv (T 37)),
    ⟨(some 39), some (38, false), .fa 6 (T 2)⟩,
    ⟨(some 40), some (38, false), .ld1 (T 39)⟩,
    ⟨(some 41), some (38, false), .fa 6 (T 3)⟩,
    ⟨(some 42), some (38, false), .ld1 (T 41)⟩,
    ⟨(some 43), some (38, false), .bin .neq (T 40) (T 42)⟩,
    D 44 (.pick (T 38) (.const (.bool true)) (T 43)),
    D 45 (.mv (T 44)),
    ⟨(some 46), some (45, false), .fa 7 (T 2)⟩,
    ⟨(some 47), some (45, false), .ld1 (T 46)⟩,
    ⟨(some 48), some (45, false), .fa 7 (T 3)⟩,
    ⟨(some 49), some (45, false), .ld1 (T 48)⟩,
    ⟨(some 50), some (45, false), .bin .neq (T 47) (T 49)⟩,
    D 51 (.pick (T 45) (.const (.bool true)) (T 50))]) (
  .cond (T 51) (
   .seq (
    .ops [D 4 (.mv (.const (.bool false)))]) (
   .ret)) (
   .skip))) (
 .trim [4] (
  .ops [D 52 (.fa 4 (T 2)),
   D 53 (.ld1 (T 52)),
   D 54 (.fa 4 (T 3)),
   D 55 (.ld1 (T 54)),
   D 56 (.call 21 [(T 53), (T 55)]),
   D 57 (.mv (T 56)),
   ⟨(some 58), some (57, true), .fa 8 (T 2)⟩,
   ⟨(some 59), some (57, true), .ld1 (T 58)⟩,
   ⟨(some 60), some (57, true), .fa 8 (T 3)⟩,
   ⟨(some 61), some (57, true), .ld1 (T 60)⟩,
   ⟨(some 62), some (57, true), .call 22 [(T 59), (T 61)]⟩,
   D 63 (.pick (T 57) (T 62) (.const (.bool false))),
   D 64 (.mv (T 63)),
   ⟨(some 65), some (64, true), .fa 9 (T 2)⟩,
   ⟨(some 66), some (64, true), .ld1 (T 65)⟩,
   ⟨(some 67), some (64, true), .fa 9 (T 3)⟩,
   ⟨(some 68), some (64, true), .ld1 (T 67)⟩,
   ⟨(some 69), some (64, true), .call 23 [(T 66), (T 68)]⟩,
   D 70 (.pick (T 64) (T 69) (.const (.bool false))),
   D 71 (.mv (T 70)),
   ⟨(some 72), some (71, true), .fa 10 (T 2)⟩,
   ⟨(some 73), some (71, true), .ld1 (T 72)⟩,
   ⟨(some 74), some (71, true), .fa 10 (T 3)⟩,
   ⟨(some 75), some (71, true), .ld1 (T 74)⟩,
   ⟨(some 76), some (71, true), .call 24 [(T 73), (T 75)]⟩,
   D 77 (.pick (T 71) (T 76) (.const (.bool false))),
   D 4 (.mv (T 77))]) (
 .ret)))⟩
theorem dioramaref00_EqTrack_ok : Ok Try.prog 9 dioramaref00_EqTrack := ⟨by kernel_rfl, by kernel_rfl⟩

/-- diorama/code.Add -/
def code_Add : AF := ⟨32, [.cellN 4 6, .tmp 7],
 .seq (
  .ops [D 3 (.box (T 0)),
   D 4 (.box (T 1)),
   D 6 (.alloc [(.int .i64 0), (.int .i64 0), (.int .i64 0), (.int .i64 0)]),
   D 7 (.mv (I 0))]) (
 .trim [2, 3, 4, 6] (
  .seq (
   .ops [D 10 (.ldN 2 (T 3)),
    D 11 (.ldN 4 (T 4)),
    D 12 (.call 43 [(T 10), (T 11)]),
    D 8 (.mv (T 12))]) (
  .seq (
   .ops [D 13 (.mv (T 8)),
    D 14 (.bin .neq (T 13) (I 0))]) (
  .cond (T 14) (
   .seq (
    .ops [D 15 (.build [(.int .i64 0), (.int .i64 0), (.int .i64 0), (.int .i64 0)] []),
     D 16 (.mv (T 8)),
     E (.st 4 (T 6) (T 15)),
     D 7 (.mv (T 16))]) (
   .ret)) (
   .skip)))) (
 .trim [2, 3, 4, 6] (
  .seq (
   .ops [D 17 (.mv (T 2)),
    D 18 (.call 44 [(T 17), (I (-1099511627776)), (I 1099511627776)]),
    D 19 (.un .not (T 18))]) (
  .cond (T 19) (
   .seq (
    .ops [D 20 (.build [(.int .i64 0), (.int .i64 0), (.int .i64 0), (.int .i64 0)] []),
     E (.st 4 (T 6) (T 20)),
     D 7 (.mv (I 1))]) (
   .ret)) (
   .skip))) (
 .seq (
  .ops [D 21 (.ldN 2 (T 3)),
   D 22 (.build [(.int .i64 0), (.bool false)] [(0, 2, (T 21))]),
   D 9 (.alloc [(.int .i64 0), (.bool false)]),
   E (.st 2 (T 9) (T 22))]) (
 .trim [6, 7] (
  .draw [⟨0, 1, 0, D 23 (.ldN 2 (T 9))⟩,
   ⟨1, 1, 0, D 24 (.ldN 2 (T 9))⟩,
   ⟨2, 1, 0, D 25 (.ldN 2 (T 9))⟩,
   ⟨3, 1, 0, D 26 (.ldN 4 (T 4))⟩,
   ⟨5, 0, 0, D 28 (.mv (T 2))⟩,
   ⟨4, 4, 12, D 27 (.call 46 [(T 25), (T 26)])⟩,
   ⟨6, 0, 60, D 29 (.bin .add (T 27) (T 28))⟩,
   ⟨7, 4, 126, D 30 (.call 45 [(T 24), (T 29)])⟩,
   ⟨8, 4, 255, D 31 (.call 29 [(T 23), (T 30)])⟩,
   ⟨9, 4, 511, E (.st 4 (T 6) (T 31))⟩,
   ⟨10, 0, 1023, D 7 (.mv (I 0))⟩]) (
 .ret)))))⟩
theorem code_Add_ok : Ok Try.prog 14 code_Add := ⟨by kernel_rfl, by kernel_rfl⟩

/-- diorama/code.Check -/
def code_Check : AF := ⟨21, [.tmp 2],
 .seq (
  .ops [D 1 (.box (T 0)),
   D 2 (.mv (I 0))]) (
 .trim [] (
  .trim [20] (
   .ops [D 3 (.fa 0 (T 1)),
    D 4 (.ld1 (T 3)),
    D 5 (.call 44 [(T 4), (I 1), (I 60)]),
    D 6 (.un .not (T 5)),
    D 7 (.mv (T 6)),
    ⟨(some 8), some (7, false), .fa 1 (T 1)⟩,
    ⟨(some 9), some (7, false), .ld1 (T 8)⟩,
    ⟨(some 10), some (7, false), .mv (T 9)⟩,
    ⟨(some 11), some (10, true), .fa 0 (T 1)⟩,
    ⟨(some 12), some (10, true), .ld1 (T 11)⟩,
    ⟨(some 13), some (10, true), .bin .neq (T 12) (I 30)⟩,
    ⟨(some 14), some (7, false), .pick (T 10) (T 13) (.const (.bool false))⟩,
    ⟨(some 15), some (7, false), .mv (T 14)⟩,
    ⟨(some 16), some (15, true), .fa 0 (T 1)⟩,
    ⟨(some 17), some (15, true), .ld1 (T 16)⟩,
    ⟨(some 18), some (15, true), .bin .neq (T 17) (I 60)⟩,
    ⟨(some 19), some (7, false), .pick (T 15) (T 18) (.const (.bool false))⟩,
    D 20 (.pick (T 7) (.const (.bool true)) (T 19))]) (
  .cond (T 20) (
   .seq (
    .ops [D 2 (.mv (I 1))]) (
   .ret)) (
   .skip))) (
 .seq (
  .ops [D 2 (.mv (I 0))]) (
 .ret)))⟩
theorem code_Check_ok : Ok Try.prog 15 code_Check := ⟨by kernel_rfl, by kernel_rfl⟩

/-- (diorama/code.steps).day -/
def code_steps__day : AF := ⟨6, [.tmp 2],
 .seq (
  .ops [D 1 (.box (T 0)),
   D 2 (.mv (I 0))]) (
 .seq (
  .ops [D 3 (.ldN 2 (T 1)),
   D 4 (.call 47 [(T 3)]),
   D 5 (.bin .mul (I 144) (T 4)),
   D 2 (.mv (T 5))]) (
 .ret))⟩
theorem code_steps__day_ok : Ok Try.prog 16 code_steps__day := ⟨by kernel_rfl, by kernel_rfl⟩

/-- diorama/model.CheckTrack -/
def model_CheckTrack : AF := ⟨155, [.tmp 2],
 .seq (
  .ops [D 1 (.box (T 0)),
   D 2 (.mv (I 0))]) (
 .trim [1] (
  .trim [1, 51] (
   .ops [D 12 (.fa 0 (T 1)),
    D 13 (.ld1 (T 12)),
    D 14 (.call 48 [(T 13), (I 1), (I 1000)]),
    D 15 (.un .not (T 14)),
    D 16 (.mv (T 15)),
    ⟨(some 17), some (16, false), .fa 1 (T 1)⟩,
    ⟨(some 18), some (16, false), .ld1 (T 17)⟩,
    ⟨(some 19), some (16, false), .call 48 [(T 18), (I 1), (I 7)]⟩,
    ⟨(some 20), some (16, false), .un .not (T 19)⟩,
    D 21 (.pick (T 16) (.const (.bool true)) (T 20)),
    D 22 (.mv (T 21)),
    ⟨(some 23), some (22, false), .fa 2 (T 1)⟩,
    ⟨(some 24), some (22, false), .ld1 (T 23)⟩,
    ⟨(some 25), some (22, false), .call 49 [(T 24), (I 4), (.const (.bool true))]⟩,
    ⟨(some 26), some (22, false), .un .not (T 25)⟩,
    D 27 (.pick (T 22) (.const (.bool true)) (T 26)),
    D 28 (.mv (T 27)),
    ⟨(some 29), some (28, false), .fa 3 (T 1)⟩,
    ⟨(some 30), some (28, false), .ld1 (T 29)⟩,
    ⟨(some 31), some (28, false), .call 48 [(T 30), (I 1), (I 1000000)]⟩,
    ⟨(some 32), some (28, false), .un .not (T 31)⟩,
    D 33 (.pick (T 28) (.const (.bool true)) (T 32)),
    D 34 (.mv (T 33)),
    ⟨(some 35), some (34, false), .fa 5 (T 1)⟩,
    ⟨(some 36), some (34, false), .ld1 (T 35)⟩,
    ⟨(some 37), some (34, false), .call 49 [(T 36), (I 3), (.const (.bool false))]⟩,
    ⟨(some 38), some (34, false), .un .not (T 37)⟩,
    D 39 (.pick (T 34) (.const (.bool true)) (T 38)),
    D 40 (.mv (T 39)),
    ⟨(some 41), some (40, false), .fa 6 (T 1)⟩,
    ⟨(some 42), some (40, false), .ld1 (T 41)⟩,
    ⟨(some 43), some (40, false), .call 50 [(T 42)]⟩,
    ⟨(some 44), some (40, false), .un .not (T 43)⟩,
    D 45 (.pick (T 40) (.const (.bool true)) (T 44)),
    D 46 (.mv (T 45)),
    ⟨(some 47), some (46, false), .fa 7 (T 1)⟩,
    ⟨(some 48), some (46, false), .ld1 (T 47)⟩,
    ⟨(some 49), some (46, false), .call 48 [(T 48), (I 0), (I 1099511627776)]⟩,
    ⟨(some 50), some (46, false), .un .not (T 49)⟩,
    D 51 (.pick (T 46) (.const (.bool true)) (T 50))]) (
  .cond (T 51) (
   .seq (
    .ops [D 2 (.mv (I 1))]) (
   .ret)) (
   .skip))) (
 .trim [1] (
  .seq (
   .ops [D 52 (.fa 9 (T 1)),
    D 53 (.ld1 (T 52)),
    D 54 (.len (T 53)),
    D 55 (.mv (I 0))]) (
  .block 0 (
   .loop [1, 53, 54, 55] (
    .seq (
     .ops [D 56 (.bin .lss (T 55) (T 54))]) (
    .seq (
     .cond (T 56) (
      .skip) (
      .exit 0)) (
    .trim [1, 53, 54, 55] (
     .block 1 (
      .seq (
       .ops [D 57 (.ia 2 (T 53) (T 55)),
        D 58 (.ldN 2 (T 57)),
        D 4 (.alloc [(.string ⟨#[]⟩), (.int .i64 0)]),
        E (.st 2 (T 4) (T 58))]) (
      .seq (
       .ops [D 59 (.fa 0 (T 4)),
        D 60 (.ld1 (T 59)),
        D 61 (.call 49 [(T 60), (I 4), (.const (.bool true))]),
        D 62 (.un .not (T 61))]) (
      .cond (T 62) (
       .seq (
        .ops [D 2 (.mv (I 1))]) (
       .ret)) (
       .skip))))) (
    .ops [D 63 (.bin .add (T 55) (I 1)),
     D 55 (.mv (T 63))]))))))) (
 .trim [1] (
  .trim [1, 85] (
   .ops [D 64 (.fa 4 (T 1)),
    D 65 (.ld1 (T 64)),
    D 66 (.len (T 65)),
    D 67 (.bin .gtr (T 66) (I 1000)),
    D 68 (.mv (T 67)),
    ⟨(some 69), some (68, false), .fa 8 (T 1)⟩,
    ⟨(some 70), some (68, false), .ld1 (T 69)⟩,
    ⟨(some 71), some (68, false), .len (T 70)⟩,
    ⟨(some 72), some (68, false), .bin .gtr (T 71) (I 20)⟩,
    D 73 (.pick (T 68) (.const (.bool true)) (T 72)),
    D 74 (.mv (T 73)),
    ⟨(some 75), some (74, false), .fa 9 (T 1)⟩,
    ⟨(some 76), some (74, false), .ld1 (T 75)⟩,
    ⟨(some 77), some (74, false), .len (T 76)⟩,
    ⟨(some 78), some (74, false), .bin .gtr (T 77) (I 8)⟩,
    D 79 (.pick (T 74) (.const (.bool true)) (T 78)),
    D 80 (.mv (T 79)),
    ⟨(some 81), some (80, false), .fa 10 (T 1)⟩,
    ⟨(some 82), some (80, false), .ld1 (T 81)⟩,
    ⟨(some 83), some (80, false), .len (T 82)⟩,
    ⟨(some 84), some (80, false), .bin .gtr (T 83) (I 400)⟩,
    D 85 (.pick (T 80) (.const (.bool true)) (T 84))]) (
  .cond (T 85) (
   .seq (
    .ops [D 2 (.mv (I 2))]) (
   .ret)) (
   .skip))) (
 .seq (
  .ops [D 5 (.mv (I 0))]) (
 .trim [1, 5] (
  .seq (
   .ops [D 86 (.fa 8 (T 1)),
    D 87 (.ld1 (T 86)),
    D 88 (.len (T 87)),
    D 89 (.mv (I 0))]) (
  .block 2 (
   .loop [1, 5, 87, 88, 89] (
    .seq (
     .ops [D 90 (.bin .lss (T 89) (T 88))]) (
    .seq (
     .cond (T 90) (
      .skip) (
      .exit 2)) (
    .trim [1, 5, 87, 88, 89] (
     .block 3 (
      .seq (
       .ops [D 91 (.ia 4 (T 87) (T 89)),
        D 92 (.ldN 4 (T 91)),
        D 7 (.alloc [(.int .i64 0), (.int .i64 0), (.int .i64 0), (.int .i64 0)]),
        E (.st 4 (T 7) (T 92))]) (
      .trim [1, 5, 7, 87, 88, 89] (
       .ops [D 93 (.mv (T 5)),
        D 94 (.fa 0 (T 7)),
        D 95 (.ld1 (T 94)),
        D 96 (.mn [(T 95), (I 1099511627776)]),
        D 97 (.bin .add (T 93) (T 96)),
        D 5 (.mv (T 97))]) (
      .trim [1, 5, 7, 8, 87, 88, 89] (
       .ops [D 98 (.fa 1 (T 7)),
        D 99 (.ld1 (T 98)),
        D 100 (.bin .eql (T 99) (I (-1))),
        D 101 (.mv (T 100)),
        ⟨(some 102), some (101, true), .fa 2 (T 7)⟩,
        ⟨(some 103), some (101, true), .ld1 (T 102)⟩,
        ⟨(some 104), some (101, true), .bin .neq (T 103) (I 1)⟩,
        ⟨(some 105), some (101, true), .mv (T 104)⟩,
        ⟨(some 106), some (105, false), .fa 3 (T 7)⟩,
        ⟨(some 107), some (105, false), .ld1 (T 106)⟩,
        ⟨(some 108), some (105, false), .bin .neq (T 107) (I 1)⟩,
        ⟨(some 109), some (101, true), .pick (T 105) (.const (.bool true)) (T 108)⟩,
        D 110 (.pick (T 101) (T 109) (.const (.bool false))),
        D 8 (.mv (T 110))]) (
      .trim [1, 5, 87, 88, 89, 135] (
       .ops [D 111 (.fa 0 (T 7)),
        D 112 (.ld1 (T 111)),
        D 113 (.call 48 [(T 112), (I 1), (I 1099511627776)]),
        D 114 (.un .not (T 113)),
        D 115 (.mv (T 114)),
        ⟨(some 116), some (115, false), .fa 1 (T 7)⟩,
        ⟨(some 117), some (115, false), .ld1 (T 116)⟩,
        ⟨(some 118), some (115, false), .call 48 [(T 117), (I (-1)), (I 1099511627776)]⟩,
        ⟨(some 119), some (115, false), .un .not (T 118)⟩,
        D 120 (.pick (T 115) (.const (.bool true)) (T 119)),
        D 121 (.mv (T 120)),
        ⟨(some 122), some (121, false), .fa 2 (T 7)⟩,
        ⟨(some 123), some (121, false), .ld1 (T 122)⟩,
        ⟨(some 124), some (121, false), .call 48 [(T 123), (I 0), (I 1000)]⟩,
        ⟨(some 125), some (121, false), .un .not (T 124)⟩,
        D 126 (.pick (T 121) (.const (.bool true)) (T 125)),
        D 127 (.mv (T 126)),
        ⟨(some 128), some (127, false), .fa 3 (T 7)⟩,
        ⟨(some 129), some (127, false), .ld1 (T 128)⟩,
        ⟨(some 130), some (127, false), .call 48 [(T 129), (I 1), (I 1000)]⟩,
        ⟨(some 131), some (127, false), .un .not (T 130)⟩,
        D 132 (.pick (T 127) (.const (.bool true)) (T 131)),
        D 133 (.mv (T 132)),
        ⟨(some 134), some (133, false), .mv (T 8)⟩,
        D 135 (.pick (T 133) (.const (.bool true)) (T 134))]) (
      .cond (T 135) (
       .seq (
        .ops [D 2 (.mv (I 33))]) (
       .ret)) (
       .skip))))))) (
    .ops [D 136 (.bin .add (T 89) (I 1)),
     D 89 (.mv (T 136))]))))))) (
 .seq (
  .seq (
   .ops [D 137 (.mv (T 5)),
    D 138 (.bin .gtr (T 137) (I 1099511627776))]) (
  .cond (T 138) (
   .seq (
    .ops [D 2 (.mv (I 33))]) (
   .ret)) (
   .skip))) (
 .trim [] (
  .seq (
   .ops [D 139 (.fa 10 (T 1)),
    D 140 (.ld1 (T 139)),
    D 141 (.len (T 140)),
    D 142 (.mv (I 0))]) (
  .block 4 (
   .loop [1, 140, 141, 142] (
    .seq (
     .ops [D 143 (.bin .lss (T 142) (T 141))]) (
    .seq (
     .cond (T 143) (
      .skip) (
      .exit 4)) (
    .trim [1, 140, 141, 142] (
     .block 5 (
      .seq (
       .ops [D 144 (.mv (T 142)),
        D 145 (.ia 6 (T 140) (T 142)),
        D 146 (.ldN 6 (T 145)),
        D 10 (.alloc [(.int .i64 0), (.int .i64 0), (.int .i64 0), (.bool false), (.slice none 0 0), (.slice none 0 0)]),
        D 9 (.mv (T 144)),
        E (.st 6 (T 10) (T 146))]) (
      .seq (
       .ops [D 147 (.ldN 11 (T 1)),
        D 148 (.mv (T 9)),
        D 149 (.ldN 6 (T 10)),
        D 150 (.call 51 [(T 147), (T 148), (T 149)]),
        D 11 (.mv (T 150))]) (
      .seq (
       .ops [D 151 (.mv (T 11)),
        D 152 (.bin .neq (T 151) (I 0))]) (
      .cond (T 152) (
       .seq (
        .ops [D 153 (.mv (T 11)),
         D 2 (.mv (T 153))]) (
       .ret)) (
       .skip)))))) (
    .ops [D 154 (.bin .add (T 142) (I 1)),
     D 142 (.mv (T 154))]))))))) (
 .seq (
  .ops [D 2 (.mv (I 0))]) (
 .ret)))))))))⟩
theorem model_CheckTrack_ok : Ok Try.prog 17 model_CheckTrack := ⟨by kernel_rfl, by kernel_rfl⟩

/-- diorama/dioramaref20.Day -/
def dioramaref20_Day : AF := ⟨13, [.tmp 2, .tmp 3],
 .seq (
  .ops [D 1 (.box (T 0)),
   D 2 (.mv (I 0)),
   D 3 (.mv (I 0))]) (
 .seq (
  .ops [D 5 (.ldN 2 (T 1)),
   D 6 (.call 33 [(T 5)]),
   D 4 (.mv (T 6))]) (
 .trim [1] (
  .seq (
   .ops [D 7 (.mv (T 4)),
    D 8 (.bin .neq (T 7) (I 0))]) (
  .cond (T 8) (
   .seq (
    .ops [D 9 (.mv (T 4)),
     D 2 (.mv (I 0)),
     D 3 (.mv (T 9))]) (
   .ret)) (
   .skip))) (
 .seq (
  .ops [D 10 (.ldN 2 (T 1)),
   D 11 (.call 52 [(T 10)]),
   D 12 (.bin .mul (I 24) (T 11)),
   D 2 (.mv (T 12)),
   D 3 (.mv (I 0))]) (
 .ret))))⟩
theorem dioramaref20_Day_ok : Ok Try.prog 18 dioramaref20_Day := ⟨by kernel_rfl, by kernel_rfl⟩

/-- diorama/dioramaref20.in -/
def dioramaref20_in : AF := ⟨15, [.tmp 6],
 .seq (
  .ops [D 6 (.mv (.const (.bool false)))]) (
 .trim [6] (
  .ops [D 7 (.mv (T 0)),
   D 8 (.mv (T 1)),
   D 9 (.bin .geq (T 7) (T 8)),
   D 10 (.mv (T 9)),
   ⟨(some 11), some (10, true), .mv (T 0)⟩,
   ⟨(some 12), some (10, true), .mv (T 2)⟩,
   ⟨(some 13), some (10, true), .bin .leq (T 11) (T 12)⟩,
   D 14 (.pick (T 10) (T 13) (.const (.bool false))),
   D 6 (.mv (T 14))]) (
 .ret))⟩
theorem dioramaref20_in_ok : Ok Try.prog 19 dioramaref20_in := ⟨by kernel_rfl, by kernel_rfl⟩

/-- diorama/dioramaref03.CheckTrack -/
def dioramaref03_CheckTrack : AF := ⟨59, [.tmp 2],
 .seq (
  .ops [D 1 (.box (T 0)),
   D 2 (.mv (I 0))]) (
 .seq (
  .seq (
   .ops [D 6 (.ldN 11 (T 1)),
    D 7 (.call 53 [(T 6)]),
    D 8 (.un .not (T 7))]) (
  .cond (T 8) (
   .seq (
    .ops [D 2 (.mv (I 1))]) (
   .ret)) (
   .skip))) (
 .trim [1] (
  .trim [1, 30] (
   .ops [D 9 (.fa 4 (T 1)),
    D 10 (.ld1 (T 9)),
    D 11 (.len (T 10)),
    D 12 (.bin .gtr (T 11) (I 1000)),
    D 13 (.mv (T 12)),
    ⟨(some 14), some (13, false), .fa 8 (T 1)⟩,
    ⟨(some 15), some (13, false), .ld1 (T 14)⟩,
    ⟨(some 16), some (13, false), .len (T 15)⟩,
    ⟨(some 17), some (13, false), .bin .gtr (T 16) (I 20)⟩,
    D 18 (.pick (T 13) (.const (.bool true)) (T 17)),
    D 19 (.mv (T 18)),
    ⟨(some 20), some (19, false), .fa 9 (T 1)⟩,
    ⟨(some 21), some (19, false), .ld1 (T 20)⟩,
    ⟨(some 22), some (19, false), .len (T 21)⟩,
    ⟨(some 23), some (19, false), .bin .gtr (T 22) (I 8)⟩,
    D 24 (.pick (T 19) (.const (.bool true)) (T 23)),
    D 25 (.mv (T 24)),
    ⟨(some 26), some (25, false), .fa 10 (T 1)⟩,
    ⟨(some 27), some (25, false), .ld1 (T 26)⟩,
    ⟨(some 28), some (25, false), .len (T 27)⟩,
    ⟨(some 29), some (25, false), .bin .gtr (T 28) (I 400)⟩,
    D 30 (.pick (T 25) (.const (.bool true)) (T 29))]) (
  .cond (T 30) (
   .seq (
    .ops [D 2 (.mv (I 2))]) (
   .ret)) (
   .skip))) (
 .trim [1] (
  .seq (
   .ops [D 31 (.fa 8 (T 1)),
    D 32 (.ld1 (T 31)),
    D 33 (.call 54 [(T 32)]),
    D 34 (.un .not (T 33))]) (
  .cond (T 34) (
   .seq (
    .ops [D 2 (.mv (I 33))]) (
   .ret)) (
   .skip))) (
 .seq (
  .ops [D 3 (.mv (I 0))]) (
 .trim [] (
  .seq (
   .ops [D 4 (.mv (I 0))]) (
  .block 0 (
   .loop [1, 3, 4] (
    .trim [1, 3, 4] (
     .seq (
      .ops [D 35 (.mv (T 4)),
       D 36 (.fa 10 (T 1)),
       D 37 (.ld1 (T 36)),
       D 38 (.len (T 37)),
       D 39 (.bin .lss (T 35) (T 38))]) (
     .cond (T 39) (
      .skip) (
      .exit 0))) (
    .trim [1, 3, 4] (
     .block 1 (
      .trim [1, 4, 5] (
       .ops [D 42 (.fa 10 (T 1)),
        D 43 (.ld1 (T 42)),
        D 44 (.mv (T 4)),
        D 45 (.ia 6 (T 43) (T 44)),
        D 46 (.ldN 6 (T 45)),
        D 47 (.mv (T 4)),
        D 48 (.mv (T 3)),
        D 49 (.call 55 [(T 46), (T 47), (T 48)]),
        D 5 (.mv (T 49))]) (
      .seq (
       .seq (
        .ops [D 50 (.mv (T 5)),
         D 51 (.bin .neq (T 50) (I 0))]) (
       .cond (T 51) (
        .seq (
         .ops [D 52 (.mv (T 5)),
          D 2 (.mv (T 52))]) (
        .ret)) (
        .skip))) (
      .ops [D 53 (.fa 10 (T 1)),
       D 54 (.ld1 (T 53)),
       D 55 (.mv (T 4)),
       D 56 (.ia 6 (T 54) (T 55)),
       D 57 (.fa 0 (T 56)),
       D 58 (.ld1 (T 57)),
       D 3 (.mv (T 58))])))) (
    .ops [D 40 (.mv (T 4)),
     D 41 (.bin .add (T 40) (I 1)),
     D 4 (.mv (T 41))])))))) (
 .seq (
  .ops [D 2 (.mv (I 0))]) (
 .ret)))))))⟩
theorem dioramaref03_CheckTrack_ok : Ok Try.prog 20 dioramaref03_CheckTrack := ⟨by kernel_rfl, by kernel_rfl⟩

/-- diorama/dioramaref00.EqBytes -/
def dioramaref00_EqBytes : AF := ⟨26, [.tmp 4],
 .seq (
  .ops [D 4 (.mv (.const (.bool false)))]) (
 .trim [0, 1] (
  .seq (
   .ops [D 6 (.mv (T 0)),
    D 7 (.len (T 6)),
    D 8 (.mv (T 1)),
    D 9 (.len (T 8)),
    D 10 (.bin .neq (T 7) (T 9))]) (
  .cond (T 10) (
   .seq (
    .ops [D 4 (.mv (.const (.bool false)))]) (
   .ret)) (
   .skip))) (
 .trim [] (
  .seq (
   .ops [D 5 (.mv (I 0))]) (
  .block 0 (
   .loop [0, 1, 5] (
    .seq (
     .seq (
      .ops [D 11 (.mv (T 5)),
       D 12 (.mv (T 0)),
       D 13 (.len (T 12)),
       D 14 (.bin .lss (T 11) (T 13))]) (
     .cond (T 14) (
      .skip) (
      .exit 0))) (
    .trim [0, 1, 5] (
     .block 1 (
      .trim [0, 1, 5, 25] (
       .draw [⟨0, 0, 0, D 17 (.mv (T 0))⟩,
        ⟨1, 0, 0, D 18 (.mv (T 5))⟩,
        ⟨2, 0, 3, D 19 (.ia 1 (T 17) (T 18))⟩,
        ⟨3, 1, 7, D 20 (.ld1 (T 19))⟩,
        ⟨4, 0, 0, D 21 (.mv (T 1))⟩,
        ⟨5, 0, 0, D 22 (.mv (T 5))⟩,
        ⟨6, 0, 48, D 23 (.ia 1 (T 21) (T 22))⟩,
        ⟨7, 1, 112, D 24 (.ld1 (T 23))⟩,
        ⟨8, 0, 255, D 25 (.bin .neq (T 20) (T 24))⟩]) (
      .cond (T 25) (
       .seq (
        .ops [D 4 (.mv (.const (.bool false)))]) (
       .ret)) (
       .skip)))) (
    .ops [D 15 (.mv (T 5)),
     D 16 (.bin .add (T 15) (I 1)),
     D 5 (.mv (T 16))])))))) (
 .seq (
  .ops [D 4 (.mv (.const (.bool true)))]) (
 .ret))))⟩
theorem dioramaref00_EqBytes_ok : Ok Try.prog 21 dioramaref00_EqBytes := ⟨by kernel_rfl, by kernel_rfl⟩

/-- diorama/dioramaref00.EqEdits -/
def dioramaref00_EqEdits : AF := ⟨26, [.tmp 4],
 .seq (
  .ops [D 4 (.mv (.const (.bool false)))]) (
 .trim [0, 1] (
  .seq (
   .ops [D 6 (.mv (T 0)),
    D 7 (.len (T 6)),
    D 8 (.mv (T 1)),
    D 9 (.len (T 8)),
    D 10 (.bin .neq (T 7) (T 9))]) (
  .cond (T 10) (
   .seq (
    .ops [D 4 (.mv (.const (.bool false)))]) (
   .ret)) (
   .skip))) (
 .trim [] (
  .seq (
   .ops [D 5 (.mv (I 0))]) (
  .block 0 (
   .loop [0, 1, 5] (
    .seq (
     .seq (
      .ops [D 11 (.mv (T 5)),
       D 12 (.mv (T 0)),
       D 13 (.len (T 12)),
       D 14 (.bin .lss (T 11) (T 13))]) (
     .cond (T 14) (
      .skip) (
      .exit 0))) (
    .trim [0, 1, 5] (
     .block 1 (
      .trim [0, 1, 5, 25] (
       .draw [⟨0, 0, 0, D 17 (.mv (T 0))⟩,
        ⟨1, 0, 0, D 18 (.mv (T 5))⟩,
        ⟨2, 0, 3, D 19 (.ia 4 (T 17) (T 18))⟩,
        ⟨3, 1, 7, D 20 (.ldN 4 (T 19))⟩,
        ⟨4, 0, 0, D 21 (.mv (T 1))⟩,
        ⟨5, 0, 0, D 22 (.mv (T 5))⟩,
        ⟨6, 0, 48, D 23 (.ia 4 (T 21) (T 22))⟩,
        ⟨7, 1, 112, D 24 (.ldN 4 (T 23))⟩,
        ⟨8, 0, 255, D 25 (.eqa true [1, 1, 1, 1] (T 20) (T 24))⟩]) (
      .cond (T 25) (
       .seq (
        .ops [D 4 (.mv (.const (.bool false)))]) (
       .ret)) (
       .skip)))) (
    .ops [D 15 (.mv (T 5)),
     D 16 (.bin .add (T 15) (I 1)),
     D 5 (.mv (T 16))])))))) (
 .seq (
  .ops [D 4 (.mv (.const (.bool true)))]) (
 .ret))))⟩
theorem dioramaref00_EqEdits_ok : Ok Try.prog 22 dioramaref00_EqEdits := ⟨by kernel_rfl, by kernel_rfl⟩

/-- diorama/dioramaref00.EqRefs -/
def dioramaref00_EqRefs : AF := ⟨26, [.tmp 4],
 .seq (
  .ops [D 4 (.mv (.const (.bool false)))]) (
 .trim [0, 1] (
  .seq (
   .ops [D 6 (.mv (T 0)),
    D 7 (.len (T 6)),
    D 8 (.mv (T 1)),
    D 9 (.len (T 8)),
    D 10 (.bin .neq (T 7) (T 9))]) (
  .cond (T 10) (
   .seq (
    .ops [D 4 (.mv (.const (.bool false)))]) (
   .ret)) (
   .skip))) (
 .trim [] (
  .seq (
   .ops [D 5 (.mv (I 0))]) (
  .block 0 (
   .loop [0, 1, 5] (
    .seq (
     .seq (
      .ops [D 11 (.mv (T 5)),
       D 12 (.mv (T 0)),
       D 13 (.len (T 12)),
       D 14 (.bin .lss (T 11) (T 13))]) (
     .cond (T 14) (
      .skip) (
      .exit 0))) (
    .trim [0, 1, 5] (
     .block 1 (
      .trim [0, 1, 5, 25] (
       .draw [⟨0, 0, 0, D 17 (.mv (T 0))⟩,
        ⟨1, 0, 0, D 18 (.mv (T 5))⟩,
        ⟨2, 0, 3, D 19 (.ia 2 (T 17) (T 18))⟩,
        ⟨3, 1, 7, D 20 (.ldN 2 (T 19))⟩,
        ⟨4, 0, 0, D 21 (.mv (T 1))⟩,
        ⟨5, 0, 0, D 22 (.mv (T 5))⟩,
        ⟨6, 0, 48, D 23 (.ia 2 (T 21) (T 22))⟩,
        ⟨7, 1, 112, D 24 (.ldN 2 (T 23))⟩,
        ⟨8, 0, 255, D 25 (.eqa true [2, 1] (T 20) (T 24))⟩]) (
      .cond (T 25) (
       .seq (
        .ops [D 4 (.mv (.const (.bool false)))]) (
       .ret)) (
       .skip)))) (
    .ops [D 15 (.mv (T 5)),
     D 16 (.bin .add (T 15) (I 1)),
     D 5 (.mv (T 16))])))))) (
 .seq (
  .ops [D 4 (.mv (.const (.bool true)))]) (
 .ret))))⟩
theorem dioramaref00_EqRefs_ok : Ok Try.prog 23 dioramaref00_EqRefs := ⟨by kernel_rfl, by kernel_rfl⟩

/-- diorama/dioramaref00.EqSamples -/
def dioramaref00_EqSamples : AF := ⟨27, [.tmp 4],
 .seq (
  .ops [D 4 (.mv (.const (.bool false)))]) (
 .trim [0, 1] (
  .seq (
   .ops [D 6 (.mv (T 0)),
    D 7 (.len (T 6)),
    D 8 (.mv (T 1)),
    D 9 (.len (T 8)),
    D 10 (.bin .neq (T 7) (T 9))]) (
  .cond (T 10) (
   .seq (
    .ops [D 4 (.mv (.const (.bool false)))]) (
   .ret)) (
   .skip))) (
 .trim [] (
  .seq (
   .ops [D 5 (.mv (I 0))]) (
  .block 0 (
   .loop [0, 1, 5] (
    .seq (
     .seq (
      .ops [D 11 (.mv (T 5)),
       D 12 (.mv (T 0)),
       D 13 (.len (T 12)),
       D 14 (.bin .lss (T 11) (T 13))]) (
     .cond (T 14) (
      .skip) (
      .exit 0))) (
    .trim [0, 1, 5] (
     .block 1 (
      .trim [0, 1, 5, 26] (
       .draw [⟨0, 0, 0, D 17 (.mv (T 0))⟩,
        ⟨1, 0, 0, D 18 (.mv (T 5))⟩,
        ⟨2, 0, 3, D 19 (.ia 6 (T 17) (T 18))⟩,
        ⟨3, 1, 7, D 20 (.ldN 6 (T 19))⟩,
        ⟨4, 0, 0, D 21 (.mv (T 1))⟩,
        ⟨5, 0, 0, D 22 (.mv (T 5))⟩,
        ⟨6, 0, 48, D 23 (.ia 6 (T 21) (T 22))⟩,
        ⟨7, 1, 112, D 24 (.ldN 6 (T 23))⟩,
        ⟨8, 4, 255, D 25 (.call 56 [(T 20), (T 24)])⟩,
        ⟨9, 0, 511, D 26 (.un .not (T 25))⟩]) (
      .cond (T 26) (
       .seq (
        .ops [D 4 (.mv (.const (.bool false)))]) (
       .ret)) (
       .skip)))) (
    .ops [D 15 (.mv (T 5)),
     D 16 (.bin .add (T 15) (I 1)),
     D 5 (.mv (T 16))])))))) (
 .seq (
  .ops [D 4 (.mv (.const (.bool true)))]) (
 .ret))))⟩
theorem dioramaref00_EqSamples_ok : Ok Try.prog 24 dioramaref00_EqSamples := ⟨by kernel_rfl, by kernel_rfl⟩

/-- (diorama/code.steps).code -/
def code_steps__code : AF := ⟨68, [.cellN 4 4],
 .seq (
  .ops [D 2 (.box (T 0)),
   D 4 (.alloc [(.int .i64 0), (.int .i64 0), (.int .i64 0), (.int .i64 0)])]) (
 .trim [1, 2, 4, 5, 6] (
  .draw [⟨0, 0, 0, D 10 (.mv (T 1))⟩,
   ⟨1, 1, 0, D 11 (.ldN 2 (T 2))⟩,
   ⟨4, 0, 0, D 14 (.mv (T 1))⟩,
   ⟨5, 1, 0, D 15 (.ldN 2 (T 2))⟩,
   ⟨2, 4, 2, D 12 (.call 47 [(T 11)])⟩,
   ⟨3, 0, 7, D 13 (.bin .quo (T 10) (T 12))⟩,
   ⟨6, 4, 38, D 16 (.call 47 [(T 15)])⟩,
   ⟨7, 0, 118, D 17 (.bin .rem (T 14) (T 16))⟩,
   ⟨8, 0, 111, D 5 (.mv (T 13))⟩,
   ⟨9, 0, 511, D 6 (.mv (T 17))⟩]) (
 .trim [1, 2, 4, 5, 6, 7] (
  .draw [⟨0, 0, 0, D 18 (.fa 0 (T 2))⟩,
   ⟨1, 0, 1, D 19 (.fa 0 (T 18))⟩,
   ⟨2, 1, 3, D 20 (.ld1 (T 19))⟩,
   ⟨3, 0, 7, D 21 (.bin .mul (I 60) (T 20))⟩,
   ⟨4, 1, 0, D 22 (.ldN 2 (T 2))⟩,
   ⟨5, 4, 16, D 23 (.call 61 [(T 22)])⟩,
   ⟨6, 0, 63, D 24 (.bin .sub (T 21) (T 23))⟩,
   ⟨7, 0, 127, D 7 (.mv (T 24))⟩]) (
 .trim [1, 2, 4, 6, 7] (
  .ops [D 25 (.mv (T 1)),
   D 26 (.mv (T 5)),
   D 27 (.bin .mul (T 26) (I 9)),
   D 28 (.ldN 2 (T 2)),
   D 29 (.call 61 [(T 28)]),
   D 30 (.bin .mul (T 27) (T 29)),
   D 31 (.bin .add (T 25) (T 30)),
   D 1 (.mv (T 31))]) (
 .trim [1, 2, 4] (
  .seq (
   .ops [D 32 (.fa 0 (T 2)),
    D 33 (.fa 0 (T 32)),
    D 34 (.ld1 (T 33)),
    D 35 (.bin .mul (I 60) (T 34)),
    D 8 (.mv (T 35))]) (
  .seq (
   .ops [D 36 (.mv (T 6)),
    D 37 (.mv (T 8)),
    D 38 (.bin .geq (T 36) (T 37))]) (
  .cond (T 38) (
   .draw [⟨0, 0, 0, D 39 (.mv (T 1))⟩,
    ⟨1, 1, 0, D 40 (.ldN 2 (T 2))⟩,
    ⟨3, 0, 0, D 42 (.mv (T 6))⟩,
    ⟨4, 0, 0, D 43 (.mv (T 8))⟩,
    ⟨5, 0, 24, D 44 (.bin .sub (T 42) (T 43))⟩,
    ⟨6, 0, 0, D 45 (.mv (T 7))⟩,
    ⟨7, 0, 120, D 46 (.bin .quo (T 44) (T 45))⟩,
    ⟨8, 0, 248, D 47 (.bin .add (I 1) (T 46))⟩,
    ⟨2, 4, 2, D 41 (.call 61 [(T 40)])⟩,
    ⟨9, 0, 510, D 48 (.bin .mul (T 41) (T 47))⟩,
    ⟨10, 0, 1023, D 49 (.bin .add (T 39) (T 48))⟩,
    ⟨11, 0, 2047, D 1 (.mv (T 49))⟩]) (
   .skip)))) (
 .trim [1, 2, 4, 9] (
  .ops [D 50 (.mv (T 1)),
   D 51 (.fa 0 (T 2)),
   D 52 (.fa 0 (T 51)),
   D 53 (.ld1 (T 52)),
   D 54 (.bin .quo (T 50) (T 53)),
   D 9 (.mv (T 54))]) (
 .trim [4] (
  .ops [D 55 (.mv (T 9)),
   D 56 (.bin .quo (T 55) (I 3600)),
   D 57 (.mv (T 9)),
   D 58 (.bin .quo (T 57) (I 60)),
   D 59 (.bin .rem (T 58) (I 60)),
   D 60 (.mv (T 9)),
   D 61 (.bin .rem (T 60) (I 60)),
   D 62 (.mv (T 1)),
   D 63 (.fa 0 (T 2)),
   D 64 (.fa 0 (T 63)),
   D 65 (.ld1 (T 64)),
   D 66 (.bin .rem (T 62) (T 65)),
   D 67 (.build [(.int .i64 0), (.int .i64 0), (.int .i64 0), (.int .i64 0)] [(0, 1, (T 56)), (1, 1, (T 59)), (2, 1, (T 61)), (3, 1, (T 66))]),
   E (.st 4 (T 4) (T 67))]) (
 .ret)))))))⟩
theorem code_steps__code_ok : Ok Try.prog 29 code_steps__code := ⟨by kernel_rfl, by kernel_rfl⟩

/-- diorama/dioramaref20.Check -/
def dioramaref20_Check : AF := ⟨21, [.tmp 2],
 .seq (
  .ops [D 1 (.box (T 0)),
   D 2 (.mv (I 0))]) (
 .trim [] (
  .trim [20] (
   .ops [D 3 (.fa 0 (T 1)),
    D 4 (.ld1 (T 3)),
    D 5 (.call 19 [(T 4), (I 1), (I 60)]),
    D 6 (.un .not (T 5)),
    D 7 (.mv (T 6)),
    ⟨(some 8), some (7, false), .fa 1 (T 1)⟩,
    ⟨(some 9), some (7, false), .ld1 (T 8)⟩,
    ⟨(some 10), some (7, false), .mv (T 9)⟩,
    ⟨(some 11), some (10, true), .fa 0 (T 1)⟩,
    ⟨(some 12), some (10, true), .ld1 (T 11)⟩,
    ⟨(some 13), some (10, true), .bin .neq (T 12) (I 30)⟩,
    ⟨(some 14), some (7, false), .pick (T 10) (T 13) (.const (.bool false))⟩,
    ⟨(some 15), some (7, false), .mv (T 14)⟩,
    ⟨(some 16), some (15, true), .fa 0 (T 1)⟩,
    ⟨(some 17), some (15, true), .ld1 (T 16)⟩,
    ⟨(some 18), some (15, true), .bin .neq (T 17) (I 60)⟩,
    ⟨(some 19), some (7, false), .pick (T 15) (T 18) (.const (.bool false))⟩,
    D 20 (.pick (T 7) (.const (.bool true)) (T 19))]) (
  .cond (T 20) (
   .seq (
    .ops [D 2 (.mv (I 1))]) (
   .ret)) (
   .skip))) (
 .seq (
  .ops [D 2 (.mv (I 0))]) (
 .ret)))⟩
theorem dioramaref20_Check_ok : Ok Try.prog 33 dioramaref20_Check := ⟨by kernel_rfl, by kernel_rfl⟩

/-- diorama/code.checked -/
def code_checked : AF := ⟨15, [.tmp 4],
 .seq (
  .ops [D 2 (.box (T 0)),
   D 3 (.box (T 1)),
   D 4 (.mv (I 0))]) (
 .trim [2, 3] (
  .seq (
   .ops [D 6 (.ldN 2 (T 2)),
    D 7 (.call 15 [(T 6)]),
    D 5 (.mv (T 7))]) (
  .seq (
   .ops [D 8 (.mv (T 5)),
    D 9 (.bin .neq (T 8) (I 0))]) (
  .cond (T 9) (
   .seq (
    .ops [D 10 (.mv (T 5)),
     D 4 (.mv (T 10))]) (
   .ret)) (
   .skip)))) (
 .seq (
  .ops [D 11 (.ldN 2 (T 2)),
   D 12 (.build [(.int .i64 0), (.bool false)] [(0, 2, (T 11))]),
   D 13 (.ldN 4 (T 3)),
   D 14 (.call 87 [(T 12), (T 13)]),
   D 4 (.mv (T 14))]) (
 .ret)))⟩
theorem code_checked_ok : Ok Try.prog 43 code_checked := ⟨by kernel_rfl, by kernel_rfl⟩

/-- diorama/code.within -/
def code_within : AF := ⟨15, [.tmp 6],
 .seq (
  .ops [D 6 (.mv (.const (.bool false)))]) (
 .trim [6] (
  .ops [D 7 (.mv (T 0)),
   D 8 (.mv (T 1)),
   D 9 (.bin .geq (T 7) (T 8)),
   D 10 (.mv (T 9)),
   ⟨(some 11), some (10, true), .mv (T 0)⟩,
   ⟨(some 12), some (10, true), .mv (T 2)⟩,
   ⟨(some 13), some (10, true), .bin .leq (T 11) (T 12)⟩,
   D 14 (.pick (T 10) (T 13) (.const (.bool false))),
   D 6 (.mv (T 14))]) (
 .ret))⟩
theorem code_within_ok : Ok Try.prog 44 code_within := ⟨by kernel_rfl, by kernel_rfl⟩

/-- (diorama/code.steps).around -/
def code_steps__around : AF := ⟨15, [.tmp 4],
 .seq (
  .ops [D 2 (.box (T 0)),
   D 4 (.mv (I 0))]) (
 .trim [4] (
  .draw [⟨0, 0, 0, D 5 (.mv (T 1))⟩,
   ⟨1, 1, 0, D 6 (.ldN 2 (T 2))⟩,
   ⟨4, 1, 0, D 9 (.ldN 2 (T 2))⟩,
   ⟨7, 1, 0, D 12 (.ldN 2 (T 2))⟩,
   ⟨2, 4, 2, D 7 (.call 16 [(T 6)])⟩,
   ⟨3, 0, 7, D 8 (.bin .rem (T 5) (T 7))⟩,
   ⟨5, 4, 22, D 10 (.call 16 [(T 9)])⟩,
   ⟨6, 0, 63, D 11 (.bin .add (T 8) (T 10))⟩,
   ⟨8, 4, 182, D 13 (.call 16 [(T 12)])⟩,
   ⟨9, 0, 511, D 14 (.bin .rem (T 11) (T 13))⟩,
   ⟨10, 0, 1023, D 4 (.mv (T 14))⟩]) (
 .ret))⟩
theorem code_steps__around_ok : Ok Try.prog 45 code_steps__around := ⟨by kernel_rfl, by kernel_rfl⟩

/-- (diorama/code.steps).count -/
def code_steps__count : AF := ⟨32, [.tmp 4],
 .seq (
  .ops [D 2 (.box (T 0)),
   D 3 (.box (T 1)),
   D 4 (.mv (I 0))]) (
 .trim [2, 3, 5] (
  .ops [D 6 (.fa 0 (T 3)),
   D 7 (.ld1 (T 6)),
   D 8 (.bin .mul (T 7) (I 60)),
   D 9 (.fa 1 (T 3)),
   D 10 (.ld1 (T 9)),
   D 11 (.bin .add (T 8) (T 10)),
   D 5 (.mv (T 11))]) (
 .trim [4] (
  .draw [⟨0, 0, 0, D 12 (.mv (T 5))⟩,
   ⟨1, 0, 1, D 13 (.bin .mul (T 12) (I 60))⟩,
   ⟨2, 0, 0, D 14 (.fa 2 (T 3))⟩,
   ⟨3, 1, 4, D 15 (.ld1 (T 14))⟩,
   ⟨4, 0, 15, D 16 (.bin .add (T 13) (T 15))⟩,
   ⟨5, 0, 0, D 17 (.fa 0 (T 2))⟩,
   ⟨6, 0, 32, D 18 (.fa 0 (T 17))⟩,
   ⟨7, 1, 96, D 19 (.ld1 (T 18))⟩,
   ⟨8, 0, 255, D 20 (.bin .mul (T 16) (T 19))⟩,
   ⟨9, 0, 0, D 21 (.fa 3 (T 3))⟩,
   ⟨10, 1, 512, D 22 (.ld1 (T 21))⟩,
   ⟨11, 0, 2047, D 23 (.bin .add (T 20) (T 22))⟩,
   ⟨12, 1, 0, D 24 (.ldN 2 (T 2))⟩,
   ⟨14, 0, 0, D 26 (.mv (T 5))⟩,
   ⟨15, 0, 0, D 27 (.mv (T 5))⟩,
   ⟨16, 0, 32768, D 28 (.bin .quo (T 27) (I 10))⟩,
   ⟨17, 0, 114688, D 29 (.bin .sub (T 26) (T 28))⟩,
   ⟨13, 4, 4096, D 25 (.call 61 [(T 24)])⟩,
   ⟨18, 0, 258048, D 30 (.bin .mul (T 25) (T 29))⟩,
   ⟨19, 0, 524287, D 31 (.bin .sub (T 23) (T 30))⟩,
   ⟨20, 0, 1048575, D 4 (.mv (T 31))⟩]) (
 .ret)))⟩
theorem code_steps__count_ok : Ok Try.prog 46 code_steps__count := ⟨by kernel_rfl, by kernel_rfl⟩

/-- (diorama/code.steps).ten -/
def code_steps__ten : AF := ⟨11, [.tmp 2],
 .seq (
  .ops [D 1 (.box (T 0)),
   D 2 (.mv (I 0))]) (
 .trim [2] (
  .draw [⟨0, 0, 0, D 3 (.fa 0 (T 1))⟩,
   ⟨1, 0, 1, D 4 (.fa 0 (T 3))⟩,
   ⟨2, 1, 3, D 5 (.ld1 (T 4))⟩,
   ⟨3, 0, 7, D 6 (.bin .mul (I 600) (T 5))⟩,
   ⟨4, 1, 0, D 7 (.ldN 2 (T 1))⟩,
   ⟨5, 4, 16, D 8 (.call 61 [(T 7)])⟩,
   ⟨6, 0, 48, D 9 (.bin .mul (I 9) (T 8))⟩,
   ⟨7, 0, 127, D 10 (.bin .sub (T 6) (T 9))⟩,
   ⟨8, 0, 255, D 2 (.mv (T 10))⟩]) (
 .ret))⟩
theorem code_steps__ten_ok : Ok Try.prog 47 code_steps__ten := ⟨by kernel_rfl, by kernel_rfl⟩

/-- diorama/model.within -/
def model_within : AF := ⟨15, [.tmp 6],
 .seq (
  .ops [D 6 (.mv (.const (.bool false)))]) (
 .trim [6] (
  .ops [D 7 (.mv (T 0)),
   D 8 (.mv (T 1)),
   D 9 (.bin .geq (T 7) (T 8)),
   D 10 (.mv (T 9)),
   ⟨(some 11), some (10, true), .mv (T 0)⟩,
   ⟨(some 12), some (10, true), .mv (T 2)⟩,
   ⟨(some 13), some (10, true), .bin .leq (T 11) (T 12)⟩,
   D 14 (.pick (T 10) (T 13) (.const (.bool false))),
   D 6 (.mv (T 14))]) (
 .ret))⟩
theorem model_within_ok : Ok Try.prog 48 model_within := ⟨by kernel_rfl, by kernel_rfl⟩

/-- diorama/model.letters -/
def model_letters : AF := ⟨49, [.tmp 6],
 .seq (
  .ops [D 6 (.mv (.const (.bool false)))]) (
 .trim [0, 1] (
  .seq (
   .ops [D 10 (.mv (T 0)),
    D 11 (.lens (T 10)),
    D 12 (.mv (I 0))]) (
  .block 0 (
   .loop [0, 1, 2, 11, 12] (
    .seq (
     .ops [D 13 (.bin .lss (T 12) (T 11))]) (
    .seq (
     .cond (T 13) (
      .skip) (
      .exit 0)) (
    .trim [0, 1, 2, 11, 12] (
     .block 1 (
      .seq (
       .ops [D 14 (.mv (T 12)),
        D 7 (.mv (T 14))]) (
      .trim [0, 1, 2, 7, 8, 11, 12] (
       .ops [D 15 (.mv (T 0)),
        D 16 (.mv (T 7)),
        D 17 (.ixs (T 15) (T 16)),
        D 18 (.bin .geq (T 17) (.const (.int .u8 97))),
        D 19 (.mv (T 18)),
        ⟨(some 20), some (19, true), .mv (T 0)⟩,
        ⟨(some 21), some (19, true), .mv (T 7)⟩,
        ⟨(some 22), some (19, true), .ixs (T 20) (T 21)⟩,
        ⟨(some 23), some (19, true), .bin .leq (T 22) (.const (.int .u8 122))⟩,
        D 24 (.pick (T 19) (T 23) (.const (.bool false))),
        D 8 (.mv (T 24))]) (
      .trim [0, 1, 2, 8, 9, 11, 12] (
       .ops [D 25 (.mv (T 0)),
        D 26 (.mv (T 7)),
        D 27 (.ixs (T 25) (T 26)),
        D 28 (.bin .geq (T 27) (.const (.int .u8 48))),
        D 29 (.mv (T 28)),
        ⟨(some 30), some (29, true), .mv (T 0)⟩,
        ⟨(some 31), some (29, true), .mv (T 7)⟩,
        ⟨(some 32), some (29, true), .ixs (T 30) (T 31)⟩,
        ⟨(some 33), some (29, true), .bin .leq (T 32) (.const (.int .u8 57))⟩,
        D 34 (.pick (T 29) (T 33) (.const (.bool false))),
        D 9 (.mv (T 34))]) (
      .trim [0, 1, 2, 11, 12, 43] (
       .ops [D 35 (.mv (T 8)),
        D 36 (.un .not (T 35)),
        D 37 (.mv (T 36)),
        ⟨(some 38), some (37, true), .mv (T 9)⟩,
        ⟨(some 39), some (37, true), .mv (T 38)⟩,
        ⟨(some 40), some (39, true), .mv (T 2)⟩,
        ⟨(some 41), some (37, true), .pick (T 39) (T 40) (.const (.bool false))⟩,
        ⟨(some 42), some (37, true), .un .not (T 41)⟩,
        D 43 (.pick (T 37) (T 42) (.const (.bool false)))]) (
      .cond (T 43) (
       .seq (
        .ops [D 6 (.mv (.const (.bool false)))]) (
       .ret)) (
       .skip))))))) (
    .ops [D 44 (.bin .add (T 12) (I 1)),
     D 12 (.mv (T 44))]))))))) (
 .seq (
  .ops [D 45 (.mv (T 0)),
   D 46 (.lens (T 45)),
   D 47 (.mv (T 1)),
   D 48 (.bin .eql (T 46) (T 47)),
   D 6 (.mv (T 48))]) (
 .ret)))⟩
theorem model_letters_ok : Ok Try.prog 49 model_letters := ⟨by kernel_rfl, by kernel_rfl⟩

/-- diorama/model.isName -/
def model_isName : AF := ⟨23, [.tmp 2],
 .seq (
  .ops [D 2 (.mv (.const (.bool false)))]) (
 .seq (
  .seq (
   .ops [D 4 (.mv (T 0)),
    D 5 (.lens (T 4)),
    D 6 (.bin .gtr (T 5) (I 40))]) (
  .cond (T 6) (
   .seq (
    .ops [D 2 (.mv (.const (.bool false)))]) (
   .ret)) (
   .skip))) (
 .trim [] (
  .seq (
   .ops [D 7 (.mv (T 0)),
    D 8 (.lens (T 7)),
    D 9 (.mv (I 0))]) (
  .block 0 (
   .loop [0, 8, 9] (
    .seq (
     .ops [D 10 (.bin .lss (T 9) (T 8))]) (
    .seq (
     .cond (T 10) (
      .skip) (
      .exit 0)) (
    .trim [0, 8, 9] (
     .block 1 (
      .seq (
       .ops [D 11 (.mv (T 9)),
        D 3 (.mv (T 11))]) (
      .trim [0, 8, 9, 21] (
       .ops [D 12 (.mv (T 0)),
        D 13 (.mv (T 3)),
        D 14 (.ixs (T 12) (T 13)),
        D 15 (.bin .lss (T 14) (.const (.int .u8 32))),
        D 16 (.mv (T 15)),
        ⟨(some 17), some (16, false), .mv (T 0)⟩,
        ⟨(some 18), some (16, false), .mv (T 3)⟩,
        ⟨(some 19), some (16, false), .ixs (T 17) (T 18)⟩,
        ⟨(some 20), some (16, false), .bin .gtr (T 19) (.const (.int .u8 126))⟩,
        D 21 (.pick (T 16) (.const (.bool true)) (T 20))]) (
      .cond (T 21) (
       .seq (
        .ops [D 2 (.mv (.const (.bool false)))]) (
       .ret)) (
       .skip))))) (
    .ops [D 22 (.bin .add (T 9) (I 1)),
     D 9 (.mv (T 22))]))))))) (
 .seq (
  .ops [D 2 (.mv (.const (.bool true)))]) (
 .ret))))⟩
theorem model_isName_ok : Ok Try.prog 50 model_isName := ⟨by kernel_rfl, by kernel_rfl⟩

/-- diorama/model.checkSample -/
def model_checkSample : AF := ⟨79, [.tmp 6],
 .seq (
  .ops [D 3 (.box (T 0)),
   D 5 (.box (T 2)),
   D 6 (.mv (I 0))]) (
 .trim [1, 5] (
  .block 0 (
   .trim [1, 3, 5, 10] (
    .ops [D 11 (.fa 0 (T 5)),
     D 12 (.ld1 (T 11)),
     D 13 (.call 88 [(T 12)]),
     D 14 (.un .not (T 13)),
     D 15 (.mv (T 14)),
     ⟨(some 16), some (15, false), .fa 1 (T 5)⟩,
     ⟨(some 17), some (15, false), .ld1 (T 16)⟩,
     ⟨(some 18), some (15, false), .call 88 [(T 17)]⟩,
     ⟨(some 19), some (15, false), .un .not (T 18)⟩,
     D 20 (.pick (T 15) (.const (.bool true)) (T 19)),
     D 21 (.mv (T 20)),
     ⟨(some 22), some (21, false), .fa 2 (T 5)⟩,
     ⟨(some 23), some (21, false), .ld1 (T 22)⟩,
     ⟨(some 24), some (21, false), .call 48 [(T 23), (I 0), (I 1099511627776)]⟩,
     ⟨(some 25), some (21, false), .un .not (T 24)⟩,
     D 26 (.pick (T 21) (.const (.bool true)) (T 25)),
     D 10 (.mv (T 26))]) (
   .cond (T 10) (
    .seq (
     .ops [D 6 (.mv (I 1))]) (
    .ret)) (
    .trim [1, 3, 5, 27] (
     .ops [D 28 (.fa 5 (T 5)),
      D 29 (.ld1 (T 28)),
      D 30 (.len (T 29)),
      D 31 (.bin .gtr (T 30) (I 65536)),
      D 32 (.mv (T 31)),
      ⟨(some 33), some (32, false), .fa 4 (T 5)⟩,
      ⟨(some 34), some (32, false), .ld1 (T 33)⟩,
      ⟨(some 35), some (32, false), .len (T 34)⟩,
      ⟨(some 36), some (32, false), .bin .gtr (T 35) (I 4)⟩,
      D 37 (.pick (T 32) (.const (.bool true)) (T 36)),
      D 27 (.mv (T 37))]) (
    .cond (T 27) (
     .seq (
      .ops [D 6 (.mv (I 2))]) (
     .ret)) (
     .trim [1, 5, 38] (
      .draw [⟨0, 0, 0, D 39 (.mv (T 1))⟩,
       ⟨1, 0, 1, D 40 (.bin .gtr (T 39) (I 0))⟩,
       ⟨2, 0, 3, D 41 (.mv (T 40))⟩,
       ⟨3, 0, 7, ⟨(some 42), some (41, true), .fa 0 (T 5)⟩⟩,
       ⟨4, 1, 15, ⟨(some 43), some (41, true), .ld1 (T 42)⟩⟩,
       ⟨5, 0, 7, ⟨(some 44), some (41, true), .fa 10 (T 3)⟩⟩,
       ⟨6, 1, 39, ⟨(some 45), some (41, true), .ld1 (T 44)⟩⟩,
       ⟨7, 0, 7, ⟨(some 46), some (41, true), .mv (T 1)⟩⟩,
       ⟨8, 0, 135, ⟨(some 47), some (41, true), .bin .sub (T 46) (I 1)⟩⟩,
       ⟨9, 0, 487, ⟨(some 48), some (41, true), .ia 6 (T 45) (T 47)⟩⟩,
       ⟨10, 0, 999, ⟨(some 49), some (41, true), .fa 0 (T 48)⟩⟩,
       ⟨11, 1, 2023, ⟨(some 50), some (41, true), .ld1 (T 49)⟩⟩,
       ⟨12, 0, 4095, ⟨(some 51), some (41, true), .bin .leq (T 43) (T 50)⟩⟩,
       ⟨13, 0, 8191, D 52 (.pick (T 41) (T 51) (.const (.bool false)))⟩,
       ⟨14, 0, 16383, D 38 (.mv (T 52))⟩]) (
     .cond (T 38) (
      .seq (
       .ops [D 6 (.mv (I 31))]) (
      .ret)) (
      .trim [1, 5, 53] (
       .ops [D 54 (.fa 3 (T 5)),
        D 55 (.ld1 (T 54)),
        D 56 (.mv (T 55)),
        ⟨(some 57), some (56, true), .fa 4 (T 5)⟩,
        ⟨(some 58), some (56, true), .ld1 (T 57)⟩,
        ⟨(some 59), some (56, true), .len (T 58)⟩,
        ⟨(some 60), some (56, true), .bin .gtr (T 59) (I 0)⟩,
        D 61 (.pick (T 56) (T 60) (.const (.bool false))),
        D 53 (.mv (T 61))]) (
      .cond (T 53) (
       .seq (
        .ops [D 6 (.mv (I 32))]) (
       .ret)) (
       .skip)))))))))) (
 .seq (
  .ops [D 7 (.mv (I (-1)))]) (
 .trim [] (
  .seq (
   .ops [D 62 (.fa 4 (T 5)),
    D 63 (.ld1 (T 62)),
    D 64 (.len (T 63)),
    D 65 (.mv (I 0))]) (
  .block 1 (
   .loop [1, 7, 63, 64, 65] (
    .seq (
     .ops [D 66 (.bin .lss (T 65) (T 64))]) (
    .seq (
     .cond (T 66) (
      .skip) (
      .exit 1)) (
    .trim [1, 7, 63, 64, 65] (
     .block 2 (
      .seq (
       .ops [D 67 (.ia 1 (T 63) (T 65)),
        D 68 (.ld1 (T 67)),
        D 9 (.mv (T 68))]) (
      .trim [1, 9, 63, 64, 65] (
       .trim [1, 9, 63, 64, 65, 76] (
        .ops [D 69 (.mv (T 9)),
         D 70 (.mv (T 7)),
         D 71 (.bin .leq (T 69) (T 70)),
         D 72 (.mv (T 71)),
         ⟨(some 73), some (72, false), .mv (T 9)⟩,
         ⟨(some 74), some (72, false), .mv (T 1)⟩,
         ⟨(some 75), some (72, false), .bin .geq (T 73) (T 74)⟩,
         D 76 (.pick (T 72) (.const (.bool true)) (T 75))]) (
       .cond (T 76) (
        .seq (
         .ops [D 6 (.mv (I 32))]) (
        .ret)) (
        .skip))) (
      .ops [D 77 (.mv (T 9)),
       D 7 (.mv (T 77))])))) (
    .ops [D 78 (.bin .add (T 65) (I 1)),
     D 65 (.mv (T 78))]))))))) (
 .seq (
  .ops [D 6 (.mv (I 0))]) (
 .ret)))))⟩
theorem model_checkSample_ok : Ok Try.prog 51 model_checkSample := ⟨by kernel_rfl, by kernel_rfl⟩

/-- diorama/dioramaref20.hour -/
def dioramaref20_hour : AF := ⟨15, [.tmp 2],
 .seq (
  .ops [D 1 (.box (T 0)),
   D 2 (.mv (I 0))]) (
 .seq (
  .ops [D 3 (.mv (I 0))]) (
 .trim [3] (
  .seq (
   .ops [D 4 (.mv (I 0))]) (
  .block 0 (
   .loop [1, 3, 4] (
    .seq (
     .seq (
      .ops [D 5 (.mv (T 4)),
       D 6 (.bin .lss (T 5) (I 60))]) (
     .cond (T 6) (
      .skip) (
      .exit 0))) (
    .trim [1, 3, 4] (
     .block 1 (
      .ops [D 9 (.mv (T 3)),
       D 10 (.ldN 2 (T 1)),
       D 11 (.mv (T 4)),
       D 12 (.call 69 [(T 10), (T 11)]),
       D 13 (.bin .add (T 9) (T 12)),
       D 3 (.mv (T 13))])) (
    .ops [D 7 (.mv (T 4)),
     D 8 (.bin .add (T 7) (I 1)),
     D 4 (.mv (T 8))])))))) (
 .seq (
  .ops [D 14 (.mv (T 3)),
   D 2 (.mv (T 14))]) (
 .ret))))⟩
theorem dioramaref20_hour_ok : Ok Try.prog 52 dioramaref20_hour := ⟨by kernel_rfl, by kernel_rfl⟩

/-- diorama/dioramaref03.fields -/
def dioramaref03_fields : AF := ⟨59, [.tmp 2],
 .seq (
  .ops [D 1 (.box (T 0)),
   D 2 (.mv (.const (.bool false)))]) (
 .trim [1] (
  .trim [1, 43] (
   .ops [D 4 (.fa 0 (T 1)),
    D 5 (.ld1 (T 4)),
    D 6 (.call 89 [(T 5), (I 1), (I 1000)]),
    D 7 (.un .not (T 6)),
    D 8 (.mv (T 7)),
    ⟨(some 9), some (8, false), .fa 1 (T 1)⟩,
    ⟨(some 10), some (8, false), .ld1 (T 9)⟩,
    ⟨(some 11), some (8, false), .call 89 [(T 10), (I 1), (I 7)]⟩,
    ⟨(some 12), some (8, false), .un .not (T 11)⟩,
    D 13 (.pick (T 8) (.const (.bool true)) (T 12)),
    D 14 (.mv (T 13)),
    ⟨(some 15), some (14, false), .fa 2 (T 1)⟩,
    ⟨(some 16), some (14, false), .ld1 (T 15)⟩,
    ⟨(some 17), some (14, false), .call 90 [(T 16)]⟩,
    ⟨(some 18), some (14, false), .un .not (T 17)⟩,
    D 19 (.pick (T 14) (.const (.bool true)) (T 18)),
    D 20 (.mv (T 19)),
    ⟨(some 21), some (20, false), .fa 3 (T 1)⟩,
    ⟨(some 22), some (20, false), .ld1 (T 21)⟩,
    ⟨(some 23), some (20, false), .call 89 [(T 22), (I 1), (I 1000000)]⟩,
    ⟨(some 24), some (20, false), .un .not (T 23)⟩,
    D 25 (.pick (T 20) (.const (.bool true)) (T 24)),
    D 26 (.mv (T 25)),
    ⟨(some 27), some (26, false), .fa 5 (T 1)⟩,
    ⟨(some 28), some (26, false), .ld1 (T 27)⟩,
    ⟨(some 29), some (26, false), .call 91 [(T 28)]⟩,
    ⟨(some 30), some (26, false), .un .not (T 29)⟩,
    D 31 (.pick (T 26) (.const (.bool true)) (T 30)),
    D 32 (.mv (T 31)),
    ⟨(some 33), some (32, false), .fa 6 (T 1)⟩,
    ⟨(some 34), some (32, false), .ld1 (T 33)⟩,
    ⟨(some 35), some (32, false), .call 92 [(T 34)]⟩,
    ⟨(some 36), some (32, false), .un .not (T 35)⟩,
    D 37 (.pick (T 32) (.const (.bool true)) (T 36)),
    D 38 (.mv (T 37)),
    ⟨(some 39), some (38, false), .fa 7 (T 1)⟩,
    ⟨(some 40), some (38, false), .ld1 (T 39)⟩,
    ⟨(some 41), some (38, false), .call 89 [(T 40), (I 0), (I 1099511627776)]⟩,
    ⟨(some 42), some (38, false), .un .not (T 41)⟩,
    D 43 (.pick (T 38) (.const (.bool true)) (T 42))]) (
  .cond (T 43) (
   .seq (
    .ops [D 2 (.mv (.const (.bool false)))]) (
   .ret)) (
   .skip))) (
 .trim [] (
  .seq (
   .ops [D 3 (.mv (I 0))]) (
  .block 0 (
   .loop [1, 3] (
    .trim [1, 3] (
     .seq (
      .ops [D 44 (.mv (T 3)),
       D 45 (.fa 9 (T 1)),
       D 46 (.ld1 (T 45)),
       D 47 (.len (T 46)),
       D 48 (.bin .lss (T 44) (T 47))]) (
     .cond (T 48) (
      .skip) (
      .exit 0))) (
    .trim [1, 3] (
     .block 1 (
      .trim [1, 3, 58] (
       .ops [D 51 (.fa 9 (T 1)),
        D 52 (.ld1 (T 51)),
        D 53 (.mv (T 3)),
        D 54 (.ia 2 (T 52) (T 53)),
        D 55 (.fa 0 (T 54)),
        D 56 (.ld1 (T 55)),
        D 57 (.call 90 [(T 56)]),
        D 58 (.un .not (T 57))]) (
      .cond (T 58) (
       .seq (
        .ops [D 2 (.mv (.const (.bool false)))]) (
       .ret)) (
       .skip)))) (
    .ops [D 49 (.mv (T 3)),
     D 50 (.bin .add (T 49) (I 1)),
     D 3 (.mv (T 50))])))))) (
 .seq (
  .ops [D 2 (.mv (.const (.bool true)))]) (
 .ret))))⟩
theorem dioramaref03_fields_ok : Ok Try.prog 53 dioramaref03_fields := ⟨by kernel_rfl, by kernel_rfl⟩

/-- diorama/dioramaref03.edits -/
def dioramaref03_edits : AF := ⟨57, [.tmp 2],
 .seq (
  .ops [D 2 (.mv (.const (.bool false)))]) (
 .seq (
  .ops [D 3 (.mv (I 0))]) (
 .trim [3] (
  .seq (
   .ops [D 4 (.mv (I 0))]) (
  .block 0 (
   .loop [0, 3, 4] (
    .seq (
     .seq (
      .ops [D 6 (.mv (T 4)),
       D 7 (.mv (T 0)),
       D 8 (.len (T 7)),
       D 9 (.bin .lss (T 6) (T 8))]) (
     .cond (T 9) (
      .skip) (
      .exit 0))) (
    .trim [0, 3, 4] (
     .block 1 (
      .seq (
       .ops [D 12 (.mv (T 0)),
        D 13 (.mv (T 4)),
        D 14 (.ia 4 (T 12) (T 13)),
        D 15 (.ldN 4 (T 14)),
        D 5 (.alloc [(.int .i64 0), (.int .i64 0), (.int .i64 0), (.int .i64 0)]),
        E (.st 4 (T 5) (T 15))]) (
      .trim [0, 3, 4, 5] (
       .trim [0, 3, 4, 5, 37] (
        .ops [D 16 (.fa 0 (T 5)),
         D 17 (.ld1 (T 16)),
         D 18 (.call 89 [(T 17), (I 1), (I 1099511627776)]),
         D 19 (.un .not (T 18)),
         D 20 (.mv (T 19)),
         ⟨(some 21), some (20, false), .fa 1 (T 5)⟩,
         ⟨(some 22), some (20, false), .ld1 (T 21)⟩,
         ⟨(some 23), some (20, false), .call 89 [(T 22), (I (-1)), (I 1099511627776)]⟩,
         ⟨(some 24), some (20, false), .un .not (T 23)⟩,
         D 25 (.pick (T 20) (.const (.bool true)) (T 24)),
         D 26 (.mv (T 25)),
         ⟨(some 27), some (26, false), .fa 2 (T 5)⟩,
         ⟨(some 28), some (26, false), .ld1 (T 27)⟩,
         ⟨(some 29), some (26, false), .call 89 [(T 28), (I 0), (I 1000)]⟩,
         ⟨(some 30), some (26, false), .un .not (T 29)⟩,
         D 31 (.pick (T 26) (.const (.bool true)) (T 30)),
         D 32 (.mv (T 31)),
         ⟨(some 33), some (32, false), .fa 3 (T 5)⟩,
         ⟨(some 34), some (32, false), .ld1 (T 33)⟩,
         ⟨(some 35), some (32, false), .call 89 [(T 34), (I 1), (I 1000)]⟩,
         ⟨(some 36), some (32, false), .un .not (T 35)⟩,
         D 37 (.pick (T 32) (.const (.bool true)) (T 36))]) (
       .cond (T 37) (
        .seq (
         .ops [D 2 (.mv (.const (.bool false)))]) (
        .ret)) (
        .skip))) (
      .trim [0, 3, 4, 5] (
       .trim [0, 3, 4, 5, 50] (
        .ops [D 38 (.fa 1 (T 5)),
         D 39 (.ld1 (T 38)),
         D 40 (.bin .eql (T 39) (I (-1))),
         D 41 (.mv (T 40)),
         ⟨(some 42), some (41, true), .fa 2 (T 5)⟩,
         ⟨(some 43), some (41, true), .ld1 (T 42)⟩,
         ⟨(some 44), some (41, true), .bin .neq (T 43) (I 1)⟩,
         ⟨(some 45), some (41, true), .mv (T 44)⟩,
         ⟨(some 46), some (45, false), .fa 3 (T 5)⟩,
         ⟨(some 47), some (45, false), .ld1 (T 46)⟩,
         ⟨(some 48), some (45, false), .bin .neq (T 47) (I 1)⟩,
         ⟨(some 49), some (41, true), .pick (T 45) (.const (.bool true)) (T 48)⟩,
         D 50 (.pick (T 41) (T 49) (.const (.bool false)))]) (
       .cond (T 50) (
        .seq (
         .ops [D 2 (.mv (.const (.bool false)))]) (
        .ret)) (
        .skip))) (
      .ops [D 51 (.mv (T 3)),
       D 52 (.fa 0 (T 5)),
       D 53 (.ld1 (T 52)),
       D 54 (.bin .add (T 51) (T 53)),
       D 3 (.mv (T 54))]))))) (
    .ops [D 10 (.mv (T 4)),
     D 11 (.bin .add (T 10) (I 1)),
     D 4 (.mv (T 11))])))))) (
 .seq (
  .ops [D 55 (.mv (T 3)),
   D 56 (.bin .leq (T 55) (I 1099511627776)),
   D 2 (.mv (T 56))]) (
 .ret))))⟩
theorem dioramaref03_edits_ok : Ok Try.prog 54 dioramaref03_edits := ⟨by kernel_rfl, by kernel_rfl⟩

/-- diorama/dioramaref03.sample -/
def dioramaref03_sample : AF := ⟨90, [.tmp 6],
 .seq (
  .ops [D 3 (.box (T 0)),
   D 6 (.mv (I 0))]) (
 .trim [1, 2, 3] (
  .trim [1, 2, 3, 23] (
   .ops [D 8 (.fa 0 (T 3)),
    D 9 (.ld1 (T 8)),
    D 10 (.call 89 [(T 9), (I (-1099511627776)), (I 1099511627776)]),
    D 11 (.un .not (T 10)),
    D 12 (.mv (T 11)),
    ⟨(some 13), some (12, false), .fa 1 (T 3)⟩,
    ⟨(some 14), some (12, false), .ld1 (T 13)⟩,
    ⟨(some 15), some (12, false), .call 89 [(T 14), (I (-1099511627776)), (I 1099511627776)]⟩,
    ⟨(some 16), some (12, false), .un .not (T 15)⟩,
    D 17 (.pick (T 12) (.const (.bool true)) (T 16)),
    D 18 (.mv (T 17)),
    ⟨(some 19), some (18, false), .fa 2 (T 3)⟩,
    ⟨(some 20), some (18, false), .ld1 (T 19)⟩,
    ⟨(some 21), some (18, false), .call 89 [(T 20), (I 0), (I 1099511627776)]⟩,
    ⟨(some 22), some (18, false), .un .not (T 21)⟩,
    D 23 (.pick (T 18) (.const (.bool true)) (T 22))]) (
  .cond (T 23) (
   .seq (
    .ops [D 6 (.mv (I 1))]) (
   .ret)) (
   .skip))) (
 .trim [1, 2, 3] (
  .trim [1, 2, 3, 33] (
   .ops [D 24 (.fa 5 (T 3)),
    D 25 (.ld1 (T 24)),
    D 26 (.len (T 25)),
    D 27 (.bin .gtr (T 26) (I 65536)),
    D 28 (.mv (T 27)),
    ⟨(some 29), some (28, false), .fa 4 (T 3)⟩,
    ⟨(some 30), some (28, false), .ld1 (T 29)⟩,
    ⟨(some 31), some (28, false), .len (T 30)⟩,
    ⟨(some 32), some (28, false), .bin .gtr (T 31) (I 4)⟩,
    D 33 (.pick (T 28) (.const (.bool true)) (T 32))]) (
  .cond (T 33) (
   .seq (
    .ops [D 6 (.mv (I 2))]) (
   .ret)) (
   .skip))) (
 .trim [1, 3] (
  .trim [1, 3, 41] (
   .ops [D 34 (.mv (T 1)),
    D 35 (.bin .gtr (T 34) (I 0)),
    D 36 (.mv (T 35)),
    ⟨(some 37), some (36, true), .fa 0 (T 3)⟩,
    ⟨(some 38), some (36, true), .ld1 (T 37)⟩,
    ⟨(some 39), some (36, true), .mv (T 2)⟩,
    ⟨(some 40), some (36, true), .bin .leq (T 38) (T 39)⟩,
    D 41 (.pick (T 36) (T 40) (.const (.bool false)))]) (
  .cond (T 41) (
   .seq (
    .ops [D 6 (.mv (I 31))]) (
   .ret)) (
   .skip))) (
 .trim [3] (
  .seq (
   .ops [D 7 (.mv (I 0))]) (
  .block 0 (
   .loop [1, 3, 7] (
    .trim [1, 3, 7] (
     .seq (
      .ops [D 42 (.mv (T 7)),
       D 43 (.fa 4 (T 3)),
       D 44 (.ld1 (T 43)),
       D 45 (.len (T 44)),
       D 46 (.bin .lss (T 42) (T 45))]) (
     .cond (T 46) (
      .skip) (
      .exit 0))) (
    .trim [1, 3, 7] (
     .block 1 (
      .trim [1, 3, 7, 81] (
       .draw [⟨0, 0, 0, D 49 (.fa 4 (T 3))⟩,
        ⟨1, 1, 1, D 50 (.ld1 (T 49))⟩,
        ⟨2, 0, 0, D 51 (.mv (T 7))⟩,
        ⟨3, 0, 7, D 52 (.ia 1 (T 50) (T 51))⟩,
        ⟨4, 1, 15, D 53 (.ld1 (T 52))⟩,
        ⟨5, 0, 31, D 54 (.bin .lss (T 53) (I 0))⟩,
        ⟨6, 0, 63, D 55 (.mv (T 54))⟩,
        ⟨7, 0, 127, ⟨(some 56), some (55, false), .fa 4 (T 3)⟩⟩,
        ⟨8, 1, 255, ⟨(some 57), some (55, false), .ld1 (T 56)⟩⟩,
        ⟨9, 0, 127, ⟨(some 58), some (55, false), .mv (T 7)⟩⟩,
        ⟨10, 0, 1023, ⟨(some 59), some (55, false), .ia 1 (T 57) (T 58)⟩⟩,
        ⟨11, 1, 2047, ⟨(some 60), some (55, false), .ld1 (T 59)⟩⟩,
        ⟨12, 0, 127, ⟨(some 61), some (55, false), .mv (T 1)⟩⟩,
        ⟨13, 0, 8191, ⟨(some 62), some (55, false), .bin .geq (T 60) (T 61)⟩⟩,
        ⟨14, 0, 16383, D 63 (.pick (T 55) (.const (.bool true)) (T 62))⟩,
        ⟨15, 0, 32767, D 64 (.mv (T 63))⟩,
        ⟨16, 0, 65535, ⟨(some 65), some (64, false), .mv (T 7)⟩⟩,
        ⟨17, 0, 131071, ⟨(some 66), some (64, false), .bin .gtr (T 65) (I 0)⟩⟩,
        ⟨18, 0, 262143, ⟨(some 67), some (64, false), .mv (T 66)⟩⟩,
        ⟨19, 0, 524287, ⟨(some 68), some (67, true), .fa 4 (T 3)⟩⟩,
        ⟨20, 1, 1048575, ⟨(some 69), some (67, true), .ld1 (T 68)⟩⟩,
        ⟨21, 0, 524287, ⟨(some 70), some (67, true), .mv (T 7)⟩⟩,
        ⟨22, 0, 4194303, ⟨(some 71), some (67, true), .ia 1 (T 69) (T 70)⟩⟩,
        ⟨23, 1, 8388607, ⟨(some 72), some (67, true), .ld1 (T 71)⟩⟩,
        ⟨24, 0, 524287, ⟨(some 73), some (67, true), .fa 4 (T 3)⟩⟩,
        ⟨25, 1, 17301503, ⟨(some 74), some (67, true), .ld1 (T 73)⟩⟩,
        ⟨26, 0, 524287, ⟨(some 75), some (67, true), .mv (T 7)⟩⟩,
        ⟨27, 0, 67633151, ⟨(some 76), some (67, true), .bin .sub (T 75) (I 1)⟩⟩,
        ⟨28, 0, 252182527, ⟨(some 77), some (67, true), .ia 1 (T 74) (T 76)⟩⟩,
        ⟨29, 1, 520617983, ⟨(some 78), some (67, true), .ld1 (T 77)⟩⟩,
        ⟨30, 0, 1073741823, ⟨(some 79), some (67, true), .bin .leq (T 72) (T 78)⟩⟩,
        ⟨31, 0, 2147483647, ⟨(some 80), some (64, false), .pick (T 67) (T 79) (.const (.bool false))⟩⟩,
        ⟨32, 0, 4294967295, D 81 (.pick (T 64) (.const (.bool true)) (T 80))⟩]) (
      .cond (T 81) (
       .seq (
        .ops [D 6 (.mv (I 32))]) (
       .ret)) (
       .skip)))) (
    .ops [D 47 (.mv (T 7)),
     D 48 (.bin .add (T 47) (I 1)),
     D 7 (.mv (T 48))])))))) (
 .trim [] (
  .trim [89] (
   .ops [D 82 (.fa 3 (T 3)),
    D 83 (.ld1 (T 82)),
    D 84 (.mv (T 83)),
    ⟨(some 85), some (84, true), .fa 4 (T 3)⟩,
    ⟨(some 86), some (84, true), .ld1 (T 85)⟩,
    ⟨(some 87), some (84, true), .len (T 86)⟩,
    ⟨(some 88), some (84, true), .bin .gtr (T 87) (I 0)⟩,
    D 89 (.pick (T 84) (T 88) (.const (.bool false)))]) (
  .cond (T 89) (
   .seq (
    .ops [D 6 (.mv (I 32))]) (
   .ret)) (
   .skip))) (
 .seq (
  .ops [D 6 (.mv (I 0))]) (
 .ret)))))))⟩
theorem dioramaref03_sample_ok : Ok Try.prog 55 dioramaref03_sample := ⟨by kernel_rfl, by kernel_rfl⟩

/-- diorama/dioramaref00.EqSample -/
def dioramaref00_EqSample : AF := ⟨45, [.tmp 4],
 .seq (
  .ops [D 2 (.box (T 0)),
   D 3 (.box (T 1)),
   D 4 (.mv (.const (.bool false)))]) (
 .trim [4] (
  .ops [D 5 (.fa 0 (T 2)),
   D 6 (.ld1 (T 5)),
   D 7 (.fa 0 (T 3)),
   D 8 (.ld1 (T 7)),
   D 9 (.bin .eql (T 6) (T 8)),
   D 10 (.mv (T 9)),
   ⟨(some 11), some (10, true), .fa 1 (T 2)⟩,
   ⟨(some 12), some (10, true), .ld1 (T 11)⟩,
   ⟨(some 13), some (10, true), .fa 1 (T 3)⟩,
   ⟨(some 14), some (10, true), .ld1 (T 13)⟩,
   ⟨(some 15), some (10, true), .bin .eql (T 12) (T 14)⟩,
   D 16 (.pick (T 10) (T 15) (.const (.bool false))),
   D 17 (.mv (T 16)),
   ⟨(some 18), some (17, true), .fa 2 (T 2)⟩,
   ⟨(some 19), some (17, true), .ld1 (T 18)⟩,
   ⟨(some 20), some (17, true), .fa 2 (T 3)⟩,
   ⟨(some 21), some (17, true), .ld1 (T 20)⟩,
   ⟨(some 22), some (17, true), .bin .eql (T 19) (T 21)⟩,
   D 23 (.pick (T 17) (T 22) (.const (.bool false))),
   D 24 (.mv (T 23)),
   ⟨(some 25), some (24, true), .fa 3 (T 2)⟩,
   ⟨(some 26), some (24, true), .ld1 (T 25)⟩,
   ⟨(some 27), some (24, true), .fa 3 (T 3)⟩,
   ⟨(some 28), some (24, true), .ld1 (T 27)⟩,
   ⟨(some 29), some (24, true), .beq false (T 26) (T 28)⟩,
   D 30 (.pick (T 24) (T 29) (.const (.bool false))),
   D 31 (.mv (T 30)),
   ⟨(some 32), some (31, true), .fa 4 (T 2)⟩,
   ⟨(some 33), some (31, true), .ld1 (T 32)⟩,
   ⟨(some 34), some (31, true), .fa 4 (T 3)⟩,
   ⟨(some 35), some (31, true), .ld1 (T 34)⟩,
   ⟨(some 36), some (31, true), .call 93 [(T 33), (T 35)]⟩,
   D 37 (.pick (T 31) (T 36) (.const (.bool false))),
   D 38 (.mv (T 37)),
   ⟨(some 39), some (38, true), .fa 5 (T 2)⟩,
   ⟨(some 40), some (38, true), .ld1 (T 39)⟩,
   ⟨(some 41), some (38, true), .fa 5 (T 3)⟩,
   ⟨(some 42), some (38, true), .ld1 (T 41)⟩,
   ⟨(some 43), some (38, true), .call 21 [(T 40), (T 42)]⟩,
   D 44 (.pick (T 38) (T 43) (.const (.bool false))),
   D 4 (.mv (T 44))]) (
 .ret))⟩
theorem dioramaref00_EqSample_ok : Ok Try.prog 56 dioramaref00_EqSample := ⟨by kernel_rfl, by kernel_rfl⟩

/-- (diorama/code.steps).dropped -/
def code_steps__dropped : AF := ⟨11, [.tmp 2],
 .seq (
  .ops [D 1 (.box (T 0)),
   D 2 (.mv (I 0))]) (
 .trim [1] (
  .seq (
   .ops [D 3 (.fa 0 (T 1)),
    D 4 (.fa 1 (T 3)),
    D 5 (.ld1 (T 4)),
    D 6 (.un .not (T 5))]) (
  .cond (T 6) (
   .seq (
    .ops [D 2 (.mv (I 0))]) (
   .ret)) (
   .skip))) (
 .seq (
  .ops [D 7 (.fa 0 (T 1)),
   D 8 (.fa 0 (T 7)),
   D 9 (.ld1 (T 8)),
   D 10 (.bin .quo (T 9) (I 15)),
   D 2 (.mv (T 10))]) (
 .ret)))⟩
theorem code_steps__dropped_ok : Ok Try.prog 61 code_steps__dropped := ⟨by kernel_rfl, by kernel_rfl⟩

/-- diorama/dioramaref20.missing -/
def dioramaref20_missing : AF := ⟨15, [.tmp 4],
 .seq (
  .ops [D 2 (.box (T 0)),
   D 4 (.mv (I 0))]) (
 .trim [] (
  .trim [2, 11] (
   .ops [D 5 (.fa 1 (T 2)),
    D 6 (.ld1 (T 5)),
    D 7 (.mv (T 6)),
    ⟨(some 8), some (7, true), .mv (T 1)⟩,
    ⟨(some 9), some (7, true), .bin .rem (T 8) (I 10)⟩,
    ⟨(some 10), some (7, true), .bin .neq (T 9) (I 0)⟩,
    D 11 (.pick (T 7) (T 10) (.const (.bool false)))]) (
  .cond (T 11) (
   .seq (
    .ops [D 12 (.fa 0 (T 2)),
     D 13 (.ld1 (T 12)),
     D 14 (.bin .quo (T 13) (I 15)),
     D 4 (.mv (T 14))]) (
   .ret)) (
   .skip))) (
 .seq (
  .ops [D 4 (.mv (I 0))]) (
 .ret)))⟩
theorem dioramaref20_missing_ok : Ok Try.prog 68 dioramaref20_missing := ⟨by kernel_rfl, by kernel_rfl⟩

/-- diorama/dioramaref20.minute -/
def dioramaref20_minute : AF := ⟨12, [.tmp 4],
 .seq (
  .ops [D 2 (.box (T 0)),
   D 4 (.mv (I 0))]) (
 .trim [4] (
  .draw [⟨0, 0, 0, D 5 (.fa 0 (T 2))⟩,
   ⟨1, 1, 1, D 6 (.ld1 (T 5))⟩,
   ⟨2, 0, 3, D 7 (.bin .mul (I 60) (T 6))⟩,
   ⟨3, 1, 0, D 8 (.ldN 2 (T 2))⟩,
   ⟨4, 0, 0, D 9 (.mv (T 1))⟩,
   ⟨5, 4, 24, D 10 (.call 68 [(T 8), (T 9)])⟩,
   ⟨6, 0, 63, D 11 (.bin .sub (T 7) (T 10))⟩,
   ⟨7, 0, 127, D 4 (.mv (T 11))⟩]) (
 .ret))⟩
theorem dioramaref20_minute_ok : Ok Try.prog 69 dioramaref20_minute := ⟨by kernel_rfl, by kernel_rfl⟩

/-- (diorama/code.steps).right -/
def code_steps__right : AF := ⟨49, [.tmp 4],
 .seq (
  .ops [D 2 (.box (T 0)),
   D 3 (.box (T 1)),
   D 4 (.mv (I 0))]) (
 .trim [] (
  .block 0 (
   .trim [2, 3, 5] (
    .ops [D 6 (.fa 0 (T 3)),
     D 7 (.ld1 (T 6)),
     D 8 (.call 44 [(T 7), (I 0), (I 23)]),
     D 9 (.un .not (T 8)),
     D 10 (.mv (T 9)),
     ⟨(some 11), some (10, false), .fa 1 (T 3)⟩,
     ⟨(some 12), some (10, false), .ld1 (T 11)⟩,
     ⟨(some 13), some (10, false), .call 44 [(T 12), (I 0), (I 59)]⟩,
     ⟨(some 14), some (10, false), .un .not (T 13)⟩,
     D 15 (.pick (T 10) (.const (.bool true)) (T 14)),
     D 16 (.mv (T 15)),
     ⟨(some 17), some (16, false), .fa 2 (T 3)⟩,
     ⟨(some 18), some (16, false), .ld1 (T 17)⟩,
     ⟨(some 19), some (16, false), .call 44 [(T 18), (I 0), (I 59)]⟩,
     ⟨(some 20), some (16, false), .un .not (T 19)⟩,
     D 21 (.pick (T 16) (.const (.bool true)) (T 20)),
     D 22 (.mv (T 21)),
     ⟨(some 23), some (22, false), .fa 3 (T 3)⟩,
     ⟨(some 24), some (22, false), .ld1 (T 23)⟩,
     ⟨(some 25), some (22, false), .fa 0 (T 2)⟩,
     ⟨(some 26), some (22, false), .fa 0 (T 25)⟩,
     ⟨(some 27), some (22, false), .ld1 (T 26)⟩,
     ⟨(some 28), some (22, false), .bin .sub (T 27) (I 1)⟩,
     ⟨(some 29), some (22, false), .call 44 [(T 24), (I 0), (T 28)]⟩,
     ⟨(some 30), some (22, false), .un .not (T 29)⟩,
     D 31 (.pick (T 22) (.const (.bool true)) (T 30)),
     D 5 (.mv (T 31))]) (
   .cond (T 5) (
    .seq (
     .ops [D 4 (.mv (I 1))]) (
    .ret)) (
    .trim [32] (
     .draw [⟨0, 0, 0, D 33 (.fa 2 (T 3))⟩,
      ⟨1, 1, 1, D 34 (.ld1 (T 33))⟩,
      ⟨2, 0, 3, D 35 (.bin .eql (T 34) (I 0))⟩,
      ⟨3, 0, 7, D 36 (.mv (T 35))⟩,
      ⟨4, 0, 15, ⟨(some 37), some (36, true), .fa 1 (T 3)⟩⟩,
      ⟨5, 1, 31, ⟨(some 38), some (36, true), .ld1 (T 37)⟩⟩,
      ⟨6, 0, 63, ⟨(some 39), some (36, true), .bin .rem (T 38) (I 10)⟩⟩,
      ⟨7, 0, 127, ⟨(some 40), some (36, true), .bin .neq (T 39) (I 0)⟩⟩,
      ⟨8, 0, 255, D 41 (.pick (T 36) (T 40) (.const (.bool false)))⟩,
      ⟨9, 0, 511, D 42 (.mv (T 41))⟩,
      ⟨10, 0, 1023, ⟨(some 43), some (42, true), .fa 3 (T 3)⟩⟩,
      ⟨11, 1, 2047, ⟨(some 44), some (42, true), .ld1 (T 43)⟩⟩,
      ⟨12, 1, 1023, ⟨(some 45), some (42, true), .ldN 2 (T 2)⟩⟩,
      ⟨13, 4, 5119, ⟨(some 46), some (42, true), .call 61 [(T 45)]⟩⟩,
      ⟨14, 0, 16383, ⟨(some 47), some (42, true), .bin .lss (T 44) (T 46)⟩⟩,
      ⟨15, 0, 32767, D 48 (.pick (T 42) (T 47) (.const (.bool false)))⟩,
      ⟨16, 0, 65535, D 32 (.mv (T 48))⟩]) (
    .cond (T 32) (
     .seq (
      .ops [D 4 (.mv (I 200))]) (
     .ret)) (
     .skip)))))) (
 .seq (
  .ops [D 4 (.mv (I 0))]) (
 .ret)))⟩
theorem code_steps__right_ok : Ok Try.prog 87 code_steps__right := ⟨by kernel_rfl, by kernel_rfl⟩

/-- diorama/model.tick -/
def model_tick : AF := ⟨5, [.tmp 2],
 .seq (
  .ops [D 2 (.mv (.const (.bool false)))]) (
 .seq (
  .ops [D 3 (.mv (T 0)),
   D 4 (.call 48 [(T 3), (I (-1099511627776)), (I 1099511627776)]),
   D 2 (.mv (T 4))]) (
 .ret))⟩
theorem model_tick_ok : Ok Try.prog 88 model_tick := ⟨by kernel_rfl, by kernel_rfl⟩

/-- diorama/dioramaref03.in -/
def dioramaref03_in : AF := ⟨15, [.tmp 6],
 .seq (
  .ops [D 6 (.mv (.const (.bool false)))]) (
 .trim [6] (
  .ops [D 7 (.mv (T 0)),
   D 8 (.mv (T 1)),
   D 9 (.bin .geq (T 7) (T 8)),
   D 10 (.mv (T 9)),
   ⟨(some 11), some (10, true), .mv (T 0)⟩,
   ⟨(some 12), some (10, true), .mv (T 2)⟩,
   ⟨(some 13), some (10, true), .bin .leq (T 11) (T 12)⟩,
   D 14 (.pick (T 10) (T 13) (.const (.bool false))),
   D 6 (.mv (T 14))]) (
 .ret))⟩
theorem dioramaref03_in_ok : Ok Try.prog 89 dioramaref03_in := ⟨by kernel_rfl, by kernel_rfl⟩

/-- diorama/dioramaref03.Letters -/
def dioramaref03_Letters : AF := ⟨35, [.tmp 2],
 .seq (
  .ops [D 2 (.mv (.const (.bool false)))]) (
 .trim [0] (
  .seq (
   .ops [D 3 (.mv (I 0))]) (
  .block 0 (
   .loop [0, 3] (
    .seq (
     .seq (
      .ops [D 4 (.mv (T 3)),
       D 5 (.mv (T 0)),
       D 6 (.lens (T 5)),
       D 7 (.bin .lss (T 4) (T 6))]) (
     .cond (T 7) (
      .skip) (
      .exit 0))) (
    .trim [0, 3] (
     .block 1 (
      .trim [0, 3, 31] (
       .ops [D 10 (.mv (T 0)),
        D 11 (.mv (T 3)),
        D 12 (.ixs (T 10) (T 11)),
        D 13 (.bin .lss (T 12) (.const (.int .u8 97))),
        D 14 (.mv (T 13)),
        ⟨(some 15), some (14, false), .mv (T 0)⟩,
        ⟨(some 16), some (14, false), .mv (T 3)⟩,
        ⟨(some 17), some (14, false), .ixs (T 15) (T 16)⟩,
        ⟨(some 18), some (14, false), .bin .gtr (T 17) (.const (.int .u8 122))⟩,
        D 19 (.pick (T 14) (.const (.bool true)) (T 18)),
        D 20 (.mv (T 19)),
        ⟨(some 21), some (20, true), .mv (T 0)⟩,
        ⟨(some 22), some (20, true), .mv (T 3)⟩,
        ⟨(some 23), some (20, true), .ixs (T 21) (T 22)⟩,
        ⟨(some 24), some (20, true), .bin .lss (T 23) (.const (.int .u8 48))⟩,
        ⟨(some 25), some (20, true), .mv (T 24)⟩,
        ⟨(some 26), some (25, false), .mv (T 0)⟩,
        ⟨(some 27), some (25, false), .mv (T 3)⟩,
        ⟨(some 28), some (25, false), .ixs (T 26) (T 27)⟩,
        ⟨(some 29), some (25, false), .bin .gtr (T 28) (.const (.int .u8 57))⟩,
        ⟨(some 30), some (20, true), .pick (T 25) (.const (.bool true)) (T 29)⟩,
        D 31 (.pick (T 20) (T 30) (.const (.bool false)))]) (
      .cond (T 31) (
       .seq (
        .ops [D 2 (.mv (.const (.bool false)))]) (
       .ret)) (
       .skip)))) (
    .ops [D 8 (.mv (T 3)),
     D 9 (.bin .add (T 8) (I 1)),
     D 3 (.mv (T 9))])))))) (
 .seq (
  .ops [D 32 (.mv (T 0)),
   D 33 (.lens (T 32)),
   D 34 (.bin .eql (T 33) (I 4)),
   D 2 (.mv (T 34))]) (
 .ret)))⟩
theorem dioramaref03_Letters_ok : Ok Try.prog 90 dioramaref03_Letters := ⟨by kernel_rfl, by kernel_rfl⟩

/-- diorama/dioramaref03.language -/
def dioramaref03_language : AF := ⟨23, [.tmp 2],
 .seq (
  .ops [D 2 (.mv (.const (.bool false)))]) (
 .trim [0] (
  .seq (
   .ops [D 3 (.mv (I 0))]) (
  .block 0 (
   .loop [0, 3] (
    .seq (
     .seq (
      .ops [D 4 (.mv (T 3)),
       D 5 (.mv (T 0)),
       D 6 (.lens (T 5)),
       D 7 (.bin .lss (T 4) (T 6))]) (
     .cond (T 7) (
      .skip) (
      .exit 0))) (
    .trim [0, 3] (
     .block 1 (
      .trim [0, 3, 19] (
       .ops [D 10 (.mv (T 0)),
        D 11 (.mv (T 3)),
        D 12 (.ixs (T 10) (T 11)),
        D 13 (.bin .lss (T 12) (.const (.int .u8 97))),
        D 14 (.mv (T 13)),
        ⟨(some 15), some (14, false), .mv (T 0)⟩,
        ⟨(some 16), some (14, false), .mv (T 3)⟩,
        ⟨(some 17), some (14, false), .ixs (T 15) (T 16)⟩,
        ⟨(some 18), some (14, false), .bin .gtr (T 17) (.const (.int .u8 122))⟩,
        D 19 (.pick (T 14) (.const (.bool true)) (T 18))]) (
      .cond (T 19) (
       .seq (
        .ops [D 2 (.mv (.const (.bool false)))]) (
       .ret)) (
       .skip)))) (
    .ops [D 8 (.mv (T 3)),
     D 9 (.bin .add (T 8) (I 1)),
     D 3 (.mv (T 9))])))))) (
 .seq (
  .ops [D 20 (.mv (T 0)),
   D 21 (.lens (T 20)),
   D 22 (.bin .eql (T 21) (I 3)),
   D 2 (.mv (T 22))]) (
 .ret)))⟩
theorem dioramaref03_language_ok : Ok Try.prog 91 dioramaref03_language := ⟨by kernel_rfl, by kernel_rfl⟩

/-- diorama/dioramaref03.Name -/
def dioramaref03_Name : AF := ⟨23, [.tmp 2],
 .seq (
  .ops [D 2 (.mv (.const (.bool false)))]) (
 .trim [0] (
  .seq (
   .ops [D 3 (.mv (I 0))]) (
  .block 0 (
   .loop [0, 3] (
    .seq (
     .seq (
      .ops [D 4 (.mv (T 3)),
       D 5 (.mv (T 0)),
       D 6 (.lens (T 5)),
       D 7 (.bin .lss (T 4) (T 6))]) (
     .cond (T 7) (
      .skip) (
      .exit 0))) (
    .trim [0, 3] (
     .block 1 (
      .trim [0, 3, 19] (
       .ops [D 10 (.mv (T 0)),
        D 11 (.mv (T 3)),
        D 12 (.ixs (T 10) (T 11)),
        D 13 (.bin .lss (T 12) (.const (.int .u8 32))),
        D 14 (.mv (T 13)),
        ⟨(some 15), some (14, false), .mv (T 0)⟩,
        ⟨(some 16), some (14, false), .mv (T 3)⟩,
        ⟨(some 17), some (14, false), .ixs (T 15) (T 16)⟩,
        ⟨(some 18), some (14, false), .bin .gtr (T 17) (.const (.int .u8 126))⟩,
        D 19 (.pick (T 14) (.const (.bool true)) (T 18))]) (
      .cond (T 19) (
       .seq (
        .ops [D 2 (.mv (.const (.bool false)))]) (
       .ret)) (
       .skip)))) (
    .ops [D 8 (.mv (T 3)),
     D 9 (.bin .add (T 8) (I 1)),
     D 3 (.mv (T 9))])))))) (
 .seq (
  .ops [D 20 (.mv (T 0)),
   D 21 (.lens (T 20)),
   D 22 (.bin .leq (T 21) (I 40)),
   D 2 (.mv (T 22))]) (
 .ret)))⟩
theorem dioramaref03_Name_ok : Ok Try.prog 92 dioramaref03_Name := ⟨by kernel_rfl, by kernel_rfl⟩

/-- diorama/dioramaref00.EqInts -/
def dioramaref00_EqInts : AF := ⟨26, [.tmp 4],
 .seq (
  .ops [D 4 (.mv (.const (.bool false)))]) (
 .trim [0, 1] (
  .seq (
   .ops [D 6 (.mv (T 0)),
    D 7 (.len (T 6)),
    D 8 (.mv (T 1)),
    D 9 (.len (T 8)),
    D 10 (.bin .neq (T 7) (T 9))]) (
  .cond (T 10) (
   .seq (
    .ops [D 4 (.mv (.const (.bool false)))]) (
   .ret)) (
   .skip))) (
 .trim [] (
  .seq (
   .ops [D 5 (.mv (I 0))]) (
  .block 0 (
   .loop [0, 1, 5] (
    .seq (
     .seq (
      .ops [D 11 (.mv (T 5)),
       D 12 (.mv (T 0)),
       D 13 (.len (T 12)),
       D 14 (.bin .lss (T 11) (T 13))]) (
     .cond (T 14) (
      .skip) (
      .exit 0))) (
    .trim [0, 1, 5] (
     .block 1 (
      .trim [0, 1, 5, 25] (
       .draw [⟨0, 0, 0, D 17 (.mv (T 0))⟩,
        ⟨1, 0, 0, D 18 (.mv (T 5))⟩,
        ⟨2, 0, 3, D 19 (.ia 1 (T 17) (T 18))⟩,
        ⟨3, 1, 7, D 20 (.ld1 (T 19))⟩,
        ⟨4, 0, 0, D 21 (.mv (T 1))⟩,
        ⟨5, 0, 0, D 22 (.mv (T 5))⟩,
        ⟨6, 0, 48, D 23 (.ia 1 (T 21) (T 22))⟩,
        ⟨7, 1, 112, D 24 (.ld1 (T 23))⟩,
        ⟨8, 0, 255, D 25 (.bin .neq (T 20) (T 24))⟩]) (
      .cond (T 25) (
       .seq (
        .ops [D 4 (.mv (.const (.bool false)))]) (
       .ret)) (
       .skip)))) (
    .ops [D 15 (.mv (T 5)),
     D 16 (.bin .add (T 15) (I 1)),
     D 5 (.mv (T 16))])))))) (
 .seq (
  .ops [D 4 (.mv (.const (.bool true)))]) (
 .ret))))⟩
theorem dioramaref00_EqInts_ok : Ok Try.prog 93 dioramaref00_EqInts := ⟨by kernel_rfl, by kernel_rfl⟩

end Go.Proofs.Ytnibipabfdalcaa.Af
