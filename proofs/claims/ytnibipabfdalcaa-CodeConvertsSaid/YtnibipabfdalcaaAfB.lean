/- The functions of the program in the abstract machine's words, printed by a program of ours; each is the program's by the kernel's reckoning.
   Conditions: none. -/
import Derived.Test.YtnibipabfdalcaaAmZ
import Derived.Test.YtnibipabfdalcaaAfA
namespace Go.Proofs.Ytnibipabfdalcaa.Af
open Go Go.RowKit Go.Proofs.Ytnibipabfdalcaa.Am
/-- diorama/dioramalaw20.CodeConverts -/
def dioramalaw20_CodeConverts : AF := ⟨36, [.tmp 6],
 .seq (
  .ops [D 3 (.box (T 0)),
   D 4 (.box (T 1)),
   D 5 (.box (T 2)),
   D 6 (.mv (.const (.bool false)))]) (
 .trim [3, 4, 5, 7, 8] (
  .ops [D 12 (.ldN 2 (T 3)),
   D 13 (.ldN 2 (T 4)),
   D 14 (.ldN 4 (T 5)),
   D 15 (.call 10 [(T 12), (T 13), (T 14)]),
   D 11 (.mv (T 15)),
   D 16 (.ext (T 11) 0),
   D 17 (.ext (T 11) 1),
   D 7 (.alloc [(.int .i64 0), (.int .i64 0), (.int .i64 0), (.int .i64 0)]),
   E (.st 4 (T 7) (T 16)),
   D 8 (.mv (T 17))]) (
 .trim [7, 8, 9, 10] (
  .ops [D 19 (.ldN 2 (T 3)),
   D 20 (.ldN 2 (T 4)),
   D 21 (.ldN 4 (T 5)),
   D 22 (.call 11 [(T 19), (T 20), (T 21)]),
   D 18 (.mv (T 22)),
   D 23 (.ext (T 18) 0),
   D 24 (.ext (T 18) 1),
   D 9 (.alloc [(.int .i64 0), (.int .i64 0), (.int .i64 0), (.int .i64 0)]),
   E (.st 4 (T 9) (T 23)),
   D 10 (.mv (T 24))]) (
 .trim [6] (
  .ops [D 25 (.ldN 4 (T 7)),
   D 26 (.ldN 4 (T 9)),
   D 27 (.eqa false [1, 1, 1, 1] (T 25) (T 26)),
   D 28 (.mv (T 27)),
   ⟨(some 29), some (28, true), .mv (T 8)⟩,
   ⟨(some 30), some (28, true), .mv (T 10)⟩,
   ⟨(some 31), some (28, true), .bin .eql (T 29) (T 30)⟩,
   D 32 (.pick (T 28) (T 31) (.const (.bool false))),
   D 33 (.mv (T 32)),
   ⟨(some 34), some (33, true), .call 6 []⟩,
   D 35 (.pick (T 33) (T 34) (.const (.bool false))),
   D 6 (.mv (T 35))]) (
 .ret))))⟩
theorem dioramalaw20_CodeConverts_ok : Ok Try.prog 4 dioramalaw20_CodeConverts := ⟨by kernel_rfl, by kernel_rfl⟩

/-- diorama/code.Convert -/
def code_Convert : AF := ⟨61, [.cellN 4 6, .tmp 7],
 .seq (
  .ops [D 3 (.box (T 0)),
   D 4 (.box (T 1)),
   D 5 (.box (T 2)),
   D 6 (.alloc [(.int .i64 0), (.int .i64 0), (.int .i64 0), (.int .i64 0)]),
   D 7 (.mv (I 0))]) (
 .trim [3, 4, 5, 6] (
  .seq (
   .ops [D 16 (.ldN 2 (T 3)),
    D 17 (.ldN 2 (T 4)),
    D 18 (.bslice [(.int .i64 0), (.bool false), (.int .i64 0), (.bool false)] 2 [(0, 2, (T 16)), (2, 2, (T 17))]),
    D 19 (.len (T 18)),
    D 20 (.mv (I 0))]) (
  .block 0 (
   .loop [3, 4, 5, 6, 18, 19, 20] (
    .seq (
     .ops [D 21 (.bin .lss (T 20) (T 19))]) (
    .seq (
     .cond (T 21) (
      .skip) (
      .exit 0)) (
    .trim [3, 4, 5, 6, 18, 19, 20] (
     .block 1 (
      .seq (
       .ops [D 22 (.ia 2 (T 18) (T 20)),
        D 23 (.ldN 2 (T 22)),
        D 9 (.alloc [(.int .i64 0), (.bool false)]),
        E (.st 2 (T 9) (T 23))]) (
      .seq (
       .ops [D 24 (.ldN 2 (T 9)),
        D 25 (.call 15 [(T 24)]),
        D 10 (.mv (T 25))]) (
      .seq (
       .ops [D 26 (.mv (T 10)),
        D 27 (.bin .neq (T 26) (I 0))]) (
      .cond (T 27) (
       .seq (
        .ops [D 28 (.build [(.int .i64 0), (.int .i64 0), (.int .i64 0), (.int .i64 0)] []),
         D 29 (.mv (T 10)),
         E (.st 4 (T 6) (T 28)),
         D 7 (.mv (T 29))]) (
       .ret)) (
       .skip)))))) (
    .ops [D 30 (.bin .add (T 20) (I 1)),
     D 20 (.mv (T 30))]))))))) (
 .trim [3, 4, 6, 11, 12] (
  .ops [D 32 (.ldN 2 (T 3)),
   D 33 (.ldN 4 (T 5)),
   D 34 (.call 25 [(T 32), (T 33)]),
   D 31 (.mv (T 34)),
   D 35 (.ext (T 31) 0),
   D 36 (.ext (T 31) 1),
   D 11 (.mv (T 35)),
   D 12 (.mv (T 36))]) (
 .trim [3, 4, 6, 11] (
  .seq (
   .ops [D 37 (.mv (T 12)),
    D 38 (.bin .neq (T 37) (I 0))]) (
  .cond (T 38) (
   .seq (
    .ops [D 39 (.build [(.int .i64 0), (.int .i64 0), (.int .i64 0), (.int .i64 0)] []),
     D 40 (.mv (T 12)),
     E (.st 4 (T 6) (T 39)),
     D 7 (.mv (T 40))]) (
   .ret)) (
   .skip))) (
 .seq (
  .draw [⟨0, 1, 0, D 41 (.ldN 2 (T 3))⟩,
   ⟨1, 0, 1, D 42 (.build [(.int .i64 0), (.bool false)] [(0, 2, (T 41))])⟩,
   ⟨2, 1, 0, D 43 (.ldN 2 (T 4))⟩,
   ⟨3, 0, 4, D 44 (.build [(.int .i64 0), (.bool false)] [(0, 2, (T 43))])⟩,
   ⟨5, 2, 0, D 14 (.alloc [(.int .i64 0), (.bool false)])⟩,
   ⟨4, 3, 0, D 13 (.alloc [(.int .i64 0), (.bool false)])⟩,
   ⟨6, 4, 51, E (.st 2 (T 13) (T 42))⟩,
   ⟨7, 4, 127, E (.st 2 (T 14) (T 44))⟩]) (
 .trim [6, 14, 15] (
  .draw [⟨1, 0, 0, D 46 (.mv (T 11))⟩,
   ⟨3, 1, 0, D 48 (.ldN 2 (T 13))⟩,
   ⟨2, 4, 2, D 47 (.call 27 [(T 46), (I 1)])⟩,
   ⟨4, 4, 14, D 49 (.call 28 [(T 48)])⟩,
   ⟨0, 3, 0, D 45 (.alloc [(.bool false), (.slice none 0 0), (.bool false), (.slice none 0 0)])⟩,
   ⟨5, 4, 31, D 50 (.call 26 [(T 45), (T 47), (T 49)])⟩,
   ⟨6, 0, 63, D 15 (.mv (T 50))⟩]) (
 .trim [6, 7] (
  .draw [⟨0, 1, 0, D 51 (.ldN 2 (T 14))⟩,
   ⟨1, 1, 0, D 52 (.ldN 2 (T 14))⟩,
   ⟨2, 0, 0, D 53 (.mv (T 15))⟩,
   ⟨3, 0, 0, D 54 (.mv (T 15))⟩,
   ⟨4, 1, 0, D 55 (.ldN 2 (T 14))⟩,
   ⟨5, 4, 16, D 56 (.call 28 [(T 55)])⟩,
   ⟨6, 4, 60, D 57 (.call 32 [(T 53), (T 54), (T 56)])⟩,
   ⟨7, 4, 124, D 58 (.call 31 [(T 57)])⟩,
   ⟨8, 4, 254, D 59 (.call 30 [(T 52), (T 58)])⟩,
   ⟨9, 4, 511, D 60 (.call 29 [(T 51), (T 59)])⟩,
   ⟨10, 4, 1023, E (.st 4 (T 6) (T 60))⟩,
   ⟨11, 0, 2047, D 7 (.mv (I 0))⟩]) (
 .ret)))))))⟩
theorem code_Convert_ok : Ok Try.prog 10 code_Convert := ⟨by kernel_rfl, by kernel_rfl⟩

/-- diorama/dioramaref20.Convert -/
def dioramaref20_Convert : AF := ⟨61, [.cellN 4 6, .tmp 7],
 .seq (
  .ops [D 3 (.box (T 0)),
   D 4 (.box (T 1)),
   D 5 (.box (T 2)),
   D 6 (.alloc [(.int .i64 0), (.int .i64 0), (.int .i64 0), (.int .i64 0)]),
   D 7 (.mv (I 0))]) (
 .trim [3, 4, 5, 6] (
  .trim [3, 4, 5, 6, 22] (
   .ops [D 15 (.ldN 2 (T 3)),
    D 16 (.call 33 [(T 15)]),
    D 17 (.bin .neq (T 16) (I 0)),
    D 18 (.mv (T 17)),
    ⟨(some 19), some (18, false), .ldN 2 (T 4)⟩,
    ⟨(some 20), some (18, false), .call 33 [(T 19)]⟩,
    ⟨(some 21), some (18, false), .bin .neq (T 20) (I 0)⟩,
    D 22 (.pick (T 18) (.const (.bool true)) (T 21))]) (
  .cond (T 22) (
   .seq (
    .ops [D 23 (.build [(.int .i64 0), (.int .i64 0), (.int .i64 0), (.int .i64 0)] []),
     E (.st 4 (T 6) (T 23)),
     D 7 (.mv (I 1))]) (
   .ret)) (
   .skip))) (
 .trim [3, 4, 6, 8, 9] (
  .ops [D 25 (.ldN 2 (T 3)),
   D 26 (.ldN 4 (T 5)),
   D 27 (.call 34 [(T 25), (T 26)]),
   D 24 (.mv (T 27)),
   D 28 (.ext (T 24) 0),
   D 29 (.ext (T 24) 1),
   D 8 (.mv (T 28)),
   D 9 (.mv (T 29))]) (
 .trim [3, 4, 6, 8] (
  .seq (
   .ops [D 30 (.mv (T 9)),
    D 31 (.bin .neq (T 30) (I 0))]) (
  .cond (T 31) (
   .seq (
    .ops [D 32 (.build [(.int .i64 0), (.int .i64 0), (.int .i64 0), (.int .i64 0)] []),
     D 33 (.mv (T 9)),
     E (.st 4 (T 6) (T 32)),
     D 7 (.mv (T 33))]) (
   .ret)) (
   .skip))) (
 .trim [3, 4, 6, 8, 10] (
  .ops [D 35 (.ldN 2 (T 4)),
   D 36 (.call 18 [(T 35)]),
   D 34 (.mv (T 36)),
   D 37 (.ext (T 34) 0),
   D 38 (.ext (T 34) 1),
   D 10 (.mv (T 37)),
   D 11 (.mv (T 38))]) (
 .seq (
  .draw [⟨0, 1, 0, D 39 (.ldN 2 (T 3))⟩,
   ⟨2, 1, 0, D 41 (.ldN 2 (T 4))⟩,
   ⟨1, 4, 1, D 40 (.call 35 [(T 39)])⟩,
   ⟨3, 4, 7, D 42 (.call 35 [(T 41)])⟩,
   ⟨4, 3, 0, D 12 (.alloc [(.bool false), (.slice none 0 0), (.slice none 0 0)])⟩,
   ⟨5, 3, 0, D 13 (.alloc [(.bool false), (.slice none 0 0), (.slice none 0 0)])⟩,
   ⟨6, 4, 63, E (.st 3 (T 12) (T 40))⟩,
   ⟨7, 4, 127, E (.st 3 (T 13) (T 42))⟩]) (
 .trim [4, 6, 10, 13, 14] (
  .draw [⟨0, 0, 0, D 43 (.mv (T 8))⟩,
   ⟨1, 0, 1, D 44 (.build [(.int .i64 0), (.int .i64 0)] [(0, 1, (T 43)), (1, 1, (I 1))])⟩,
   ⟨3, 0, 0, D 46 (.fa 2 (T 12))⟩,
   ⟨4, 1, 8, D 47 (.ld1 (T 46))⟩,
   ⟨5, 0, 0, D 48 (.fa 1 (T 12))⟩,
   ⟨6, 1, 32, D 49 (.ld1 (T 48))⟩,
   ⟨7, 0, 120, D 50 (.build [(.bool false), (.slice none 0 0), (.slice none 0 0)] [(1, 1, (T 47)), (2, 1, (T 49))])⟩,
   ⟨2, 4, 3, D 45 (.call 37 [(T 44)])⟩,
   ⟨8, 4, 255, D 51 (.call 36 [(T 45), (T 50)])⟩,
   ⟨9, 3, 0, D 14 (.alloc [(.bool false), (.slice none 0 0), (.slice none 0 0)])⟩,
   ⟨10, 4, 1023, E (.st 3 (T 14) (T 51))⟩]) (
 .trim [6, 7] (
  .draw [⟨0, 1, 0, D 52 (.ldN 2 (T 4))⟩,
   ⟨1, 1, 0, D 53 (.ldN 3 (T 14))⟩,
   ⟨2, 1, 0, D 54 (.ldN 3 (T 13))⟩,
   ⟨4, 0, 0, D 56 (.mv (T 10))⟩,
   ⟨3, 4, 6, D 55 (.call 36 [(T 53), (T 54)])⟩,
   ⟨5, 4, 30, D 57 (.call 39 [(T 55), (T 56)])⟩,
   ⟨6, 4, 63, D 58 (.call 38 [(T 52), (T 57)])⟩,
   ⟨7, 0, 127, D 59 (.ext (T 58) 0)⟩,
   ⟨8, 0, 127, D 60 (.ext (T 58) 1)⟩,
   ⟨9, 4, 511, E (.st 4 (T 6) (T 59))⟩,
   ⟨10, 0, 1023, D 7 (.mv (T 60))⟩]) (
 .ret))))))))⟩
theorem dioramaref20_Convert_ok : Ok Try.prog 11 dioramaref20_Convert := ⟨by kernel_rfl, by kernel_rfl⟩

/-- diorama/code.At -/
def code_At : AF := ⟨61, [.cellN 4 6, .tmp 7, .tmp 8],
 .seq (
  .ops [D 3 (.box (T 0)),
   D 5 (.box (T 2)),
   D 6 (.alloc [(.int .i64 0), (.int .i64 0), (.int .i64 0), (.int .i64 0)]),
   D 7 (.mv (.const (.bool false))),
   D 8 (.mv (I 0))]) (
 .trim [1, 3, 5, 6] (
  .trim [1, 3, 5, 6, 10] (
   .ops [D 16 (.ldN 6 (T 3)),
    D 17 (.mv (T 1)),
    D 18 (.ldN 2 (T 5)),
    D 19 (.call 40 [(T 16), (T 17), (T 18)]),
    D 15 (.mv (T 19)),
    D 20 (.ext (T 15) 0),
    D 21 (.ext (T 15) 1),
    D 9 (.mv (T 20)),
    D 10 (.mv (T 21))]) (
  .seq (
   .ops [D 22 (.mv (T 10)),
    D 23 (.bin .neq (T 22) (I 0))]) (
  .cond (T 23) (
   .seq (
    .ops [D 24 (.build [(.int .i64 0), (.int .i64 0), (.int .i64 0), (.int .i64 0)] []),
     D 25 (.mv (T 10)),
     E (.st 4 (T 6) (T 24)),
     D 7 (.mv (.const (.bool false))),
     D 8 (.mv (T 25))]) (
   .ret)) (
   .skip)))) (
 .trim [5, 6, 11, 12] (
  .ops [D 27 (.ldN 6 (T 3)),
   D 28 (.mv (T 1)),
   D 29 (.call 41 [(T 27), (T 28)]),
   D 26 (.mv (T 29)),
   D 30 (.ext (T 26) 0),
   D 31 (.ext (T 26) 1),
   D 11 (.mv (T 30)),
   D 12 (.mv (T 31))]) (
 .trim [5, 6, 11] (
  .seq (
   .ops [D 32 (.mv (T 12)),
    D 33 (.bin .neq (T 32) (I 0))]) (
  .cond (T 33) (
   .seq (
    .ops [D 34 (.build [(.int .i64 0), (.int .i64 0), (.int .i64 0), (.int .i64 0)] []),
     D 35 (.mv (T 12)),
     E (.st 4 (T 6) (T 34)),
     D 7 (.mv (.const (.bool false))),
     D 8 (.mv (T 35))]) (
   .ret)) (
   .skip))) (
 .trim [6, 11, 12, 13, 14] (
  .ops [D 37 (.mv (T 11)),
   D 38 (.fa 0 (T 5)),
   D 39 (.ld1 (T 38)),
   D 40 (.fa 1 (T 5)),
   D 41 (.ld1 (T 40)),
   D 42 (.call 27 [(T 39), (T 41)]),
   D 43 (.call 42 [(T 37), (T 42)]),
   D 36 (.mv (T 43)),
   D 44 (.ext (T 36) 0),
   D 45 (.ext (T 36) 1),
   D 46 (.ext (T 36) 2),
   D 13 (.mv (T 44)),
   D 14 (.mv (T 45)),
   D 12 (.mv (T 46))]) (
 .trim [6, 11, 13] (
  .trim [6, 11, 12, 13, 52] (
   .ops [D 47 (.mv (T 14)),
    D 48 (.un .not (T 47)),
    D 49 (.mv (T 48)),
    ⟨(some 50), some (49, false), .mv (T 12)⟩,
    ⟨(some 51), some (49, false), .bin .neq (T 50) (I 0)⟩,
    D 52 (.pick (T 49) (.const (.bool true)) (T 51))]) (
  .cond (T 52) (
   .seq (
    .ops [D 53 (.build [(.int .i64 0), (.int .i64 0), (.int .i64 0), (.int .i64 0)] []),
     D 54 (.mv (T 12)),
     E (.st 4 (T 6) (T 53)),
     D 7 (.mv (.const (.bool false))),
     D 8 (.mv (T 54))]) (
   .ret)) (
   .skip))) (
 .trim [6, 7, 8] (
  .ops [D 55 (.mv (T 11)),
   D 56 (.nil (T 55)),
   D 57 (.fa 17 (T 56)),
   D 58 (.ldN 2 (T 57)),
   D 59 (.mv (T 13)),
   D 60 (.call 29 [(T 58), (T 59)]),
   E (.st 4 (T 6) (T 60)),
   D 7 (.mv (.const (.bool true))),
   D 8 (.mv (I 0))]) (
 .ret)))))))⟩
theorem code_At_ok : Ok Try.prog 12 code_At := ⟨by kernel_rfl, by kernel_rfl⟩

/-- diorama/code.Count -/
def code_Count : AF := ⟨17, [.tmp 4, .tmp 5],
 .seq (
  .ops [D 2 (.box (T 0)),
   D 3 (.box (T 1)),
   D 4 (.mv (I 0)),
   D 5 (.mv (I 0))]) (
 .trim [2, 3] (
  .seq (
   .ops [D 7 (.ldN 2 (T 2)),
    D 8 (.ldN 4 (T 3)),
    D 9 (.call 43 [(T 7), (T 8)]),
    D 6 (.mv (T 9))]) (
  .seq (
   .ops [D 10 (.mv (T 6)),
    D 11 (.bin .neq (T 10) (I 0))]) (
  .cond (T 11) (
   .seq (
    .ops [D 12 (.mv (T 6)),
     D 4 (.mv (I 0)),
     D 5 (.mv (T 12))]) (
   .ret)) (
   .skip)))) (
 .seq (
  .ops [D 13 (.ldN 2 (T 2)),
   D 14 (.build [(.int .i64 0), (.bool false)] [(0, 2, (T 13))]),
   D 15 (.ldN 4 (T 3)),
   D 16 (.call 46 [(T 14), (T 15)]),
   D 4 (.mv (T 16)),
   D 5 (.mv (I 0))]) (
 .ret)))⟩
theorem code_Count_ok : Ok Try.prog 25 code_Count := ⟨by kernel_rfl, by kernel_rfl⟩

/-- (*diorama/num.Rat).Quo -/
def num_Rat__Quo : AF := ⟨21, [.tmp 6],
 .seq (
  .ops [D 6 (.mv (.const (.pointer none)))]) (
 .trim [6] (
  .draw [⟨0, 0, 0, D 7 (.mv (T 0))⟩,
   ⟨1, 0, 0, D 8 (.mv (T 1))⟩,
   ⟨2, 0, 2, D 9 (.nil (T 8))⟩,
   ⟨3, 0, 6, D 10 (.fa 0 (T 9))⟩,
   ⟨4, 0, 0, D 11 (.mv (T 2))⟩,
   ⟨7, 0, 0, D 14 (.mv (T 1))⟩,
   ⟨9, 0, 0, D 16 (.mv (T 2))⟩,
   ⟨10, 0, 512, D 17 (.nil (T 16))⟩,
   ⟨11, 0, 1536, D 18 (.fa 0 (T 17))⟩,
   ⟨5, 4, 16, D 12 (.call 59 [(T 11)])⟩,
   ⟨6, 4, 62, D 13 (.call 58 [(T 10), (T 12)])⟩,
   ⟨8, 4, 254, D 15 (.call 59 [(T 14)])⟩,
   ⟨12, 4, 4094, D 19 (.call 58 [(T 15), (T 18)])⟩,
   ⟨13, 4, 8191, D 20 (.call 57 [(T 7), (T 13), (T 19)])⟩,
   ⟨14, 0, 16383, D 6 (.mv (T 20))⟩]) (
 .ret))⟩
theorem num_Rat__Quo_ok : Ok Try.prog 26 num_Rat__Quo := ⟨by kernel_rfl, by kernel_rfl⟩

/-- diorama/code.ratio -/
def code_ratio : AF := ⟨8, [.tmp 4],
 .seq (
  .ops [D 4 (.mv (.const (.pointer none)))]) (
 .seq (
  .ops [D 5 (.mv (T 0)),
   D 6 (.mv (T 1)),
   D 7 (.call 60 [(T 5), (T 6)]),
   D 4 (.mv (T 7))]) (
 .ret))⟩
theorem code_ratio_ok : Ok Try.prog 27 code_ratio := ⟨by kernel_rfl, by kernel_rfl⟩

/-- (diorama/code.steps).rate -/
def code_steps__rate : AF := ⟨15, [.tmp 2],
 .seq (
  .ops [D 1 (.box (T 0)),
   D 2 (.mv (.const (.pointer none)))]) (
 .trim [1] (
  .seq (
   .ops [D 3 (.fa 0 (T 1)),
    D 4 (.fa 1 (T 3)),
    D 5 (.ld1 (T 4))]) (
  .cond (T 5) (
   .trim [2] (
    .ops [D 6 (.fa 0 (T 1)),
     D 7 (.fa 0 (T 6)),
     D 8 (.ld1 (T 7)),
     D 9 (.bin .mul (T 8) (I 1000)),
     D 10 (.call 27 [(T 9), (I 1001)]),
     D 2 (.mv (T 10))]) (
   .ret)) (
   .skip))) (
 .seq (
  .ops [D 11 (.fa 0 (T 1)),
   D 12 (.fa 0 (T 11)),
   D 13 (.ld1 (T 12)),
   D 14 (.call 27 [(T 13), (I 1)]),
   D 2 (.mv (T 14))]) (
 .ret)))⟩
theorem code_steps__rate_ok : Ok Try.prog 28 code_steps__rate := ⟨by kernel_rfl, by kernel_rfl⟩

/-- (diorama/code.steps).modulo -/
def code_steps__modulo : AF := ⟨12, [.tmp 4],
 .seq (
  .ops [D 2 (.box (T 0)),
   D 4 (.mv (I 0))]) (
 .trim [4] (
  .ops [D 5 (.alloc [(.bool false), (.slice none 0 0)]),
   D 6 (.mv (T 1)),
   D 7 (.ldN 2 (T 2)),
   D 8 (.call 16 [(T 7)]),
   D 9 (.call 63 [(T 8)]),
   D 10 (.call 62 [(T 5), (T 6), (T 9)]),
   D 11 (.call 64 [(T 10)]),
   D 4 (.mv (T 11))]) (
 .ret))⟩
theorem code_steps__modulo_ok : Ok Try.prog 30 code_steps__modulo := ⟨by kernel_rfl, by kernel_rfl⟩

/-- diorama/code.down -/
def code_down : AF := ⟨9, [.tmp 2],
 .seq (
  .ops [D 2 (.mv (.const (.pointer none)))]) (
 .trim [2] (
  .ops [D 3 (.alloc [(.bool false), (.slice none 0 0)]),
   D 4 (.mv (T 0)),
   D 5 (.call 66 [(T 4)]),
   D 6 (.mv (T 0)),
   D 7 (.call 67 [(T 6)]),
   D 8 (.call 65 [(T 3), (T 5), (T 7)]),
   D 2 (.mv (T 8))]) (
 .ret))⟩
theorem code_down_ok : Ok Try.prog 31 code_down := ⟨by kernel_rfl, by kernel_rfl⟩

/-- (*diorama/num.Rat).Mul -/
def num_Rat__Mul : AF := ⟨21, [.tmp 6],
 .seq (
  .ops [D 6 (.mv (.const (.pointer none)))]) (
 .trim [6] (
  .draw [⟨0, 0, 0, D 7 (.mv (T 0))⟩,
   ⟨1, 0, 0, D 8 (.mv (T 1))⟩,
   ⟨2, 0, 2, D 9 (.nil (T 8))⟩,
   ⟨3, 0, 6, D 10 (.fa 0 (T 9))⟩,
   ⟨4, 0, 0, D 11 (.mv (T 2))⟩,
   ⟨5, 0, 16, D 12 (.nil (T 11))⟩,
   ⟨6, 0, 48, D 13 (.fa 0 (T 12))⟩,
   ⟨8, 0, 0, D 15 (.mv (T 1))⟩,
   ⟨10, 0, 0, D 17 (.mv (T 2))⟩,
   ⟨7, 4, 126, D 14 (.call 58 [(T 10), (T 13)])⟩,
   ⟨9, 4, 510, D 16 (.call 59 [(T 15)])⟩,
   ⟨11, 4, 2046, D 18 (.call 59 [(T 17)])⟩,
   ⟨12, 4, 4094, D 19 (.call 58 [(T 16), (T 18)])⟩,
   ⟨13, 4, 8191, D 20 (.call 57 [(T 7), (T 14), (T 19)])⟩,
   ⟨14, 0, 16383, D 6 (.mv (T 20))⟩]) (
 .ret))⟩
theorem num_Rat__Mul_ok : Ok Try.prog 32 num_Rat__Mul := ⟨by kernel_rfl, by kernel_rfl⟩

/-- diorama/dioramaref20.Count -/
def dioramaref20_Count : AF := ⟨82, [.tmp 4, .tmp 5],
 .seq (
  .ops [D 2 (.box (T 0)),
   D 3 (.box (T 1)),
   D 4 (.mv (I 0)),
   D 5 (.mv (I 0))]) (
 .seq (
  .ops [D 9 (.ldN 2 (T 2)),
   D 10 (.call 33 [(T 9)]),
   D 6 (.mv (T 10))]) (
 .trim [2, 3] (
  .seq (
   .ops [D 11 (.mv (T 6)),
    D 12 (.bin .neq (T 11) (I 0))]) (
  .cond (T 12) (
   .seq (
    .ops [D 13 (.mv (T 6)),
     D 4 (.mv (I 0)),
     D 5 (.mv (T 13))]) (
   .ret)) (
   .skip))) (
 .trim [2, 3] (
  .trim [2, 3, 38] (
   .ops [D 14 (.fa 0 (T 3)),
    D 15 (.ld1 (T 14)),
    D 16 (.call 19 [(T 15), (I 0), (I 23)]),
    D 17 (.un .not (T 16)),
    D 18 (.mv (T 17)),
    ⟨(some 19), some (18, false), .fa 1 (T 3)⟩,
    ⟨(some 20), some (18, false), .ld1 (T 19)⟩,
    ⟨(some 21), some (18, false), .call 19 [(T 20), (I 0), (I 59)]⟩,
    ⟨(some 22), some (18, false), .un .not (T 21)⟩,
    D 23 (.pick (T 18) (.const (.bool true)) (T 22)),
    D 24 (.mv (T 23)),
    ⟨(some 25), some (24, false), .fa 2 (T 3)⟩,
    ⟨(some 26), some (24, false), .ld1 (T 25)⟩,
    ⟨(some 27), some (24, false), .call 19 [(T 26), (I 0), (I 59)]⟩,
    ⟨(some 28), some (24, false), .un .not (T 27)⟩,
    D 29 (.pick (T 24) (.const (.bool true)) (T 28)),
    D 30 (.mv (T 29)),
    ⟨(some 31), some (30, false), .fa 3 (T 3)⟩,
    ⟨(some 32), some (30, false), .ld1 (T 31)⟩,
    ⟨(some 33), some (30, false), .fa 0 (T 2)⟩,
    ⟨(some 34), some (30, false), .ld1 (T 33)⟩,
    ⟨(some 35), some (30, false), .bin .sub (T 34) (I 1)⟩,
    ⟨(some 36), some (30, false), .call 19 [(T 32), (I 0), (T 35)]⟩,
    ⟨(some 37), some (30, false), .un .not (T 36)⟩,
    D 38 (.pick (T 30) (.const (.bool true)) (T 37))]) (
  .cond (T 38) (
   .seq (
    .ops [D 4 (.mv (I 0)),
     D 5 (.mv (I 1))]) (
   .ret)) (
   .skip))) (
 .trim [2, 3] (
  .trim [2, 3, 50] (
   .draw [⟨0, 0, 0, D 39 (.fa 2 (T 3))⟩,
    ⟨1, 1, 1, D 40 (.ld1 (T 39))⟩,
    ⟨2, 0, 3, D 41 (.bin .eql (T 40) (I 0))⟩,
    ⟨3, 0, 7, D 42 (.mv (T 41))⟩,
    ⟨4, 0, 15, ⟨(some 43), some (42, true), .fa 3 (T 3)⟩⟩,
    ⟨5, 1, 31, ⟨(some 44), some (42, true), .ld1 (T 43)⟩⟩,
    ⟨6, 1, 15, ⟨(some 45), some (42, true), .ldN 2 (T 2)⟩⟩,
    ⟨7, 0, 15, ⟨(some 46), some (42, true), .fa 1 (T 3)⟩⟩,
    ⟨8, 1, 143, ⟨(some 47), some (42, true), .ld1 (T 46)⟩⟩,
    ⟨9, 4, 463, ⟨(some 48), some (42, true), .call 68 [(T 45), (T 47)]⟩⟩,
    ⟨10, 0, 1023, ⟨(some 49), some (42, true), .bin .lss (T 44) (T 48)⟩⟩,
    ⟨11, 0, 2047, D 50 (.pick (T 42) (T 49) (.const (.bool false)))⟩]) (
  .cond (T 50) (
   .seq (
    .ops [D 4 (.mv (I 0)),
     D 5 (.mv (I 200))]) (
   .ret)) (
   .skip))) (
 .trim [2, 3, 7] (
  .draw [⟨0, 0, 0, D 51 (.fa 0 (T 3))⟩,
   ⟨1, 1, 1, D 52 (.ld1 (T 51))⟩,
   ⟨2, 1, 0, D 53 (.ldN 2 (T 2))⟩,
   ⟨3, 4, 4, D 54 (.call 52 [(T 53)])⟩,
   ⟨4, 0, 15, D 55 (.bin .mul (T 52) (T 54))⟩,
   ⟨5, 0, 31, D 7 (.mv (T 55))⟩]) (
 .trim [2, 3, 7] (
  .seq (
   .ops [D 8 (.mv (I 0))]) (
  .block 0 (
   .loop [2, 3, 7, 8] (
    .seq (
     .seq (
      .ops [D 56 (.mv (T 8)),
       D 57 (.fa 1 (T 3)),
       D 58 (.ld1 (T 57)),
       D 59 (.bin .lss (T 56) (T 58))]) (
     .cond (T 59) (
      .skip) (
      .exit 0))) (
    .trim [2, 3, 7, 8] (
     .block 1 (
      .ops [D 62 (.mv (T 7)),
       D 63 (.ldN 2 (T 2)),
       D 64 (.mv (T 8)),
       D 65 (.call 69 [(T 63), (T 64)]),
       D 66 (.bin .add (T 62) (T 65)),
       D 7 (.mv (T 66))])) (
    .ops [D 60 (.mv (T 8)),
     D 61 (.bin .add (T 60) (I 1)),
     D 8 (.mv (T 61))])))))) (
 .trim [4, 5] (
  .draw [⟨0, 0, 0, D 67 (.mv (T 7))⟩,
   ⟨1, 0, 0, D 68 (.fa 2 (T 3))⟩,
   ⟨2, 1, 2, D 69 (.ld1 (T 68))⟩,
   ⟨3, 0, 0, D 70 (.fa 0 (T 2))⟩,
   ⟨4, 1, 8, D 71 (.ld1 (T 70))⟩,
   ⟨5, 0, 30, D 72 (.bin .mul (T 69) (T 71))⟩,
   ⟨6, 0, 63, D 73 (.bin .add (T 67) (T 72))⟩,
   ⟨7, 0, 0, D 74 (.fa 3 (T 3))⟩,
   ⟨8, 1, 128, D 75 (.ld1 (T 74))⟩,
   ⟨9, 0, 511, D 76 (.bin .add (T 73) (T 75))⟩,
   ⟨10, 1, 0, D 77 (.ldN 2 (T 2))⟩,
   ⟨11, 0, 0, D 78 (.fa 1 (T 3))⟩,
   ⟨12, 1, 2048, D 79 (.ld1 (T 78))⟩,
   ⟨13, 4, 7168, D 80 (.call 68 [(T 77), (T 79)])⟩,
   ⟨14, 0, 16383, D 81 (.bin .sub (T 76) (T 80))⟩,
   ⟨15, 0, 32767, D 4 (.mv (T 81))⟩,
   ⟨16, 0, 65535, D 5 (.mv (I 0))⟩]) (
 .ret))))))))⟩
theorem dioramaref20_Count_ok : Ok Try.prog 34 dioramaref20_Count := ⟨by kernel_rfl, by kernel_rfl⟩

/-- diorama/dioramaref20.speed -/
def dioramaref20_speed : AF := ⟨16, [.cellN 3 2],
 .seq (
  .ops [D 1 (.box (T 0)),
   D 2 (.alloc [(.bool false), (.slice none 0 0), (.slice none 0 0)])]) (
 .trim [1, 2] (
  .seq (
   .ops [D 3 (.fa 1 (T 1)),
    D 4 (.ld1 (T 3))]) (
  .cond (T 4) (
   .trim [2] (
    .ops [D 5 (.fa 0 (T 1)),
     D 6 (.ld1 (T 5)),
     D 7 (.bin .mul (I 1000) (T 6)),
     D 8 (.call 70 [(T 7)]),
     D 9 (.call 70 [(I 1001)]),
     D 10 (.build [(.bool false), (.slice none 0 0), (.slice none 0 0)] [(1, 1, (T 8)), (2, 1, (T 9))]),
     E (.st 3 (T 2) (T 10))]) (
   .ret)) (
   .skip))) (
 .trim [2] (
  .ops [D 11 (.fa 0 (T 1)),
   D 12 (.ld1 (T 11)),
   D 13 (.call 70 [(T 12)]),
   D 14 (.call 70 [(I 1)]),
   D 15 (.build [(.bool false), (.slice none 0 0), (.slice none 0 0)] [(1, 1, (T 13)), (2, 1, (T 14))]),
   E (.st 3 (T 2) (T 15))]) (
 .ret)))⟩
theorem dioramaref20_speed_ok : Ok Try.prog 35 dioramaref20_speed := ⟨by kernel_rfl, by kernel_rfl⟩

/-- diorama/dioramaref20.times -/
def dioramaref20_times : AF := ⟨21, [.cellN 3 4],
 .seq (
  .ops [D 2 (.box (T 0)),
   D 3 (.box (T 1)),
   D 4 (.alloc [(.bool false), (.slice none 0 0), (.slice none 0 0)])]) (
 .trim [4] (
  .draw [⟨0, 0, 0, D 5 (.fa 0 (T 2))⟩,
   ⟨1, 1, 1, D 6 (.ld1 (T 5))⟩,
   ⟨2, 0, 0, D 7 (.fa 0 (T 3))⟩,
   ⟨3, 1, 4, D 8 (.ld1 (T 7))⟩,
   ⟨4, 0, 15, D 9 (.beq true (T 6) (T 8))⟩,
   ⟨5, 0, 0, D 10 (.fa 1 (T 2))⟩,
   ⟨6, 1, 32, D 11 (.ld1 (T 10))⟩,
   ⟨7, 0, 0, D 12 (.fa 1 (T 3))⟩,
   ⟨8, 1, 128, D 13 (.ld1 (T 12))⟩,
   ⟨10, 0, 0, D 15 (.fa 2 (T 2))⟩,
   ⟨11, 1, 1024, D 16 (.ld1 (T 15))⟩,
   ⟨12, 0, 0, D 17 (.fa 2 (T 3))⟩,
   ⟨13, 1, 4096, D 18 (.ld1 (T 17))⟩,
   ⟨9, 4, 480, D 14 (.call 71 [(T 11), (T 13)])⟩,
   ⟨14, 4, 16352, D 19 (.call 71 [(T 16), (T 18)])⟩,
   ⟨15, 0, 32767, D 20 (.build [(.bool false), (.slice none 0 0), (.slice none 0 0)] [(0, 1, (T 9)), (1, 1, (T 14)), (2, 1, (T 19))])⟩,
   ⟨16, 4, 65535, E (.st 3 (T 4) (T 20))⟩]) (
 .ret))⟩
theorem dioramaref20_times_ok : Ok Try.prog 36 dioramaref20_times := ⟨by kernel_rfl, by kernel_rfl⟩

/-- diorama/dioramaref02.RatOf -/
def dioramaref02_RatOf : AF := ⟨13, [.cellN 3 2],
 .seq (
  .ops [D 1 (.box (T 0)),
   D 2 (.alloc [(.bool false), (.slice none 0 0), (.slice none 0 0)])]) (
 .trim [2] (
  .draw [⟨0, 0, 0, D 3 (.fa 0 (T 1))⟩,
   ⟨1, 1, 1, D 4 (.ld1 (T 3))⟩,
   ⟨2, 0, 3, D 5 (.bin .lss (T 4) (I 0))⟩,
   ⟨3, 0, 0, D 6 (.fa 0 (T 1))⟩,
   ⟨4, 1, 8, D 7 (.ld1 (T 6))⟩,
   ⟨6, 0, 0, D 9 (.fa 1 (T 1))⟩,
   ⟨7, 1, 64, D 10 (.ld1 (T 9))⟩,
   ⟨5, 4, 24, D 8 (.call 72 [(T 7)])⟩,
   ⟨8, 4, 248, D 11 (.call 70 [(T 10)])⟩,
   ⟨9, 0, 511, D 12 (.build [(.bool false), (.slice none 0 0), (.slice none 0 0)] [(0, 1, (T 5)), (1, 1, (T 8)), (2, 1, (T 11))])⟩,
   ⟨10, 4, 1023, E (.st 3 (T 2) (T 12))⟩]) (
 .ret))⟩
theorem dioramaref02_RatOf_ok : Ok Try.prog 37 dioramaref02_RatOf := ⟨by kernel_rfl, by kernel_rfl⟩

/-- diorama/dioramaref20.Code -/
def dioramaref20_Code : AF := ⟨66, [.cellN 4 4, .tmp 5],
 .seq (
  .ops [D 2 (.box (T 0)),
   D 4 (.alloc [(.int .i64 0), (.int .i64 0), (.int .i64 0), (.int .i64 0)]),
   D 5 (.mv (I 0))]) (
 .trim [1, 2, 4, 6, 7] (
  .ops [D 10 (.ldN 2 (T 2)),
   D 11 (.call 18 [(T 10)]),
   D 9 (.mv (T 11)),
   D 12 (.ext (T 9) 0),
   D 13 (.ext (T 9) 1),
   D 6 (.mv (T 12)),
   D 7 (.mv (T 13))]) (
 .trim [1, 2, 4, 6] (
  .seq (
   .ops [D 14 (.mv (T 7)),
    D 15 (.bin .neq (T 14) (I 0))]) (
  .cond (T 15) (
   .seq (
    .ops [D 16 (.build [(.int .i64 0), (.int .i64 0), (.int .i64 0), (.int .i64 0)] []),
     D 17 (.mv (T 7)),
     E (.st 4 (T 4) (T 16)),
     D 5 (.mv (T 17))]) (
   .ret)) (
   .skip))) (
 .trim [1, 2, 4] (
  .seq (
   .ops [D 18 (.mv (T 1)),
    D 19 (.mv (T 6)),
    D 20 (.bin .sub (T 19) (I 1)),
    D 21 (.call 19 [(T 18), (I 0), (T 20)]),
    D 22 (.un .not (T 21))]) (
  .cond (T 22) (
   .seq (
    .ops [D 23 (.build [(.int .i64 0), (.int .i64 0), (.int .i64 0), (.int .i64 0)] []),
     E (.st 4 (T 4) (T 23)),
     D 5 (.mv (I 1))]) (
   .ret)) (
   .skip))) (
 .trim [1, 2, 4, 8] (
  .ops [D 24 (.mv (T 1)),
   D 25 (.ldN 2 (T 2)),
   D 26 (.call 52 [(T 25)]),
   D 27 (.bin .quo (T 24) (T 26)),
   D 28 (.build [(.int .i64 0), (.int .i64 0), (.int .i64 0), (.int .i64 0)] [(0, 1, (T 27))]),
   D 8 (.alloc [(.int .i64 0), (.int .i64 0), (.int .i64 0), (.int .i64 0)]),
   E (.st 4 (T 8) (T 28))]) (
 .seq (
  .ops [D 29 (.mv (T 1)),
   D 30 (.ldN 2 (T 2)),
   D 31 (.call 52 [(T 30)]),
   D 32 (.bin .rem (T 29) (T 31)),
   D 1 (.mv (T 32))]) (
 .trim [1, 2, 4, 8] (
  .block 0 (
   .loop [1, 2, 4, 8] (
    .trim [1, 2, 4, 8] (
     .trim [1, 2, 4, 8, 38] (
      .ops [D 33 (.mv (T 1)),
       D 34 (.ldN 2 (T 2)),
       D 35 (.fa 1 (T 8)),
       D 36 (.ld1 (T 35)),
       D 37 (.call 69 [(T 34), (T 36)]),
       D 38 (.bin .geq (T 33) (T 37))]) (
     .cond (T 38) (
      .skip) (
      .exit 0))) (
    .block 1 (
     .trim [1, 2, 4, 8] (
      .ops [D 39 (.mv (T 1)),
       D 40 (.ldN 2 (T 2)),
       D 41 (.fa 1 (T 8)),
       D 42 (.ld1 (T 41)),
       D 43 (.call 69 [(T 40), (T 42)]),
       D 44 (.bin .sub (T 39) (T 43)),
       D 1 (.mv (T 44))]) (
     .ops [D 45 (.fa 1 (T 8)),
      D 46 (.ld1 (T 45)),
      D 47 (.bin .add (T 46) (I 1)),
      D 48 (.fa 1 (T 8)),
      E (.st 1 (T 48) (T 47))])))))) (
 .trim [1, 2, 4, 8] (
  .ops [D 49 (.mv (T 1)),
   D 50 (.ldN 2 (T 2)),
   D 51 (.fa 1 (T 8)),
   D 52 (.ld1 (T 51)),
   D 53 (.call 68 [(T 50), (T 52)]),
   D 54 (.bin .add (T 49) (T 53)),
   D 1 (.mv (T 54))]) (
 .trim [1, 2, 4, 8] (
  .ops [D 55 (.mv (T 1)),
   D 56 (.fa 0 (T 2)),
   D 57 (.ld1 (T 56)),
   D 58 (.bin .quo (T 55) (T 57)),
   D 59 (.fa 2 (T 8)),
   E (.st 1 (T 59) (T 58))]) (
 .trim [4, 8] (
  .ops [D 60 (.mv (T 1)),
   D 61 (.fa 0 (T 2)),
   D 62 (.ld1 (T 61)),
   D 63 (.bin .rem (T 60) (T 62)),
   D 64 (.fa 3 (T 8)),
   E (.st 1 (T 64) (T 63))]) (
 .seq (
  .ops [D 65 (.ldN 4 (T 8)),
   E (.st 4 (T 4) (T 65)),
   D 5 (.mv (I 0))]) (
 .ret)))))))))))⟩
theorem dioramaref20_Code_ok : Ok Try.prog 38 dioramaref20_Code := ⟨by kernel_rfl, by kernel_rfl⟩

/-- diorama/dioramaref20.floor -/
def dioramaref20_floor : AF := ⟨33, [.tmp 4],
 .seq (
  .ops [D 2 (.box (T 0)),
   D 4 (.mv (I 0))]) (
 .trim [1, 5] (
  .ops [D 12 (.fa 1 (T 2)),
   D 13 (.ld1 (T 12)),
   D 14 (.fa 2 (T 2)),
   D 15 (.ld1 (T 14)),
   D 16 (.call 73 [(T 13), (T 15)]),
   D 11 (.mv (T 16)),
   D 17 (.ext (T 11) 0),
   D 18 (.ext (T 11) 1),
   D 5 (.mv (T 17)),
   D 6 (.mv (T 18))]) (
 .trim [1, 8] (
  .ops [D 20 (.mv (T 5)),
   D 21 (.mv (T 1)),
   D 22 (.call 70 [(T 21)]),
   D 23 (.call 73 [(T 20), (T 22)]),
   D 19 (.mv (T 23)),
   D 24 (.ext (T 19) 0),
   D 25 (.ext (T 19) 1),
   D 7 (.mv (T 24)),
   D 8 (.mv (T 25))]) (
 .trim [9] (
  .ops [D 27 (.mv (T 8)),
   D 28 (.mv (T 1)),
   D 29 (.call 74 [(T 27), (T 28)]),
   D 26 (.mv (T 29)),
   D 30 (.ext (T 26) 0),
   D 31 (.ext (T 26) 1),
   D 9 (.mv (T 30)),
   D 10 (.mv (T 31))]) (
 .seq (
  .ops [D 32 (.mv (T 9)),
   D 4 (.mv (T 32))]) (
 .ret)))))⟩
theorem dioramaref20_floor_ok : Ok Try.prog 39 dioramaref20_floor := ⟨by kernel_rfl, by kernel_rfl⟩

/-- (*diorama/num.Rat).SetFrac -/
def num_Rat__SetFrac : AF := ⟨75, [.tmp 6],
 .seq (
  .ops [D 6 (.mv (.const (.pointer none)))]) (
 .trim [0, 1, 2, 7, 8] (
  .draw [⟨0, 0, 0, D 16 (.mv (T 1))⟩,
   ⟨1, 0, 1, D 17 (.nil (T 16))⟩,
   ⟨2, 0, 3, D 18 (.fa 1 (T 17))⟩,
   ⟨3, 1, 7, D 19 (.ld1 (T 18))⟩,
   ⟨5, 0, 0, D 21 (.mv (T 2))⟩,
   ⟨6, 0, 32, D 22 (.nil (T 21))⟩,
   ⟨7, 0, 96, D 23 (.fa 1 (T 22))⟩,
   ⟨8, 1, 224, D 24 (.ld1 (T 23))⟩,
   ⟨4, 4, 15, D 20 (.call 94 [(T 19)])⟩,
   ⟨9, 0, 31, D 7 (.mv (T 20))⟩,
   ⟨10, 0, 1023, D 8 (.mv (T 24))⟩]) (
 .trim [0, 1, 2, 7] (
  .block 0 (
   .loop [0, 1, 2, 7, 8] (
    .seq (
     .seq (
      .ops [D 25 (.mv (T 8)),
       D 26 (.len (T 25)),
       D 27 (.bin .gtr (T 26) (I 0))]) (
     .cond (T 27) (
      .skip) (
      .exit 0))) (
    .block 1 (
     .trim [0, 1, 2, 8, 10] (
      .ops [D 29 (.mv (T 7)),
       D 30 (.mv (T 8)),
       D 31 (.call 95 [(T 29), (T 30)]),
       D 28 (.mv (T 31)),
       D 32 (.ext (T 28) 0),
       D 33 (.ext (T 28) 1),
       D 9 (.mv (T 32)),
       D 10 (.mv (T 33))]) (
     .ops [D 34 (.mv (T 8)),
      D 35 (.mv (T 10)),
      D 7 (.mv (T 34)),
      D 8 (.mv (T 35))])))))) (
 .trim [0, 1, 2, 7, 11] (
  .ops [D 37 (.mv (T 1)),
   D 38 (.nil (T 37)),
   D 39 (.fa 1 (T 38)),
   D 40 (.ld1 (T 39)),
   D 41 (.mv (T 7)),
   D 42 (.call 95 [(T 40), (T 41)]),
   D 36 (.mv (T 42)),
   D 43 (.ext (T 36) 0),
   D 44 (.ext (T 36) 1),
   D 11 (.mv (T 43)),
   D 12 (.mv (T 44))]) (
 .trim [0, 1, 2, 11, 13] (
  .ops [D 46 (.mv (T 2)),
   D 47 (.nil (T 46)),
   D 48 (.fa 1 (T 47)),
   D 49 (.ld1 (T 48)),
   D 50 (.mv (T 7)),
   D 51 (.call 95 [(T 49), (T 50)]),
   D 45 (.mv (T 51)),
   D 52 (.ext (T 45) 0),
   D 53 (.ext (T 45) 1),
   D 13 (.mv (T 52)),
   D 14 (.mv (T 53))]) (
 .trim [0, 11, 13, 15] (
  .draw [⟨0, 0, 0, D 54 (.mv (T 1))⟩,
   ⟨1, 0, 1, D 55 (.nil (T 54))⟩,
   ⟨2, 0, 3, D 56 (.fa 0 (T 55))⟩,
   ⟨3, 1, 7, D 57 (.ld1 (T 56))⟩,
   ⟨4, 0, 0, D 58 (.mv (T 2))⟩,
   ⟨5, 0, 16, D 59 (.nil (T 58))⟩,
   ⟨6, 0, 48, D 60 (.fa 0 (T 59))⟩,
   ⟨7, 1, 112, D 61 (.ld1 (T 60))⟩,
   ⟨8, 0, 255, D 62 (.beq true (T 57) (T 61))⟩,
   ⟨9, 0, 511, D 15 (.mv (T 62))⟩]) (
 .trim [0, 13] (
  .ops [D 63 (.mv (T 0)),
   D 64 (.nil (T 63)),
   D 65 (.fa 0 (T 64)),
   D 66 (.mv (T 15)),
   D 67 (.mv (T 11)),
   D 68 (.call 96 [(T 65), (T 66), (T 67)])]) (
 .trim [0] (
  .ops [D 69 (.mv (T 0)),
   D 70 (.nil (T 69)),
   D 71 (.fa 2 (T 70)),
   D 72 (.mv (T 13)),
   D 73 (.call 96 [(T 71), (.const (.bool false)), (T 72)])]) (
 .seq (
  .ops [D 74 (.mv (T 0)),
   D 6 (.mv (T 74))]) (
 .ret)))))))))⟩
theorem num_Rat__SetFrac_ok : Ok Try.prog 57 num_Rat__SetFrac := ⟨by kernel_rfl, by kernel_rfl⟩

/-- diorama/num.product -/
def num_product : AF := ⟨9, [.tmp 4],
 .seq (
  .ops [D 4 (.mv (.const (.pointer none)))]) (
 .seq (
  .ops [D 5 (.alloc [(.bool false), (.slice none 0 0)]),
   D 6 (.mv (T 0)),
   D 7 (.mv (T 1)),
   D 8 (.call 97 [(T 5), (T 6), (T 7)]),
   D 4 (.mv (T 8))]) (
 .ret))⟩
theorem num_product_ok : Ok Try.prog 58 num_product := ⟨by kernel_rfl, by kernel_rfl⟩

/-- (*diorama/num.Rat).down -/
def num_Rat__down : AF := ⟨17, [.tmp 2],
 .seq (
  .ops [D 2 (.mv (.const (.pointer none)))]) (
 .trim [0] (
  .trim [0, 9] (
   .ops [D 3 (.mv (T 0)),
    D 4 (.nil (T 3)),
    D 5 (.fa 2 (T 4)),
    D 6 (.fa 1 (T 5)),
    D 7 (.ld1 (T 6)),
    D 8 (.len (T 7)),
    D 9 (.bin .eql (T 8) (I 0))]) (
  .cond (T 9) (
   .ops [D 10 (.mv (T 0)),
    D 11 (.nil (T 10)),
    D 12 (.fa 2 (T 11)),
    D 13 (.call 98 [(T 12), (I 1)])]) (
   .skip))) (
 .seq (
  .ops [D 14 (.mv (T 0)),
   D 15 (.nil (T 14)),
   D 16 (.fa 2 (T 15)),
   D 2 (.mv (T 16))]) (
 .ret)))⟩
theorem num_Rat__down_ok : Ok Try.prog 59 num_Rat__down := ⟨by kernel_rfl, by kernel_rfl⟩

/-- diorama/num.NewRat -/
def num_NewRat : AF := ⟨11, [.tmp 4],
 .seq (
  .ops [D 4 (.mv (.const (.pointer none)))]) (
 .trim [4] (
  .ops [D 5 (.alloc [(.bool false), (.slice none 0 0), (.bool false), (.slice none 0 0)]),
   D 6 (.mv (T 0)),
   D 7 (.call 63 [(T 6)]),
   D 8 (.mv (T 1)),
   D 9 (.call 63 [(T 8)]),
   D 10 (.call 57 [(T 5), (T 7), (T 9)]),
   D 4 (.mv (T 10))]) (
 .ret))⟩
theorem num_NewRat_ok : Ok Try.prog 60 num_NewRat := ⟨by kernel_rfl, by kernel_rfl⟩

/-- (*diorama/num.Int).Mod -/
def num_Int__Mod : AF := ⟨35, [.tmp 6],
 .seq (
  .ops [D 6 (.mv (.const (.pointer none)))]) (
 .trim [0, 1, 2, 7] (
  .ops [D 10 (.mv (T 2)),
   D 11 (.nil (T 10)),
   D 12 (.fa 1 (T 11)),
   D 13 (.ld1 (T 12)),
   D 14 (.build [(.bool false), (.slice none 0 0)] [(1, 1, (T 13))]),
   D 15 (.box (T 14)),
   D 7 (.mv (T 15))]) (
 .trim [0, 7, 9] (
  .ops [D 17 (.alloc [(.bool false), (.slice none 0 0)]),
   D 18 (.mv (T 1)),
   D 19 (.mv (T 2)),
   D 20 (.alloc [(.bool false), (.slice none 0 0)]),
   D 21 (.call 99 [(T 17), (T 18), (T 19), (T 20)]),
   D 16 (.mv (T 21)),
   D 22 (.ext (T 16) 0),
   D 23 (.ext (T 16) 1),
   D 8 (.mv (T 22)),
   D 9 (.mv (T 23))]) (
 .trim [0, 9] (
  .seq (
   .ops [D 24 (.mv (T 9)),
    D 25 (.nil (T 24)),
    D 26 (.fa 0 (T 25)),
    D 27 (.ld1 (T 26))]) (
  .cond (T 27) (
   .seq (
    .ops [D 28 (.mv (T 0)),
     D 29 (.mv (T 9)),
     D 30 (.mv (T 7)),
     D 31 (.call 100 [(T 28), (T 29), (T 30)]),
     D 6 (.mv (T 31))]) (
   .ret)) (
   .skip))) (
 .seq (
  .ops [D 32 (.mv (T 0)),
   D 33 (.mv (T 9)),
   D 34 (.call 101 [(T 32), (T 33)]),
   D 6 (.mv (T 34))]) (
 .ret)))))⟩
theorem num_Int__Mod_ok : Ok Try.prog 62 num_Int__Mod := ⟨by kernel_rfl, by kernel_rfl⟩

/-- diorama/num.NewInt -/
def num_NewInt : AF := ⟨6, [.tmp 2],
 .seq (
  .ops [D 2 (.mv (.const (.pointer none)))]) (
 .seq (
  .ops [D 3 (.alloc [(.bool false), (.slice none 0 0)]),
   D 4 (.mv (T 0)),
   D 5 (.call 98 [(T 3), (T 4)]),
   D 2 (.mv (T 5))]) (
 .ret))⟩
theorem num_NewInt_ok : Ok Try.prog 63 num_NewInt := ⟨by kernel_rfl, by kernel_rfl⟩

/-- (*diorama/num.Int).Int64 -/
def num_Int__Int64 : AF := ⟨14, [.tmp 2],
 .seq (
  .ops [D 2 (.mv (I 0))]) (
 .trim [0] (
  .seq (
   .ops [D 3 (.mv (T 0)),
    D 4 (.nil (T 3)),
    D 5 (.fa 0 (T 4)),
    D 6 (.ld1 (T 5))]) (
  .cond (T 6) (
   .seq (
    .ops [D 7 (.mv (T 0)),
     D 8 (.call 102 [(T 7)]),
     D 9 (.cvi .i64 (T 8)),
     D 10 (.un .neg (T 9)),
     D 2 (.mv (T 10))]) (
   .ret)) (
   .skip))) (
 .seq (
  .ops [D 11 (.mv (T 0)),
   D 12 (.call 102 [(T 11)]),
   D 13 (.cvi .i64 (T 12)),
   D 2 (.mv (T 13))]) (
 .ret)))⟩
theorem num_Int__Int64_ok : Ok Try.prog 64 num_Int__Int64 := ⟨by kernel_rfl, by kernel_rfl⟩

/-- (*diorama/num.Int).Div -/
def num_Int__Div : AF := ⟨33, [.tmp 6],
 .seq (
  .ops [D 6 (.mv (.const (.pointer none)))]) (
 .seq (
  .ops [D 10 (.call 63 [(I 1)]),
   D 7 (.mv (T 10))]) (
 .trim [0, 1, 2, 7] (
  .seq (
   .ops [D 11 (.mv (T 2)),
    D 12 (.nil (T 11)),
    D 13 (.fa 0 (T 12)),
    D 14 (.ld1 (T 13))]) (
  .cond (T 14) (
   .ops [D 15 (.call 63 [(I (-1))]),
    D 7 (.mv (T 15))]) (
   .skip))) (
 .trim [7, 8, 9] (
  .ops [D 17 (.mv (T 0)),
   D 18 (.mv (T 1)),
   D 19 (.mv (T 2)),
   D 20 (.alloc [(.bool false), (.slice none 0 0)]),
   D 21 (.call 99 [(T 17), (T 18), (T 19), (T 20)]),
   D 16 (.mv (T 21)),
   D 22 (.ext (T 16) 0),
   D 23 (.ext (T 16) 1),
   D 8 (.mv (T 22)),
   D 9 (.mv (T 23))]) (
 .trim [8] (
  .seq (
   .ops [D 24 (.mv (T 9)),
    D 25 (.nil (T 24)),
    D 26 (.fa 0 (T 25)),
    D 27 (.ld1 (T 26))]) (
  .cond (T 27) (
   .seq (
    .ops [D 28 (.mv (T 8)),
     D 29 (.mv (T 8)),
     D 30 (.mv (T 7)),
     D 31 (.call 103 [(T 28), (T 29), (T 30)]),
     D 6 (.mv (T 31))]) (
   .ret)) (
   .skip))) (
 .seq (
  .ops [D 32 (.mv (T 8)),
   D 6 (.mv (T 32))]) (
 .ret))))))⟩
theorem num_Int__Div_ok : Ok Try.prog 65 num_Int__Div := ⟨by kernel_rfl, by kernel_rfl⟩

/-- (*diorama/num.Rat).Num -/
def num_Rat__Num : AF := ⟨6, [.tmp 2],
 .seq (
  .ops [D 2 (.mv (.const (.pointer none)))]) (
 .seq (
  .ops [D 3 (.mv (T 0)),
   D 4 (.nil (T 3)),
   D 5 (.fa 0 (T 4)),
   D 2 (.mv (T 5))]) (
 .ret))⟩
theorem num_Rat__Num_ok : Ok Try.prog 66 num_Rat__Num := ⟨by kernel_rfl, by kernel_rfl⟩

/-- (*diorama/num.Rat).Denom -/
def num_Rat__Denom : AF := ⟨5, [.tmp 2],
 .seq (
  .ops [D 2 (.mv (.const (.pointer none)))]) (
 .seq (
  .ops [D 3 (.mv (T 0)),
   D 4 (.call 59 [(T 3)]),
   D 2 (.mv (T 4))]) (
 .ret))⟩
theorem num_Rat__Denom_ok : Ok Try.prog 67 num_Rat__Denom := ⟨by kernel_rfl, by kernel_rfl⟩

/-- diorama/dioramaref02.Of -/
def dioramaref02_Of : AF := ⟨14, [.tmp 2],
 .seq (
  .ops [D 2 (.mv (.const (.slice none 0 0)))]) (
 .seq (
  .ops [D 3 (.mv (.const (.slice none 0 0)))]) (
 .trim [3] (
  .block 0 (
   .loop [0, 3] (
    .seq (
     .seq (
      .ops [D 4 (.mv (T 0)),
       D 5 (.bin .gtr (T 4) (I 0))]) (
     .cond (T 5) (
      .skip) (
      .exit 0))) (
    .block 1 (
     .trim [0, 3] (
      .ops [D 6 (.mv (T 3)),
       D 7 (.mv (T 0)),
       D 8 (.bin .rem (T 7) (I 1000000000)),
       D 9 (.bslice [(.int .i64 0)] 1 [(0, 1, (T 8))]),
       D 10 (.app 1 8 (T 6) (T 9)),
       D 3 (.mv (T 10))]) (
     .ops [D 11 (.mv (T 0)),
      D 12 (.bin .quo (T 11) (I 1000000000)),
      D 0 (.mv (T 12))])))))) (
 .seq (
  .ops [D 13 (.mv (T 3)),
   D 2 (.mv (T 13))]) (
 .ret))))⟩
theorem dioramaref02_Of_ok : Ok Try.prog 70 dioramaref02_Of := ⟨by kernel_rfl, by kernel_rfl⟩

/-- diorama/dioramaref02.Times -/
def dioramaref02_Times : AF := ⟨60, [.tmp 4],
 .seq (
  .ops [D 4 (.mv (.const (.slice none 0 0)))]) (
 .trim [0, 1, 5] (
  .ops [D 10 (.mv (T 0)),
   D 11 (.len (T 10)),
   D 12 (.mv (T 1)),
   D 13 (.len (T 12)),
   D 14 (.bin .add (T 11) (T 13)),
   D 15 (.mks [(.int .i64 0)] 8 (T 14) (T 14)),
   D 5 (.mv (T 15))]) (
 .trim [5] (
  .seq (
   .ops [D 6 (.mv (I 0))]) (
  .block 0 (
   .loop [0, 1, 5, 6] (
    .seq (
     .seq (
      .ops [D 16 (.mv (T 6)),
       D 17 (.mv (T 0)),
       D 18 (.len (T 17)),
       D 19 (.bin .lss (T 16) (T 18))]) (
     .cond (T 19) (
      .skip) (
      .exit 0))) (
    .trim [0, 1, 5, 6] (
     .block 1 (
      .seq (
       .ops [D 7 (.mv (I 0))]) (
      .seq (
       .ops [D 8 (.mv (I 0))]) (
      .block 2 (
       .loop [0, 1, 5, 6, 7, 8] (
        .trim [0, 1, 5, 6, 7, 8] (
         .trim [0, 1, 5, 6, 7, 8, 29] (
          .ops [D 22 (.mv (T 8)),
           D 23 (.mv (T 1)),
           D 24 (.len (T 23)),
           D 25 (.bin .lss (T 22) (T 24)),
           D 26 (.mv (T 25)),
           ⟨(some 27), some (26, false), .mv (T 7)⟩,
           ⟨(some 28), some (26, false), .bin .gtr (T 27) (I 0)⟩,
           D 29 (.pick (T 26) (.const (.bool true)) (T 28))]) (
         .cond (T 29) (
          .skip) (
          .exit 2))) (
        .trim [0, 1, 5, 6, 7, 8] (
         .block 3 (
          .trim [0, 1, 5, 6, 8, 9] (
           .draw [⟨0, 0, 0, D 32 (.mv (T 5))⟩,
            ⟨1, 0, 0, D 33 (.mv (T 6))⟩,
            ⟨2, 0, 0, D 34 (.mv (T 8))⟩,
            ⟨3, 0, 6, D 35 (.bin .add (T 33) (T 34))⟩,
            ⟨4, 0, 15, D 36 (.ia 1 (T 32) (T 35))⟩,
            ⟨5, 1, 31, D 37 (.ld1 (T 36))⟩,
            ⟨6, 0, 0, D 38 (.mv (T 0))⟩,
            ⟨7, 0, 0, D 39 (.mv (T 6))⟩,
            ⟨8, 0, 192, D 40 (.ia 1 (T 38) (T 39))⟩,
            ⟨9, 1, 448, D 41 (.ld1 (T 40))⟩,
            ⟨10, 0, 0, D 42 (.mv (T 1))⟩,
            ⟨11, 0, 0, D 43 (.mv (T 8))⟩,
            ⟨15, 0, 0, D 47 (.mv (T 7))⟩,
            ⟨12, 4, 3072, D 44 (.call 104 [(T 42), (T 43)])⟩,
            ⟨13, 0, 8128, D 45 (.bin .mul (T 41) (T 44))⟩,
            ⟨14, 0, 16383, D 46 (.bin .add (T 37) (T 45))⟩,
            ⟨16, 0, 65535, D 48 (.bin .add (T 46) (T 47))⟩,
            ⟨17, 0, 131071, D 9 (.mv (T 48))⟩]) (
          .trim [0, 1, 5, 6, 8, 9] (
           .ops [D 49 (.mv (T 5)),
            D 50 (.mv (T 6)),
            D 51 (.mv (T 8)),
            D 52 (.bin .add (T 50) (T 51)),
            D 53 (.mv (T 9)),
            D 54 (.bin .rem (T 53) (I 1000000000)),
            D 55 (.ia 1 (T 49) (T 52)),
            E (.st 1 (T 55) (T 54))]) (
          .ops [D 56 (.mv (T 9)),
           D 57 (.bin .quo (T 56) (I 1000000000)),
           D 7 (.mv (T 57))])))) (
        .ops [D 30 (.mv (T 8)),
         D 31 (.bin .add (T 30) (I 1)),
         D 8 (.mv (T 31))])))))))) (
    .ops [D 20 (.mv (T 6)),
     D 21 (.bin .add (T 20) (I 1)),
     D 6 (.mv (T 21))])))))) (
 .seq (
  .ops [D 58 (.mv (T 5)),
   D 59 (.call 105 [(T 58)]),
   D 4 (.mv (T 59))]) (
 .ret))))⟩
theorem dioramaref02_Times_ok : Ok Try.prog 71 dioramaref02_Times := ⟨by kernel_rfl, by kernel_rfl⟩

/-- diorama/dioramaref02.size -/
def dioramaref02_size : AF := ⟨10, [.tmp 2],
 .seq (
  .ops [D 2 (.mv (.const (.slice none 0 0)))]) (
 .trim [0] (
  .seq (
   .ops [D 3 (.mv (T 0)),
    D 4 (.bin .lss (T 3) (I 0))]) (
  .cond (T 4) (
   .seq (
    .ops [D 5 (.mv (T 0)),
     D 6 (.un .neg (T 5)),
     D 7 (.call 70 [(T 6)]),
     D 2 (.mv (T 7))]) (
   .ret)) (
   .skip))) (
 .seq (
  .ops [D 8 (.mv (T 0)),
   D 9 (.call 70 [(T 8)]),
   D 2 (.mv (T 9))]) (
 .ret)))⟩
theorem dioramaref02_size_ok : Ok Try.prog 72 dioramaref02_size := ⟨by kernel_rfl, by kernel_rfl⟩

/-- diorama/dioramaref02.Over -/
def dioramaref02_Over : AF := ⟨63, [.tmp 4, .tmp 5],
 .seq (
  .ops [D 4 (.mv (.const (.slice none 0 0))),
   D 5 (.mv (.const (.slice none 0 0)))]) (
 .seq (
  .ops [D 13 (.mv (T 0)),
   D 14 (.len (T 13)),
   D 15 (.mks [(.int .i64 0)] 8 (T 14) (T 14)),
   D 6 (.mv (T 15))]) (
 .seq (
  .ops [D 7 (.mv (.const (.slice none 0 0)))]) (
 .trim [6, 7] (
  .seq (
   .ops [D 16 (.mv (T 0)),
    D 17 (.len (T 16)),
    D 18 (.bin .sub (T 17) (I 1)),
    D 8 (.mv (T 18))]) (
  .block 0 (
   .loop [0, 1, 6, 7, 8] (
    .seq (
     .seq (
      .ops [D 19 (.mv (T 8)),
       D 20 (.bin .geq (T 19) (I 0))]) (
     .cond (T 20) (
      .skip) (
      .exit 0))) (
    .trim [0, 1, 6, 7, 8] (
     .block 1 (
      .trim [0, 1, 6, 7, 8, 9] (
       .ops [D 23 (.mv (T 0)),
        D 24 (.mv (T 8)),
        D 25 (.ia 1 (T 23) (T 24)),
        D 26 (.ld1 (T 25)),
        D 27 (.bslice [(.int .i64 0)] 1 [(0, 1, (T 26))]),
        D 9 (.mv (T 27))]) (
      .seq (
       .ops [D 28 (.mv (T 9)),
        D 29 (.mv (T 7)),
        D 30 (.app 1 8 (T 28) (T 29)),
        D 31 (.call 105 [(T 30)]),
        D 7 (.mv (T 31))]) (
      .seq (
       .ops [D 10 (.mv (I 0)),
        D 11 (.mv (I 999999999))]) (
      .trim [0, 1, 6, 7, 8, 10] (
       .block 2 (
        .loop [0, 1, 6, 7, 8, 10, 11] (
         .seq (
          .seq (
           .ops [D 32 (.mv (T 10)),
            D 33 (.mv (T 11)),
            D 34 (.bin .lss (T 32) (T 33))]) (
          .cond (T 34) (
           .skip) (
           .exit 2))) (
         .block 3 (
          .trim [0, 1, 6, 7, 8, 10, 11, 12] (
           .ops [D 35 (.mv (T 10)),
            D 36 (.mv (T 11)),
            D 37 (.bin .add (T 35) (T 36)),
            D 38 (.bin .add (T 37) (I 1)),
            D 39 (.bin .quo (T 38) (I 2)),
            D 12 (.mv (T 39))]) (
          .trim [0, 1, 6, 7, 8, 10, 11, 12, 46] (
           .ops [D 40 (.mv (T 1)),
            D 41 (.mv (T 12)),
            D 42 (.call 70 [(T 41)]),
            D 43 (.call 71 [(T 40), (T 42)]),
            D 44 (.mv (T 7)),
            D 45 (.call 106 [(T 43), (T 44)]),
            D 46 (.bin .leq (T 45) (I 0))]) (
          .cond (T 46) (
           .ops [D 47 (.mv (T 12)),
            D 10 (.mv (T 47))]) (
           .ops [D 48 (.mv (T 12)),
            D 49 (.bin .sub (T 48) (I 1)),
            D 11 (.mv (T 49))])))))))) (
      .seq (
       .ops [D 50 (.mv (T 6)),
        D 51 (.mv (T 8)),
        D 52 (.mv (T 10)),
        D 53 (.ia 1 (T 50) (T 51)),
        E (.st 1 (T 53) (T 52))]) (
      .ops [D 54 (.mv (T 7)),
       D 55 (.mv (T 1)),
       D 56 (.mv (T 10)),
       D 57 (.call 70 [(T 56)]),
       D 58 (.call 71 [(T 55), (T 57)]),
       D 59 (.call 107 [(T 54), (T 58)]),
       D 7 (.mv (T 59))]))))))) (
    .ops [D 21 (.mv (T 8)),
     D 22 (.bin .sub (T 21) (I 1)),
     D 8 (.mv (T 22))])))))) (
 .seq (
  .ops [D 60 (.mv (T 6)),
   D 61 (.call 105 [(T 60)]),
   D 62 (.mv (T 7)),
   D 4 (.mv (T 61)),
   D 5 (.mv (T 62))]) (
 .ret)))))⟩
theorem dioramaref02_Over_ok : Ok Try.prog 73 dioramaref02_Over := ⟨by kernel_rfl, by kernel_rfl⟩

/-- diorama/dioramaref02.Small -/
def dioramaref02_Small : AF := ⟨28, [.tmp 4, .tmp 5],
 .seq (
  .ops [D 4 (.mv (I 0)),
   D 5 (.mv (.const (.bool false)))]) (
 .trim [0] (
  .seq (
   .ops [D 8 (.mv (T 0)),
    D 9 (.mv (T 1)),
    D 10 (.call 70 [(T 9)]),
    D 11 (.call 106 [(T 8), (T 10)]),
    D 12 (.bin .gtr (T 11) (I 0))]) (
  .cond (T 12) (
   .seq (
    .ops [D 4 (.mv (I 0)),
     D 5 (.mv (.const (.bool false)))]) (
   .ret)) (
   .skip))) (
 .seq (
  .ops [D 6 (.mv (I 0))]) (
 .trim [6] (
  .seq (
   .ops [D 13 (.mv (T 0)),
    D 14 (.len (T 13)),
    D 15 (.bin .sub (T 14) (I 1)),
    D 7 (.mv (T 15))]) (
  .block 0 (
   .loop [0, 6, 7] (
    .seq (
     .seq (
      .ops [D 16 (.mv (T 7)),
       D 17 (.bin .geq (T 16) (I 0))]) (
     .cond (T 17) (
      .skip) (
      .exit 0))) (
    .trim [0, 6, 7] (
     .block 1 (
      .ops [D 20 (.mv (T 6)),
       D 21 (.bin .mul (T 20) (I 1000000000)),
       D 22 (.mv (T 0)),
       D 23 (.mv (T 7)),
       D 24 (.ia 1 (T 22) (T 23)),
       D 25 (.ld1 (T 24)),
       D 26 (.bin .add (T 21) (T 25)),
       D 6 (.mv (T 26))])) (
    .ops [D 18 (.mv (T 7)),
     D 19 (.bin .sub (T 18) (I 1)),
     D 7 (.mv (T 19))])))))) (
 .seq (
  .ops [D 27 (.mv (T 6)),
   D 4 (.mv (T 27)),
   D 5 (.mv (.const (.bool true)))]) (
 .ret)))))⟩
theorem dioramaref02_Small_ok : Ok Try.prog 74 dioramaref02_Small := ⟨by kernel_rfl, by kernel_rfl⟩

/-- slices.Clone[[]uint32,uint32] -/
def slices_Clone___uint32_uint32_ : AF := ⟨8, [.tmp 2],
 .seq (
  .ops [D 2 (.mv (.const (.slice none 0 0)))]) (
 .seq (
  .seq (
   .ops [D 3 (.mv (T 0)),
    D 4 (.nileq false 1 (T 3) (.const (.slice none 0 0)))]) (
  .cond (T 4) (
   .seq (
    .ops [D 2 (.mv (.const (.slice none 0 0)))]) (
   .ret)) (
   .skip))) (
 .seq (
  .ops [D 5 (.bslice [] 0 []),
   D 6 (.mv (T 0)),
   D 7 (.app 1 4 (T 5) (T 6)),
   D 2 (.mv (T 7))]) (
 .ret)))⟩
theorem slices_Clone___uint32_uint32__ok : Ok Try.prog 94 slices_Clone___uint32_uint32_ := ⟨by kernel_rfl, by kernel_rfl⟩

/-- diorama/num.divMag -/
def num_divMag : AF := ⟨135, [.tmp 4, .tmp 5],
 .seq (
  .ops [D 4 (.mv (.const (.slice none 0 0))),
   D 5 (.mv (.const (.slice none 0 0)))]) (
 .trim [0, 1] (
  .seq (
   .ops [D 14 (.mv (T 0)),
    D 15 (.mv (T 1)),
    D 16 (.call 120 [(T 14), (T 15)]),
    D 17 (.bin .lss (T 16) (I 0))]) (
  .cond (T 17) (
   .seq (
    .ops [D 18 (.mv (T 0)),
     D 19 (.call 94 [(T 18)]),
     D 4 (.mv (.const (.slice none 0 0))),
     D 5 (.mv (T 19))]) (
   .ret)) (
   .skip))) (
 .trim [0, 1] (
  .seq (
   .ops [D 20 (.mv (T 1)),
    D 21 (.len (T 20)),
    D 22 (.bin .eql (T 21) (I 1))]) (
  .cond (T 22) (
   .seq (
    .ops [D 23 (.mv (T 0)),
     D 24 (.len (T 23)),
     D 25 (.mks [(.int .u32 0)] 4 (T 24) (T 24)),
     D 4 (.mv (T 25))]) (
   .seq (
    .ops [D 6 (.mv (.const (.int .u64 0)))]) (
   .trim [4, 6] (
    .seq (
     .ops [D 26 (.mv (T 0)),
      D 27 (.len (T 26)),
      D 28 (.bin .sub (T 27) (I 1)),
      D 7 (.mv (T 28))]) (
    .block 0 (
     .loop [0, 1, 4, 6, 7] (
      .seq (
       .seq (
        .ops [D 29 (.mv (T 7)),
         D 30 (.bin .geq (T 29) (I 0))]) (
       .cond (T 30) (
        .skip) (
        .exit 0))) (
      .trim [0, 1, 4, 6, 7] (
       .block 1 (
        .trim [0, 1, 4, 6, 7] (
         .ops [D 33 (.mv (T 6)),
          D 34 (.shlc (T 33) 32),
          D 35 (.mv (T 0)),
          D 36 (.mv (T 7)),
          D 37 (.ia 1 (T 35) (T 36)),
          D 38 (.ld1 (T 37)),
          D 39 (.cvi .u64 (T 38)),
          D 40 (.bin .or (T 34) (T 39)),
          D 6 (.mv (T 40))]) (
        .trim [0, 1, 4, 6, 7] (
         .ops [D 41 (.mv (T 4)),
          D 42 (.mv (T 7)),
          D 43 (.mv (T 6)),
          D 44 (.mv (T 1)),
          D 45 (.ia 1 (T 44) (I 0)),
          D 46 (.ld1 (T 45)),
          D 47 (.cvi .u64 (T 46)),
          D 48 (.bin .quo (T 43) (T 47)),
          D 49 (.cvi .u32 (T 48)),
          D 50 (.ia 1 (T 41) (T 42)),
          E (.st 1 (T 50) (T 49))]) (
        .ops [D 51 (.mv (T 6)),
         D 52 (.mv (T 1)),
         D 53 (.ia 1 (T 52) (I 0)),
         D 54 (.ld1 (T 53)),
         D 55 (.cvi .u64 (T 54)),
         D 56 (.bin .rem (T 51) (T 55)),
         D 6 (.mv (T 56))])))) (
      .ops [D 31 (.mv (T 7)),
       D 32 (.bin .sub (T 31) (I 1)),
       D 7 (.mv (T 32))])))))) (
   .seq (
    .ops [D 57 (.mv (T 4)),
     D 58 (.call 122 [(T 57)]),
     D 59 (.mv (T 6)),
     D 60 (.call 123 [(T 59)]),
     D 4 (.mv (T 58)),
     D 5 (.mv (T 60))]) (
   .ret))))) (
   .skip))) (
 .trim [0, 1, 8] (
  .ops [D 61 (.mv (T 1)),
   D 62 (.mv (T 1)),
   D 63 (.len (T 62)),
   D 64 (.bin .sub (T 63) (I 1)),
   D 65 (.ia 1 (T 61) (T 64)),
   D 66 (.ld1 (T 65)),
   D 67 (.call 124 [(T 66)]),
   D 8 (.mv (T 67))]) (
 .trim [0, 8, 9, 10] (
  .draw [⟨0, 0, 0, D 68 (.mv (T 0))⟩,
   ⟨1, 0, 0, D 69 (.mv (T 8))⟩,
   ⟨3, 0, 0, D 71 (.mv (T 1))⟩,
   ⟨4, 0, 0, D 72 (.mv (T 8))⟩,
   ⟨6, 0, 0, D 74 (.mv (T 1))⟩,
   ⟨7, 0, 64, D 75 (.len (T 74))⟩,
   ⟨2, 4, 3, D 70 (.call 125 [(T 68), (T 69)])⟩,
   ⟨5, 4, 31, D 73 (.call 125 [(T 71), (T 72)])⟩,
   ⟨8, 0, 255, D 76 (.slc 1 (T 73) none (some (T 75)) none)⟩,
   ⟨9, 0, 63, D 9 (.mv (T 70))⟩,
   ⟨10, 0, 1023, D 10 (.mv (T 76))⟩]) (
 .seq (
  .ops [D 77 (.mv (T 10)),
   D 78 (.len (T 77)),
   D 11 (.mv (T 78))]) (
 .trim [0, 4, 8, 9, 10, 11] (
  .ops [D 79 (.mv (T 0)),
   D 80 (.len (T 79)),
   D 81 (.mv (T 11)),
   D 82 (.bin .sub (T 80) (T 81)),
   D 83 (.bin .add (T 82) (I 1)),
   D 84 (.mks [(.int .u32 0)] 4 (T 83) (T 83)),
   D 4 (.mv (T 84))]) (
 .trim [4, 8, 9, 11] (
  .seq (
   .ops [D 85 (.mv (T 0)),
    D 86 (.len (T 85)),
    D 87 (.mv (T 11)),
    D 88 (.bin .sub (T 86) (T 87)),
    D 12 (.mv (T 88))]) (
  .block 2 (
   .loop [4, 8, 9, 10, 11, 12] (
    .seq (
     .seq (
      .ops [D 89 (.mv (T 12)),
       D 90 (.bin .geq (T 89) (I 0))]) (
     .cond (T 90) (
      .skip) (
      .exit 2))) (
    .trim [4, 8, 9, 10, 11, 12] (
     .block 3 (
      .ops [D 93 (.mv (T 4)),
       D 94 (.mv (T 12)),
       D 95 (.mv (T 9)),
       D 96 (.mv (T 12)),
       D 97 (.mv (T 12)),
       D 98 (.mv (T 11)),
       D 99 (.bin .add (T 97) (T 98)),
       D 100 (.bin .add (T 99) (I 1)),
       D 101 (.slc 1 (T 95) (some (T 96)) (some (T 100)) none),
       D 102 (.mv (T 10)),
       D 103 (.call 126 [(T 101), (T 102)]),
       D 104 (.ia 1 (T 93) (T 94)),
       E (.st 1 (T 104) (T 103))])) (
    .ops [D 91 (.mv (T 12)),
     D 92 (.bin .sub (T 91) (I 1)),
     D 12 (.mv (T 92))])))))) (
 .seq (
  .ops [D 105 (.mv (T 11)),
   D 106 (.mks [(.int .u32 0)] 4 (T 105) (T 105)),
   D 5 (.mv (T 106))]) (
 .trim [4, 5] (
  .seq (
   .ops [D 107 (.mv (T 11)),
    D 108 (.mv (I 0))]) (
  .block 4 (
   .loop [4, 5, 8, 9, 107, 108] (
    .seq (
     .ops [D 109 (.bin .lss (T 108) (T 107))]) (
    .seq (
     .cond (T 109) (
      .skip) (
      .exit 4)) (
    .trim [4, 5, 8, 9, 107, 108] (
     .block 5 (
      .seq (
       .ops [D 110 (.mv (T 108)),
        D 13 (.mv (T 110))]) (
      .draw [⟨0, 0, 0, D 111 (.mv (T 5))⟩,
       ⟨1, 0, 0, D 112 (.mv (T 13))⟩,
       ⟨2, 0, 0, D 113 (.mv (T 9))⟩,
       ⟨3, 0, 0, D 114 (.mv (T 13))⟩,
       ⟨4, 0, 8, D 115 (.bin .add (T 114) (I 1))⟩,
       ⟨5, 0, 28, D 116 (.ia 1 (T 113) (T 115))⟩,
       ⟨6, 1, 60, D 117 (.ld1 (T 116))⟩,
       ⟨7, 0, 124, D 118 (.cvi .u64 (T 117))⟩,
       ⟨8, 0, 252, D 119 (.shlc (T 118) 32)⟩,
       ⟨9, 0, 0, D 120 (.mv (T 9))⟩,
       ⟨10, 0, 0, D 121 (.mv (T 13))⟩,
       ⟨11, 0, 1536, D 122 (.ia 1 (T 120) (T 121))⟩,
       ⟨12, 1, 3584, D 123 (.ld1 (T 122))⟩,
       ⟨13, 0, 7680, D 124 (.cvi .u64 (T 123))⟩,
       ⟨14, 0, 16380, D 125 (.bin .or (T 119) (T 124))⟩,
       ⟨15, 0, 0, D 126 (.mv (T 8))⟩,
       ⟨16, 0, 65532, D 127 (.bin .shr (T 125) (T 126))⟩,
       ⟨17, 0, 131068, D 128 (.cvi .u32 (T 127))⟩,
       ⟨18, 0, 262143, D 129 (.ia 1 (T 111) (T 112))⟩,
       ⟨19, 4, 524287, E (.st 1 (T 129) (T 128))⟩]))) (
    .ops [D 130 (.bin .add (T 108) (I 1)),
     D 108 (.mv (T 130))]))))))) (
 .seq (
  .ops [D 131 (.mv (T 4)),
   D 132 (.call 122 [(T 131)]),
   D 133 (.mv (T 5)),
   D 134 (.call 122 [(T 133)]),
   D 4 (.mv (T 132)),
   D 5 (.mv (T 134))]) (
 .ret)))))))))))⟩
theorem num_divMag_ok : Ok Try.prog 95 num_divMag := ⟨by kernel_rfl, by kernel_rfl⟩

/-- (*diorama/num.Int).set -/
def num_Int__set : AF := ⟨21, [.tmp 6],
 .seq (
  .ops [D 6 (.mv (.const (.pointer none)))]) (
 .trim [0] (
  .ops [D 7 (.mv (T 0)),
   D 8 (.mv (T 0)),
   D 9 (.mv (T 1)),
   D 10 (.mv (T 9)),
   ⟨(some 11), some (10, true), .mv (T 2)⟩,
   ⟨(some 12), some (10, true), .len (T 11)⟩,
   ⟨(some 13), some (10, true), .bin .gtr (T 12) (I 0)⟩,
   D 14 (.pick (T 10) (T 13) (.const (.bool false))),
   D 15 (.mv (T 2)),
   D 16 (.nil (T 7)),
   D 17 (.fa 0 (T 16)),
   E (.st 1 (T 17) (T 14)),
   D 18 (.nil (T 8)),
   D 19 (.fa 1 (T 18)),
   E (.st 1 (T 19) (T 15))]) (
 .seq (
  .ops [D 20 (.mv (T 0)),
   D 6 (.mv (T 20))]) (
 .ret)))⟩
theorem num_Int__set_ok : Ok Try.prog 96 num_Int__set := ⟨by kernel_rfl, by kernel_rfl⟩

/-- (*diorama/num.Int).Mul -/
def num_Int__Mul : AF := ⟨27, [.tmp 6],
 .seq (
  .ops [D 6 (.mv (.const (.pointer none)))]) (
 .trim [6] (
  .draw [⟨0, 0, 0, D 7 (.mv (T 0))⟩,
   ⟨1, 0, 0, D 8 (.mv (T 1))⟩,
   ⟨2, 0, 2, D 9 (.nil (T 8))⟩,
   ⟨3, 0, 6, D 10 (.fa 0 (T 9))⟩,
   ⟨4, 1, 14, D 11 (.ld1 (T 10))⟩,
   ⟨5, 0, 0, D 12 (.mv (T 2))⟩,
   ⟨6, 0, 32, D 13 (.nil (T 12))⟩,
   ⟨7, 0, 96, D 14 (.fa 0 (T 13))⟩,
   ⟨8, 1, 224, D 15 (.ld1 (T 14))⟩,
   ⟨9, 0, 510, D 16 (.beq true (T 11) (T 15))⟩,
   ⟨10, 0, 0, D 17 (.mv (T 1))⟩,
   ⟨11, 0, 1024, D 18 (.nil (T 17))⟩,
   ⟨12, 0, 3072, D 19 (.fa 1 (T 18))⟩,
   ⟨13, 1, 7168, D 20 (.ld1 (T 19))⟩,
   ⟨14, 0, 0, D 21 (.mv (T 2))⟩,
   ⟨15, 0, 16384, D 22 (.nil (T 21))⟩,
   ⟨16, 0, 49152, D 23 (.fa 1 (T 22))⟩,
   ⟨17, 1, 114688, D 24 (.ld1 (T 23))⟩,
   ⟨18, 4, 261120, D 25 (.call 127 [(T 20), (T 24)])⟩,
   ⟨19, 4, 524287, D 26 (.call 96 [(T 7), (T 16), (T 25)])⟩,
   ⟨20, 0, 1048575, D 6 (.mv (T 26))⟩]) (
 .ret))⟩
theorem num_Int__Mul_ok : Ok Try.prog 97 num_Int__Mul := ⟨by kernel_rfl, by kernel_rfl⟩

/-- (*diorama/num.Int).SetInt64 -/
def num_Int__SetInt64 : AF := ⟨18, [.tmp 4],
 .seq (
  .ops [D 4 (.mv (.const (.pointer none)))]) (
 .trim [0, 1] (
  .seq (
   .ops [D 5 (.mv (T 1)),
    D 6 (.bin .lss (T 5) (I 0))]) (
  .cond (T 6) (
   .trim [4] (
    .ops [D 7 (.mv (T 0)),
     D 8 (.mv (T 1)),
     D 9 (.cvi .u64 (T 8)),
     D 10 (.un .neg (T 9)),
     D 11 (.call 123 [(T 10)]),
     D 12 (.call 96 [(T 7), (.const (.bool true)), (T 11)]),
     D 4 (.mv (T 12))]) (
   .ret)) (
   .skip))) (
 .trim [4] (
  .ops [D 13 (.mv (T 0)),
   D 14 (.mv (T 1)),
   D 15 (.cvi .u64 (T 14)),
   D 16 (.call 123 [(T 15)]),
   D 17 (.call 96 [(T 13), (.const (.bool false)), (T 16)]),
   D 4 (.mv (T 17))]) (
 .ret)))⟩
theorem num_Int__SetInt64_ok : Ok Try.prog 98 num_Int__SetInt64 := ⟨by kernel_rfl, by kernel_rfl⟩

/-- (*diorama/num.Int).QuoRem -/
def num_Int__QuoRem : AF := ⟨48, [.tmp 8, .tmp 9],
 .seq (
  .ops [D 8 (.mv (.const (.pointer none))),
   D 9 (.mv (.const (.pointer none)))]) (
 .trim [0, 1, 2, 3, 10, 11] (
  .draw [⟨0, 0, 0, D 14 (.mv (T 1))⟩,
   ⟨1, 0, 1, D 15 (.nil (T 14))⟩,
   ⟨2, 0, 3, D 16 (.fa 0 (T 15))⟩,
   ⟨3, 1, 7, D 17 (.ld1 (T 16))⟩,
   ⟨4, 0, 0, D 18 (.mv (T 2))⟩,
   ⟨5, 0, 16, D 19 (.nil (T 18))⟩,
   ⟨6, 0, 48, D 20 (.fa 0 (T 19))⟩,
   ⟨7, 1, 112, D 21 (.ld1 (T 20))⟩,
   ⟨8, 0, 255, D 22 (.beq true (T 17) (T 21))⟩,
   ⟨9, 0, 0, D 23 (.mv (T 1))⟩,
   ⟨10, 0, 512, D 24 (.nil (T 23))⟩,
   ⟨11, 0, 1536, D 25 (.fa 0 (T 24))⟩,
   ⟨12, 1, 3584, D 26 (.ld1 (T 25))⟩,
   ⟨13, 0, 511, D 10 (.mv (T 22))⟩,
   ⟨14, 0, 16383, D 11 (.mv (T 26))⟩]) (
 .trim [0, 3, 10, 11, 12, 13] (
  .draw [⟨0, 0, 0, D 28 (.mv (T 1))⟩,
   ⟨1, 0, 1, D 29 (.nil (T 28))⟩,
   ⟨2, 0, 3, D 30 (.fa 1 (T 29))⟩,
   ⟨3, 1, 7, D 31 (.ld1 (T 30))⟩,
   ⟨4, 0, 0, D 32 (.mv (T 2))⟩,
   ⟨5, 0, 16, D 33 (.nil (T 32))⟩,
   ⟨6, 0, 48, D 34 (.fa 1 (T 33))⟩,
   ⟨7, 1, 112, D 35 (.ld1 (T 34))⟩,
   ⟨8, 4, 255, D 36 (.call 95 [(T 31), (T 35)])⟩,
   ⟨9, 0, 511, D 27 (.mv (T 36))⟩,
   ⟨10, 0, 1023, D 37 (.ext (T 27) 0)⟩,
   ⟨11, 0, 1023, D 38 (.ext (T 27) 1)⟩,
   ⟨12, 0, 2047, D 12 (.mv (T 37))⟩,
   ⟨13, 0, 8191, D 13 (.mv (T 38))⟩]) (
 .seq (
  .ops [D 39 (.mv (T 3)),
   D 40 (.mv (T 11)),
   D 41 (.mv (T 13)),
   D 42 (.call 96 [(T 39), (T 40), (T 41)])]) (
 .trim [8, 9] (
  .ops [D 43 (.mv (T 0)),
   D 44 (.mv (T 10)),
   D 45 (.mv (T 12)),
   D 46 (.call 96 [(T 43), (T 44), (T 45)]),
   D 47 (.mv (T 3)),
   D 8 (.mv (T 46)),
   D 9 (.mv (T 47))]) (
 .ret)))))⟩
theorem num_Int__QuoRem_ok : Ok Try.prog 99 num_Int__QuoRem := ⟨by kernel_rfl, by kernel_rfl⟩

/-- (*diorama/num.Int).Add -/
def num_Int__Add : AF := ⟨71, [.tmp 6],
 .seq (
  .ops [D 6 (.mv (.const (.pointer none)))]) (
 .trim [0, 1, 2] (
  .trim [0, 1, 2, 15] (
   .draw [⟨0, 0, 0, D 7 (.mv (T 1))⟩,
    ⟨1, 0, 1, D 8 (.nil (T 7))⟩,
    ⟨2, 0, 3, D 9 (.fa 0 (T 8))⟩,
    ⟨3, 1, 7, D 10 (.ld1 (T 9))⟩,
    ⟨4, 0, 0, D 11 (.mv (T 2))⟩,
    ⟨5, 0, 16, D 12 (.nil (T 11))⟩,
    ⟨6, 0, 48, D 13 (.fa 0 (T 12))⟩,
    ⟨7, 1, 112, D 14 (.ld1 (T 13))⟩,
    ⟨8, 0, 255, D 15 (.beq false (T 10) (T 14))⟩]) (
  .cond (T 15) (
   .trim [6] (
    .draw [⟨0, 0, 0, D 16 (.mv (T 0))⟩,
     ⟨1, 0, 0, D 17 (.mv (T 1))⟩,
     ⟨2, 0, 2, D 18 (.nil (T 17))⟩,
     ⟨3, 0, 6, D 19 (.fa 0 (T 18))⟩,
     ⟨4, 1, 14, D 20 (.ld1 (T 19))⟩,
     ⟨5, 0, 0, D 21 (.mv (T 1))⟩,
     ⟨6, 0, 32, D 22 (.nil (T 21))⟩,
     ⟨7, 0, 96, D 23 (.fa 1 (T 22))⟩,
     ⟨8, 1, 224, D 24 (.ld1 (T 23))⟩,
     ⟨9, 0, 0, D 25 (.mv (T 2))⟩,
     ⟨10, 0, 512, D 26 (.nil (T 25))⟩,
     ⟨11, 0, 1536, D 27 (.fa 1 (T 26))⟩,
     ⟨12, 1, 3584, D 28 (.ld1 (T 27))⟩,
     ⟨13, 4, 8160, D 29 (.call 128 [(T 24), (T 28)])⟩,
     ⟨14, 4, 16383, D 30 (.call 96 [(T 16), (T 20), (T 29)])⟩,
     ⟨15, 0, 32767, D 6 (.mv (T 30))⟩]) (
   .ret)) (
   .skip))) (
 .trim [0, 1, 2] (
  .trim [0, 1, 2, 40] (
   .draw [⟨0, 0, 0, D 31 (.mv (T 1))⟩,
    ⟨1, 0, 1, D 32 (.nil (T 31))⟩,
    ⟨2, 0, 3, D 33 (.fa 1 (T 32))⟩,
    ⟨3, 1, 7, D 34 (.ld1 (T 33))⟩,
    ⟨4, 0, 0, D 35 (.mv (T 2))⟩,
    ⟨5, 0, 16, D 36 (.nil (T 35))⟩,
    ⟨6, 0, 48, D 37 (.fa 1 (T 36))⟩,
    ⟨7, 1, 112, D 38 (.ld1 (T 37))⟩,
    ⟨8, 4, 255, D 39 (.call 120 [(T 34), (T 38)])⟩,
    ⟨9, 0, 511, D 40 (.bin .geq (T 39) (I 0))⟩]) (
  .cond (T 40) (
   .trim [6] (
    .draw [⟨0, 0, 0, D 41 (.mv (T 0))⟩,
     ⟨1, 0, 0, D 42 (.mv (T 1))⟩,
     ⟨2, 0, 2, D 43 (.nil (T 42))⟩,
     ⟨3, 0, 6, D 44 (.fa 0 (T 43))⟩,
     ⟨4, 1, 14, D 45 (.ld1 (T 44))⟩,
     ⟨5, 0, 0, D 46 (.mv (T 1))⟩,
     ⟨6, 0, 32, D 47 (.nil (T 46))⟩,
     ⟨7, 0, 96, D 48 (.fa 1 (T 47))⟩,
     ⟨8, 1, 224, D 49 (.ld1 (T 48))⟩,
     ⟨9, 0, 0, D 50 (.mv (T 2))⟩,
     ⟨10, 0, 512, D 51 (.nil (T 50))⟩,
     ⟨11, 0, 1536, D 52 (.fa 1 (T 51))⟩,
     ⟨12, 1, 3584, D 53 (.ld1 (T 52))⟩,
     ⟨13, 4, 8160, D 54 (.call 129 [(T 49), (T 53)])⟩,
     ⟨14, 4, 16383, D 55 (.call 96 [(T 41), (T 45), (T 54)])⟩,
     ⟨15, 0, 32767, D 6 (.mv (T 55))⟩]) (
   .ret)) (
   .skip))) (
 .trim [6] (
  .draw [⟨0, 0, 0, D 56 (.mv (T 0))⟩,
   ⟨1, 0, 0, D 57 (.mv (T 2))⟩,
   ⟨2, 0, 2, D 58 (.nil (T 57))⟩,
   ⟨3, 0, 6, D 59 (.fa 0 (T 58))⟩,
   ⟨4, 1, 14, D 60 (.ld1 (T 59))⟩,
   ⟨5, 0, 0, D 61 (.mv (T 2))⟩,
   ⟨6, 0, 32, D 62 (.nil (T 61))⟩,
   ⟨7, 0, 96, D 63 (.fa 1 (T 62))⟩,
   ⟨8, 1, 224, D 64 (.ld1 (T 63))⟩,
   ⟨9, 0, 0, D 65 (.mv (T 1))⟩,
   ⟨10, 0, 512, D 66 (.nil (T 65))⟩,
   ⟨11, 0, 1536, D 67 (.fa 1 (T 66))⟩,
   ⟨12, 1, 3584, D 68 (.ld1 (T 67))⟩,
   ⟨13, 4, 8160, D 69 (.call 129 [(T 64), (T 68)])⟩,
   ⟨14, 4, 16383, D 70 (.call 96 [(T 56), (T 60), (T 69)])⟩,
   ⟨15, 0, 32767, D 6 (.mv (T 70))⟩]) (
 .ret))))⟩
theorem num_Int__Add_ok : Ok Try.prog 100 num_Int__Add := ⟨by kernel_rfl, by kernel_rfl⟩

/-- (*diorama/num.Int).Set -/
def num_Int__Set : AF := ⟨16, [.tmp 4],
 .seq (
  .ops [D 4 (.mv (.const (.pointer none)))]) (
 .trim [4] (
  .draw [⟨0, 0, 0, D 5 (.mv (T 0))⟩,
   ⟨1, 0, 0, D 6 (.mv (T 1))⟩,
   ⟨2, 0, 2, D 7 (.nil (T 6))⟩,
   ⟨3, 0, 6, D 8 (.fa 0 (T 7))⟩,
   ⟨4, 1, 14, D 9 (.ld1 (T 8))⟩,
   ⟨5, 0, 0, D 10 (.mv (T 1))⟩,
   ⟨6, 0, 32, D 11 (.nil (T 10))⟩,
   ⟨7, 0, 96, D 12 (.fa 1 (T 11))⟩,
   ⟨8, 1, 224, D 13 (.ld1 (T 12))⟩,
   ⟨9, 4, 480, D 14 (.call 94 [(T 13)])⟩,
   ⟨10, 4, 1023, D 15 (.call 96 [(T 5), (T 9), (T 14)])⟩,
   ⟨11, 0, 2047, D 4 (.mv (T 15))⟩]) (
 .ret))⟩
theorem num_Int__Set_ok : Ok Try.prog 101 num_Int__Set := ⟨by kernel_rfl, by kernel_rfl⟩

/-- (*diorama/num.Int).low -/
def num_Int__low : AF := ⟨28, [.tmp 2],
 .seq (
  .ops [D 2 (.mv (.const (.int .u64 0)))]) (
 .seq (
  .ops [D 3 (.mv (.const (.int .u64 0)))]) (
 .trim [3] (
  .trim [0, 3, 4] (
   .ops [D 5 (.mv (T 0)),
    D 6 (.nil (T 5)),
    D 7 (.fa 1 (T 6)),
    D 8 (.ld1 (T 7)),
    D 9 (.len (T 8)),
    D 10 (.mn [(I 2), (T 9)]),
    D 11 (.bin .sub (T 10) (I 1)),
    D 4 (.mv (T 11))]) (
  .block 0 (
   .loop [0, 3, 4] (
    .seq (
     .seq (
      .ops [D 12 (.mv (T 4)),
       D 13 (.bin .geq (T 12) (I 0))]) (
     .cond (T 13) (
      .skip) (
      .exit 0))) (
    .trim [0, 3, 4] (
     .block 1 (
      .ops [D 16 (.mv (T 3)),
       D 17 (.shlc (T 16) 32),
       D 18 (.mv (T 0)),
       D 19 (.nil (T 18)),
       D 20 (.fa 1 (T 19)),
       D 21 (.ld1 (T 20)),
       D 22 (.mv (T 4)),
       D 23 (.ia 1 (T 21) (T 22)),
       D 24 (.ld1 (T 23)),
       D 25 (.cvi .u64 (T 24)),
       D 26 (.bin .or (T 17) (T 25)),
       D 3 (.mv (T 26))])) (
    .ops [D 14 (.mv (T 4)),
     D 15 (.bin .sub (T 14) (I 1)),
     D 4 (.mv (T 15))])))))) (
 .seq (
  .ops [D 27 (.mv (T 3)),
   D 2 (.mv (T 27))]) (
 .ret))))⟩
theorem num_Int__low_ok : Ok Try.prog 102 num_Int__low := ⟨by kernel_rfl, by kernel_rfl⟩

/-- (*diorama/num.Int).Sub -/
def num_Int__Sub : AF := ⟨21, [.tmp 6],
 .seq (
  .ops [D 6 (.mv (.const (.pointer none)))]) (
 .trim [6] (
  .draw [⟨0, 0, 0, D 7 (.mv (T 0))⟩,
   ⟨1, 0, 0, D 8 (.mv (T 1))⟩,
   ⟨2, 0, 0, D 9 (.mv (T 2))⟩,
   ⟨3, 0, 4, D 10 (.nil (T 9))⟩,
   ⟨4, 0, 12, D 11 (.fa 0 (T 10))⟩,
   ⟨5, 1, 28, D 12 (.ld1 (T 11))⟩,
   ⟨6, 0, 60, D 13 (.un .not (T 12))⟩,
   ⟨7, 0, 0, D 14 (.mv (T 2))⟩,
   ⟨8, 0, 128, D 15 (.nil (T 14))⟩,
   ⟨9, 0, 384, D 16 (.fa 1 (T 15))⟩,
   ⟨10, 1, 896, D 17 (.ld1 (T 16))⟩,
   ⟨11, 0, 2044, D 18 (.build [(.bool false), (.slice none 0 0)] [(0, 1, (T 13)), (1, 1, (T 17))])⟩,
   ⟨12, 2, 4092, D 19 (.box (T 18))⟩,
   ⟨13, 4, 8191, D 20 (.call 100 [(T 7), (T 8), (T 19)])⟩,
   ⟨14, 0, 16383, D 6 (.mv (T 20))⟩]) (
 .ret))⟩
theorem num_Int__Sub_ok : Ok Try.prog 103 num_Int__Sub := ⟨by kernel_rfl, by kernel_rfl⟩

/-- diorama/dioramaref02.digit -/
def dioramaref02_digit : AF := ⟨13, [.tmp 4],
 .seq (
  .ops [D 4 (.mv (I 0))]) (
 .trim [] (
  .seq (
   .ops [D 5 (.mv (T 1)),
    D 6 (.mv (T 0)),
    D 7 (.len (T 6)),
    D 8 (.bin .lss (T 5) (T 7))]) (
  .cond (T 8) (
   .seq (
    .ops [D 9 (.mv (T 0)),
     D 10 (.mv (T 1)),
     D 11 (.ia 1 (T 9) (T 10)),
     D 12 (.ld1 (T 11)),
     D 4 (.mv (T 12))]) (
   .ret)) (
   .skip))) (
 .seq (
  .ops [D 4 (.mv (I 0))]) (
 .ret)))⟩
theorem dioramaref02_digit_ok : Ok Try.prog 104 dioramaref02_digit := ⟨by kernel_rfl, by kernel_rfl⟩

/-- diorama/dioramaref02.trimmed -/
def dioramaref02_trimmed : AF := ⟨21, [.tmp 2],
 .seq (
  .ops [D 2 (.mv (.const (.slice none 0 0)))]) (
 .seq (
  .ops [D 4 (.mv (T 0)),
   D 5 (.len (T 4)),
   D 3 (.mv (T 5))]) (
 .trim [0, 3] (
  .block 0 (
   .loop [0, 3] (
    .trim [0, 3] (
     .trim [0, 3, 15] (
      .ops [D 6 (.mv (T 3)),
       D 7 (.bin .gtr (T 6) (I 0)),
       D 8 (.mv (T 7)),
       ⟨(some 9), some (8, true), .mv (T 0)⟩,
       ⟨(some 10), some (8, true), .mv (T 3)⟩,
       ⟨(some 11), some (8, true), .bin .sub (T 10) (I 1)⟩,
       ⟨(some 12), some (8, true), .ia 1 (T 9) (T 11)⟩,
       ⟨(some 13), some (8, true), .ld1 (T 12)⟩,
       ⟨(some 14), some (8, true), .bin .eql (T 13) (I 0)⟩,
       D 15 (.pick (T 8) (T 14) (.const (.bool false)))]) (
     .cond (T 15) (
      .skip) (
      .exit 0))) (
    .block 1 (
     .ops [D 16 (.mv (T 3)),
      D 17 (.bin .sub (T 16) (I 1)),
      D 3 (.mv (T 17))]))))) (
 .seq (
  .ops [D 18 (.mv (T 0)),
   D 19 (.mv (T 3)),
   D 20 (.slc 1 (T 18) none (some (T 19)) none),
   D 2 (.mv (T 20))]) (
 .ret))))⟩
theorem dioramaref02_trimmed_ok : Ok Try.prog 105 dioramaref02_trimmed := ⟨by kernel_rfl, by kernel_rfl⟩

/-- diorama/dioramaref02.Compare -/
def dioramaref02_Compare : AF := ⟨41, [.tmp 4],
 .seq (
  .ops [D 4 (.mv (I 0))]) (
 .trim [0, 1] (
  .seq (
   .ops [D 6 (.mv (T 0)),
    D 7 (.len (T 6)),
    D 8 (.mv (T 1)),
    D 9 (.len (T 8)),
    D 10 (.bin .neq (T 7) (T 9))]) (
  .cond (T 10) (
   .trim [] (
    .seq (
     .ops [D 11 (.mv (T 0)),
      D 12 (.len (T 11)),
      D 13 (.mv (T 1)),
      D 14 (.len (T 13)),
      D 15 (.bin .lss (T 12) (T 14))]) (
    .cond (T 15) (
     .seq (
      .ops [D 4 (.mv (I (-1)))]) (
     .ret)) (
     .skip))) (
   .seq (
    .ops [D 4 (.mv (I 1))]) (
   .ret))) (
   .skip))) (
 .trim [] (
  .seq (
   .ops [D 16 (.mv (T 0)),
    D 17 (.len (T 16)),
    D 18 (.bin .sub (T 17) (I 1)),
    D 5 (.mv (T 18))]) (
  .block 0 (
   .loop [0, 1, 5] (
    .seq (
     .seq (
      .ops [D 19 (.mv (T 5)),
       D 20 (.bin .geq (T 19) (I 0))]) (
     .cond (T 20) (
      .skip) (
      .exit 0))) (
    .trim [0, 1, 5] (
     .block 1 (
      .trim [0, 1, 5] (
       .trim [0, 1, 5, 31] (
        .draw [⟨0, 0, 0, D 23 (.mv (T 0))⟩,
         ⟨1, 0, 0, D 24 (.mv (T 5))⟩,
         ⟨2, 0, 3, D 25 (.ia 1 (T 23) (T 24))⟩,
         ⟨3, 1, 7, D 26 (.ld1 (T 25))⟩,
         ⟨4, 0, 0, D 27 (.mv (T 1))⟩,
         ⟨5, 0, 0, D 28 (.mv (T 5))⟩,
         ⟨6, 0, 48, D 29 (.ia 1 (T 27) (T 28))⟩,
         ⟨7, 1, 112, D 30 (.ld1 (T 29))⟩,
         ⟨8, 0, 255, D 31 (.bin .lss (T 26) (T 30))⟩]) (
       .cond (T 31) (
        .seq (
         .ops [D 4 (.mv (I (-1)))]) (
        .ret)) (
        .skip))) (
      .trim [0, 1, 5, 40] (
       .draw [⟨0, 0, 0, D 32 (.mv (T 0))⟩,
        ⟨1, 0, 0, D 33 (.mv (T 5))⟩,
        ⟨2, 0, 3, D 34 (.ia 1 (T 32) (T 33))⟩,
        ⟨3, 1, 7, D 35 (.ld1 (T 34))⟩,
        ⟨4, 0, 0, D 36 (.mv (T 1))⟩,
        ⟨5, 0, 0, D 37 (.mv (T 5))⟩,
        ⟨6, 0, 48, D 38 (.ia 1 (T 36) (T 37))⟩,
        ⟨7, 1, 112, D 39 (.ld1 (T 38))⟩,
        ⟨8, 0, 255, D 40 (.bin .gtr (T 35) (T 39))⟩]) (
      .cond (T 40) (
       .seq (
        .ops [D 4 (.mv (I 1))]) (
       .ret)) (
       .skip))))) (
    .ops [D 21 (.mv (T 5)),
     D 22 (.bin .sub (T 21) (I 1)),
     D 5 (.mv (T 22))])))))) (
 .seq (
  .ops [D 4 (.mv (I 0))]) (
 .ret))))⟩
theorem dioramaref02_Compare_ok : Ok Try.prog 106 dioramaref02_Compare := ⟨by kernel_rfl, by kernel_rfl⟩

/-- diorama/dioramaref02.Minus -/
def dioramaref02_Minus : AF := ⟨34, [.tmp 4],
 .seq (
  .ops [D 4 (.mv (.const (.slice none 0 0)))]) (
 .seq (
  .ops [D 5 (.mv (.const (.slice none 0 0)))]) (
 .seq (
  .ops [D 6 (.mv (I 0))]) (
 .trim [5] (
  .seq (
   .ops [D 7 (.mv (I 0))]) (
  .block 0 (
   .loop [0, 1, 5, 6, 7] (
    .seq (
     .seq (
      .ops [D 9 (.mv (T 7)),
       D 10 (.mv (T 0)),
       D 11 (.len (T 10)),
       D 12 (.bin .lss (T 9) (T 11))]) (
     .cond (T 12) (
      .skip) (
      .exit 0))) (
    .trim [0, 1, 5, 6, 7] (
     .block 1 (
      .trim [0, 1, 5, 7, 8] (
       .ops [D 15 (.mv (T 0)),
        D 16 (.mv (T 7)),
        D 17 (.call 104 [(T 15), (T 16)]),
        D 18 (.mv (T 1)),
        D 19 (.mv (T 7)),
        D 20 (.call 104 [(T 18), (T 19)]),
        D 21 (.bin .sub (T 17) (T 20)),
        D 22 (.mv (T 6)),
        D 23 (.bin .sub (T 21) (T 22)),
        D 8 (.mv (T 23))]) (
      .seq (
       .ops [D 6 (.mv (I 0))]) (
      .seq (
       .seq (
        .ops [D 24 (.mv (T 8)),
         D 25 (.bin .lss (T 24) (I 0))]) (
       .cond (T 25) (
        .seq (
         .ops [D 26 (.mv (T 8)),
          D 27 (.bin .add (T 26) (I 1000000000)),
          D 8 (.mv (T 27))]) (
        .ops [D 6 (.mv (I 1))])) (
        .skip))) (
      .ops [D 28 (.mv (T 5)),
       D 29 (.mv (T 8)),
       D 30 (.bslice [(.int .i64 0)] 1 [(0, 1, (T 29))]),
       D 31 (.app 1 8 (T 28) (T 30)),
       D 5 (.mv (T 31))]))))) (
    .ops [D 13 (.mv (T 7)),
     D 14 (.bin .add (T 13) (I 1)),
     D 7 (.mv (T 14))])))))) (
 .seq (
  .ops [D 32 (.mv (T 5)),
   D 33 (.call 105 [(T 32)]),
   D 4 (.mv (T 33))]) (
 .ret)))))⟩
theorem dioramaref02_Minus_ok : Ok Try.prog 107 dioramaref02_Minus := ⟨by kernel_rfl, by kernel_rfl⟩

/-- diorama/num.cmpMag -/
def num_cmpMag : AF := ⟨41, [.tmp 4],
 .seq (
  .ops [D 4 (.mv (I 0))]) (
 .trim [0, 1] (
  .seq (
   .ops [D 6 (.mv (T 0)),
    D 7 (.len (T 6)),
    D 8 (.mv (T 1)),
    D 9 (.len (T 8)),
    D 10 (.bin .neq (T 7) (T 9))]) (
  .cond (T 10) (
   .trim [4] (
    .ops [D 11 (.mv (T 0)),
     D 12 (.len (T 11)),
     D 13 (.mv (T 1)),
     D 14 (.len (T 13)),
     D 15 (.bin .sub (T 12) (T 14)),
     D 4 (.mv (T 15))]) (
   .ret)) (
   .skip))) (
 .trim [] (
  .seq (
   .ops [D 16 (.mv (T 0)),
    D 17 (.len (T 16)),
    D 18 (.bin .sub (T 17) (I 1)),
    D 5 (.mv (T 18))]) (
  .block 0 (
   .loop [0, 1, 5] (
    .seq (
     .seq (
      .ops [D 19 (.mv (T 5)),
       D 20 (.bin .geq (T 19) (I 0))]) (
     .cond (T 20) (
      .skip) (
      .exit 0))) (
    .trim [0, 1, 5] (
     .block 1 (
      .trim [0, 1, 5, 31] (
       .draw [⟨0, 0, 0, D 23 (.mv (T 0))⟩,
        ⟨1, 0, 0, D 24 (.mv (T 5))⟩,
        ⟨2, 0, 3, D 25 (.ia 1 (T 23) (T 24))⟩,
        ⟨3, 1, 7, D 26 (.ld1 (T 25))⟩,
        ⟨4, 0, 0, D 27 (.mv (T 1))⟩,
        ⟨5, 0, 0, D 28 (.mv (T 5))⟩,
        ⟨6, 0, 48, D 29 (.ia 1 (T 27) (T 28))⟩,
        ⟨7, 1, 112, D 30 (.ld1 (T 29))⟩,
        ⟨8, 0, 255, D 31 (.bin .neq (T 26) (T 30))⟩]) (
      .cond (T 31) (
       .trim [] (
        .trim [40] (
         .draw [⟨0, 0, 0, D 32 (.mv (T 0))⟩,
          ⟨1, 0, 0, D 33 (.mv (T 5))⟩,
          ⟨2, 0, 3, D 34 (.ia 1 (T 32) (T 33))⟩,
          ⟨3, 1, 7, D 35 (.ld1 (T 34))⟩,
          ⟨4, 0, 0, D 36 (.mv (T 1))⟩,
          ⟨5, 0, 0, D 37 (.mv (T 5))⟩,
          ⟨6, 0, 48, D 38 (.ia 1 (T 36) (T 37))⟩,
          ⟨7, 1, 112, D 39 (.ld1 (T 38))⟩,
          ⟨8, 0, 255, D 40 (.bin .lss (T 35) (T 39))⟩]) (
        .cond (T 40) (
         .seq (
          .ops [D 4 (.mv (I (-1)))]) (
         .ret)) (
         .skip))) (
       .seq (
        .ops [D 4 (.mv (I 1))]) (
       .ret))) (
       .skip)))) (
    .ops [D 21 (.mv (T 5)),
     D 22 (.bin .sub (T 21) (I 1)),
     D 5 (.mv (T 22))])))))) (
 .seq (
  .ops [D 4 (.mv (I 0))]) (
 .ret))))⟩
theorem num_cmpMag_ok : Ok Try.prog 120 num_cmpMag := ⟨by kernel_rfl, by kernel_rfl⟩

/-- diorama/num.trim -/
def num_trim : AF := ⟨21, [.tmp 2],
 .seq (
  .ops [D 2 (.mv (.const (.slice none 0 0)))]) (
 .trim [0] (
  .block 0 (
   .loop [0] (
    .trim [0] (
     .trim [0, 14] (
      .ops [D 3 (.mv (T 0)),
       D 4 (.len (T 3)),
       D 5 (.bin .gtr (T 4) (I 0)),
       D 6 (.mv (T 5)),
       ⟨(some 7), some (6, true), .mv (T 0)⟩,
       ⟨(some 8), some (6, true), .mv (T 0)⟩,
       ⟨(some 9), some (6, true), .len (T 8)⟩,
       ⟨(some 10), some (6, true), .bin .sub (T 9) (I 1)⟩,
       ⟨(some 11), some (6, true), .ia 1 (T 7) (T 10)⟩,
       ⟨(some 12), some (6, true), .ld1 (T 11)⟩,
       ⟨(some 13), some (6, true), .bin .eql (T 12) (.const (.int .u32 0))⟩,
       D 14 (.pick (T 6) (T 13) (.const (.bool false)))]) (
     .cond (T 14) (
      .skip) (
      .exit 0))) (
    .block 1 (
     .ops [D 15 (.mv (T 0)),
      D 16 (.mv (T 0)),
      D 17 (.len (T 16)),
      D 18 (.bin .sub (T 17) (I 1)),
      D 19 (.slc 1 (T 15) none (some (T 18)) none),
      D 0 (.mv (T 19))]))))) (
 .seq (
  .ops [D 20 (.mv (T 0)),
   D 2 (.mv (T 20))]) (
 .ret)))⟩
theorem num_trim_ok : Ok Try.prog 122 num_trim := ⟨by kernel_rfl, by kernel_rfl⟩

/-- diorama/num.magOf -/
def num_magOf : AF := ⟨10, [.tmp 2],
 .seq (
  .ops [D 2 (.mv (.const (.slice none 0 0)))]) (
 .trim [2] (
  .ops [D 3 (.mv (T 0)),
   D 4 (.cvi .u32 (T 3)),
   D 5 (.mv (T 0)),
   D 6 (.shrc (T 5) 32),
   D 7 (.cvi .u32 (T 6)),
   D 8 (.bslice [(.int .u32 0), (.int .u32 0)] 2 [(0, 1, (T 4)), (1, 1, (T 7))]),
   D 9 (.call 122 [(T 8)]),
   D 2 (.mv (T 9))]) (
 .ret))⟩
theorem num_magOf_ok : Ok Try.prog 123 num_magOf := ⟨by kernel_rfl, by kernel_rfl⟩

/-- math/bits.LeadingZeros32 -/
def bits_LeadingZeros32 : AF := ⟨6, [.tmp 2],
 .seq (
  .ops [D 2 (.mv (I 0))]) (
 .seq (
  .ops [D 3 (.mv (T 0)),
   D 4 (.call 135 [(T 3)]),
   D 5 (.bin .sub (I 32) (T 4)),
   D 2 (.mv (T 5))]) (
 .ret))⟩
theorem bits_LeadingZeros32_ok : Ok Try.prog 124 bits_LeadingZeros32 := ⟨by kernel_rfl, by kernel_rfl⟩

/-- diorama/num.shift -/
def num_shift : AF := ⟨41, [.tmp 4],
 .seq (
  .ops [D 4 (.mv (.const (.slice none 0 0)))]) (
 .seq (
  .ops [D 9 (.mv (T 0)),
   D 10 (.len (T 9)),
   D 11 (.bin .add (T 10) (I 1)),
   D 12 (.mks [(.int .u32 0)] 4 (T 11) (T 11)),
   D 5 (.mv (T 12))]) (
 .seq (
  .ops [D 6 (.mv (.const (.int .u64 0)))]) (
 .trim [0, 5, 6] (
  .seq (
   .ops [D 13 (.mv (T 0)),
    D 14 (.len (T 13)),
    D 15 (.mv (I 0))]) (
  .block 0 (
   .loop [0, 1, 5, 6, 13, 14, 15] (
    .seq (
     .ops [D 16 (.bin .lss (T 15) (T 14))]) (
    .seq (
     .cond (T 16) (
      .skip) (
      .exit 0)) (
    .trim [0, 1, 5, 6, 13, 14, 15] (
     .block 1 (
      .seq (
       .ops [D 17 (.mv (T 15)),
        D 18 (.ia 1 (T 13) (T 15)),
        D 19 (.ld1 (T 18)),
        D 7 (.mv (T 17)),
        D 8 (.mv (T 19))]) (
      .trim [0, 1, 5, 6, 7, 13, 14, 15] (
       .ops [D 20 (.mv (T 6)),
        D 21 (.mv (T 8)),
        D 22 (.cvi .u64 (T 21)),
        D 23 (.mv (T 1)),
        D 24 (.bin .shl (T 22) (T 23)),
        D 25 (.bin .or (T 20) (T 24)),
        D 6 (.mv (T 25))]) (
      .trim [0, 1, 5, 6, 13, 14, 15] (
       .ops [D 26 (.mv (T 5)),
        D 27 (.mv (T 7)),
        D 28 (.mv (T 6)),
        D 29 (.cvi .u32 (T 28)),
        D 30 (.ia 1 (T 26) (T 27)),
        E (.st 1 (T 30) (T 29))]) (
      .ops [D 31 (.mv (T 6)),
       D 32 (.shrc (T 31) 32),
       D 6 (.mv (T 32))]))))) (
    .ops [D 33 (.bin .add (T 15) (I 1)),
     D 15 (.mv (T 33))]))))))) (
 .trim [5] (
  .ops [D 34 (.mv (T 5)),
   D 35 (.mv (T 0)),
   D 36 (.len (T 35)),
   D 37 (.mv (T 6)),
   D 38 (.cvi .u32 (T 37)),
   D 39 (.ia 1 (T 34) (T 36)),
   E (.st 1 (T 39) (T 38))]) (
 .seq (
  .ops [D 40 (.mv (T 5)),
   D 4 (.mv (T 40))]) (
 .ret))))))⟩
theorem num_shift_ok : Ok Try.prog 125 num_shift := ⟨by kernel_rfl, by kernel_rfl⟩

/-- diorama/num.digit -/
def num_digit : AF := ⟨174, [.tmp 4],
 .seq (
  .ops [D 4 (.mv (.const (.int .u32 0)))]) (
 .seq (
  .ops [D 18 (.mv (T 1)),
   D 19 (.len (T 18)),
   D 5 (.mv (T 19))]) (
 .trim [0, 1, 5, 6] (
  .draw [⟨0, 0, 0, D 20 (.mv (T 0))⟩,
   ⟨1, 0, 0, D 21 (.mv (T 5))⟩,
   ⟨2, 0, 3, D 22 (.ia 1 (T 20) (T 21))⟩,
   ⟨3, 1, 7, D 23 (.ld1 (T 22))⟩,
   ⟨4, 0, 15, D 24 (.cvi .u64 (T 23))⟩,
   ⟨5, 0, 31, D 25 (.shlc (T 24) 32)⟩,
   ⟨6, 0, 0, D 26 (.mv (T 0))⟩,
   ⟨7, 0, 0, D 27 (.mv (T 5))⟩,
   ⟨8, 0, 128, D 28 (.bin .sub (T 27) (I 1))⟩,
   ⟨9, 0, 448, D 29 (.ia 1 (T 26) (T 28))⟩,
   ⟨10, 1, 960, D 30 (.ld1 (T 29))⟩,
   ⟨11, 0, 1984, D 31 (.cvi .u64 (T 30))⟩,
   ⟨12, 0, 4095, D 32 (.bin .or (T 25) (T 31))⟩,
   ⟨13, 0, 8191, D 6 (.mv (T 32))⟩]) (
 .trim [0, 1, 5, 7, 8] (
  .draw [⟨0, 0, 0, D 33 (.mv (T 6))⟩,
   ⟨1, 0, 0, D 34 (.mv (T 1))⟩,
   ⟨2, 0, 0, D 35 (.mv (T 5))⟩,
   ⟨3, 0, 4, D 36 (.bin .sub (T 35) (I 1))⟩,
   ⟨4, 0, 14, D 37 (.ia 1 (T 34) (T 36))⟩,
   ⟨5, 1, 30, D 38 (.ld1 (T 37))⟩,
   ⟨6, 0, 62, D 39 (.cvi .u64 (T 38))⟩,
   ⟨7, 0, 127, D 40 (.bin .quo (T 33) (T 39))⟩,
   ⟨8, 0, 0, D 41 (.mv (T 6))⟩,
   ⟨9, 0, 0, D 42 (.mv (T 1))⟩,
   ⟨10, 0, 0, D 43 (.mv (T 5))⟩,
   ⟨11, 0, 1024, D 44 (.bin .sub (T 43) (I 1))⟩,
   ⟨12, 0, 3584, D 45 (.ia 1 (T 42) (T 44))⟩,
   ⟨13, 1, 7680, D 46 (.ld1 (T 45))⟩,
   ⟨14, 0, 15872, D 47 (.cvi .u64 (T 46))⟩,
   ⟨15, 0, 32512, D 48 (.bin .rem (T 41) (T 47))⟩,
   ⟨16, 0, 255, D 7 (.mv (T 40))⟩,
   ⟨17, 0, 131071, D 8 (.mv (T 48))⟩]) (
 .trim [0, 1, 5, 7] (
  .block 0 (
   .loop [0, 1, 5, 7, 8] (
    .trim [0, 1, 5, 7, 8] (
     .trim [0, 1, 5, 7, 8, 71] (
      .draw [⟨0, 0, 0, D 49 (.mv (T 7))⟩,
       ⟨1, 0, 1, D 50 (.shrc (T 49) 32)⟩,
       ⟨2, 0, 3, D 51 (.bin .gtr (T 50) (.const (.int .u64 0)))⟩,
       ⟨3, 0, 7, D 52 (.mv (T 51))⟩,
       ⟨4, 0, 15, ⟨(some 53), some (52, false), .mv (T 7)⟩⟩,
       ⟨5, 0, 15, ⟨(some 54), some (52, false), .mv (T 1)⟩⟩,
       ⟨6, 0, 15, ⟨(some 55), some (52, false), .mv (T 5)⟩⟩,
       ⟨7, 0, 79, ⟨(some 56), some (52, false), .bin .sub (T 55) (I 2)⟩⟩,
       ⟨8, 0, 239, ⟨(some 57), some (52, false), .ia 1 (T 54) (T 56)⟩⟩,
       ⟨9, 1, 495, ⟨(some 58), some (52, false), .ld1 (T 57)⟩⟩,
       ⟨10, 0, 1007, ⟨(some 59), some (52, false), .cvi .u64 (T 58)⟩⟩,
       ⟨11, 0, 2047, ⟨(some 60), some (52, false), .bin .mul (T 53) (T 59)⟩⟩,
       ⟨12, 0, 15, ⟨(some 61), some (52, false), .mv (T 8)⟩⟩,
       ⟨13, 0, 4111, ⟨(some 62), some (52, false), .shlc (T 61) 32⟩⟩,
       ⟨14, 0, 15, ⟨(some 63), some (52, false), .mv (T 0)⟩⟩,
       ⟨15, 0, 15, ⟨(some 64), some (52, false), .mv (T 5)⟩⟩,
       ⟨16, 0, 32783, ⟨(some 65), some (52, false), .bin .sub (T 64) (I 2)⟩⟩,
       ⟨17, 0, 114703, ⟨(some 66), some (52, false), .ia 1 (T 63) (T 65)⟩⟩,
       ⟨18, 1, 245775, ⟨(some 67), some (52, false), .ld1 (T 66)⟩⟩,
       ⟨19, 0, 507919, ⟨(some 68), some (52, false), .cvi .u64 (T 67)⟩⟩,
       ⟨20, 0, 1044495, ⟨(some 69), some (52, false), .bin .or (T 62) (T 68)⟩⟩,
       ⟨21, 0, 2097151, ⟨(some 70), some (52, false), .bin .gtr (T 60) (T 69)⟩⟩,
       ⟨22, 0, 4194303, D 71 (.pick (T 52) (.const (.bool true)) (T 70))⟩]) (
     .cond (T 71) (
      .skip) (
      .exit 0))) (
    .block 1 (
     .seq (
      .ops [D 72 (.mv (T 7)),
       D 73 (.bin .sub (T 72) (.const (.int .u64 1))),
       D 7 (.mv (T 73))]) (
     .trim [0, 1, 5, 7, 8] (
      .ops [D 74 (.mv (T 8)),
       D 75 (.mv (T 1)),
       D 76 (.mv (T 5)),
       D 77 (.bin .sub (T 76) (I 1)),
       D 78 (.ia 1 (T 75) (T 77)),
       D 79 (.ld1 (T 78)),
       D 80 (.cvi .u64 (T 79)),
       D 81 (.bin .add (T 74) (T 80)),
       D 8 (.mv (T 81))]) (
     .seq (
      .ops [D 82 (.mv (T 8)),
       D 83 (.shrc (T 82) 32),
       D 84 (.bin .gtr (T 83) (.const (.int .u64 0)))]) (
     .cond (T 84) (
      .exit 0) (
      .skip))))))))) (
 .seq (
  .ops [D 9 (.mv (.const (.int .u64 0))),
   D 10 (.mv (.const (.int .u64 0)))]) (
 .trim [0, 1, 5, 7, 9, 10] (
  .seq (
   .ops [D 85 (.mv (T 1)),
    D 86 (.len (T 85)),
    D 87 (.mv (I 0))]) (
  .block 2 (
   .loop [0, 1, 5, 7, 9, 10, 85, 86, 87] (
    .seq (
     .ops [D 88 (.bin .lss (T 87) (T 86))]) (
    .seq (
     .cond (T 88) (
      .skip) (
      .exit 2)) (
    .trim [0, 1, 5, 7, 9, 10, 85, 86, 87] (
     .block 3 (
      .seq (
       .ops [D 89 (.mv (T 87)),
        D 90 (.ia 1 (T 85) (T 87)),
        D 91 (.ld1 (T 90)),
        D 11 (.mv (T 89)),
        D 12 (.mv (T 91))]) (
      .trim [0, 1, 5, 7, 9, 10, 11, 85, 86, 87] (
       .ops [D 92 (.mv (T 9)),
        D 93 (.mv (T 7)),
        D 94 (.mv (T 12)),
        D 95 (.cvi .u64 (T 94)),
        D 96 (.bin .mul (T 93) (T 95)),
        D 97 (.bin .add (T 92) (T 96)),
        D 9 (.mv (T 97))]) (
      .trim [0, 1, 5, 7, 9, 11, 13, 85, 86, 87] (
       .ops [D 98 (.mv (T 0)),
        D 99 (.mv (T 11)),
        D 100 (.ia 1 (T 98) (T 99)),
        D 101 (.ld1 (T 100)),
        D 102 (.cvi .u64 (T 101)),
        D 103 (.mv (T 9)),
        D 104 (.cvi .u32 (T 103)),
        D 105 (.cvi .u64 (T 104)),
        D 106 (.bin .sub (T 102) (T 105)),
        D 107 (.mv (T 10)),
        D 108 (.bin .sub (T 106) (T 107)),
        D 13 (.mv (T 108))]) (
      .trim [0, 1, 5, 7, 9, 13, 85, 86, 87] (
       .ops [D 109 (.mv (T 0)),
        D 110 (.mv (T 11)),
        D 111 (.mv (T 13)),
        D 112 (.cvi .u32 (T 111)),
        D 113 (.ia 1 (T 109) (T 110)),
        E (.st 1 (T 113) (T 112))]) (
      .seq (
       .ops [D 114 (.mv (T 9)),
        D 115 (.shrc (T 114) 32),
        D 9 (.mv (T 115))]) (
      .ops [D 116 (.mv (T 13)),
       D 117 (.shrc (T 116) 63),
       D 10 (.mv (T 117))]))))))) (
    .ops [D 118 (.bin .add (T 87) (I 1)),
     D 87 (.mv (T 118))]))))))) (
 .trim [0, 1, 5, 7, 14] (
  .ops [D 119 (.mv (T 0)),
   D 120 (.mv (T 5)),
   D 121 (.ia 1 (T 119) (T 120)),
   D 122 (.ld1 (T 121)),
   D 123 (.cvi .u64 (T 122)),
   D 124 (.mv (T 9)),
   D 125 (.bin .sub (T 123) (T 124)),
   D 126 (.mv (T 10)),
   D 127 (.bin .sub (T 125) (T 126)),
   D 14 (.mv (T 127))]) (
 .trim [0, 1, 5, 7, 14] (
  .ops [D 128 (.mv (T 0)),
   D 129 (.mv (T 5)),
   D 130 (.mv (T 14)),
   D 131 (.cvi .u32 (T 130)),
   D 132 (.ia 1 (T 128) (T 129)),
   E (.st 1 (T 132) (T 131))]) (
 .trim [0, 1, 5, 7] (
  .seq (
   .ops [D 133 (.mv (T 14)),
    D 134 (.shrc (T 133) 63),
    D 135 (.bin .eql (T 134) (.const (.int .u64 0)))]) (
  .cond (T 135) (
   .seq (
    .ops [D 136 (.mv (T 7)),
     D 137 (.cvi .u32 (T 136)),
     D 4 (.mv (T 137))]) (
   .ret)) (
   .skip))) (
 .seq (
  .ops [D 15 (.mv (.const (.int .u64 0)))]) (
 .trim [0, 5, 7, 15] (
  .seq (
   .ops [D 138 (.mv (T 1)),
    D 139 (.len (T 138)),
    D 140 (.mv (I 0))]) (
  .block 4 (
   .loop [0, 5, 7, 15, 138, 139, 140] (
    .seq (
     .ops [D 141 (.bin .lss (T 140) (T 139))]) (
    .seq (
     .cond (T 141) (
      .skip) (
      .exit 4)) (
    .trim [0, 5, 7, 15, 138, 139, 140] (
     .block 5 (
      .seq (
       .ops [D 142 (.mv (T 140)),
        D 143 (.ia 1 (T 138) (T 140)),
        D 144 (.ld1 (T 143)),
        D 16 (.mv (T 142)),
        D 17 (.mv (T 144))]) (
      .trim [0, 5, 7, 15, 16, 138, 139, 140] (
       .ops [D 145 (.mv (T 15)),
        D 146 (.mv (T 0)),
        D 147 (.mv (T 16)),
        D 148 (.ia 1 (T 146) (T 147)),
        D 149 (.ld1 (T 148)),
        D 150 (.cvi .u64 (T 149)),
        D 151 (.mv (T 17)),
        D 152 (.cvi .u64 (T 151)),
        D 153 (.bin .add (T 150) (T 152)),
        D 154 (.bin .add (T 145) (T 153)),
        D 15 (.mv (T 154))]) (
      .trim [0, 5, 7, 15, 138, 139, 140] (
       .ops [D 155 (.mv (T 0)),
        D 156 (.mv (T 16)),
        D 157 (.mv (T 15)),
        D 158 (.cvi .u32 (T 157)),
        D 159 (.ia 1 (T 155) (T 156)),
        E (.st 1 (T 159) (T 158))]) (
      .ops [D 160 (.mv (T 15)),
       D 161 (.shrc (T 160) 32),
       D 15 (.mv (T 161))]))))) (
    .ops [D 162 (.bin .add (T 140) (I 1)),
     D 140 (.mv (T 162))]))))))) (
 .trim [7] (
  .ops [D 163 (.mv (T 0)),
   D 164 (.mv (T 5)),
   D 165 (.ia 1 (T 163) (T 164)),
   D 166 (.ld1 (T 165)),
   D 167 (.mv (T 15)),
   D 168 (.cvi .u32 (T 167)),
   D 169 (.bin .add (T 166) (T 168)),
   D 170 (.ia 1 (T 163) (T 164)),
   E (.st 1 (T 170) (T 169))]) (
 .seq (
  .ops [D 171 (.mv (T 7)),
   D 172 (.bin .sub (T 171) (.const (.int .u64 1))),
   D 173 (.cvi .u32 (T 172)),
   D 4 (.mv (T 173))]) (
 .ret))))))))))))))⟩
theorem num_digit_ok : Ok Try.prog 126 num_digit := ⟨by kernel_rfl, by kernel_rfl⟩

/-- diorama/num.mulMag -/
def num_mulMag : AF := ⟨67, [.tmp 4],
 .seq (
  .ops [D 4 (.mv (.const (.slice none 0 0)))]) (
 .trim [0, 1, 5] (
  .ops [D 11 (.mv (T 0)),
   D 12 (.len (T 11)),
   D 13 (.mv (T 1)),
   D 14 (.len (T 13)),
   D 15 (.bin .add (T 12) (T 14)),
   D 16 (.mks [(.int .u32 0)] 4 (T 15) (T 15)),
   D 5 (.mv (T 16))]) (
 .trim [5] (
  .seq (
   .ops [D 17 (.mv (T 0)),
    D 18 (.len (T 17)),
    D 19 (.mv (I 0))]) (
  .block 0 (
   .loop [1, 5, 17, 18, 19] (
    .seq (
     .ops [D 20 (.bin .lss (T 19) (T 18))]) (
    .seq (
     .cond (T 20) (
      .skip) (
      .exit 0)) (
    .trim [1, 5, 17, 18, 19] (
     .block 1 (
      .seq (
       .ops [D 21 (.mv (T 19)),
        D 22 (.ia 1 (T 17) (T 19)),
        D 23 (.ld1 (T 22)),
        D 6 (.mv (T 21)),
        D 7 (.mv (T 23))]) (
      .seq (
       .ops [D 8 (.mv (.const (.int .u64 0)))]) (
      .trim [1, 5, 6, 8, 17, 18, 19] (
       .seq (
        .ops [D 24 (.mv (T 1)),
         D 25 (.len (T 24)),
         D 26 (.mv (I 0))]) (
       .block 2 (
        .loop [1, 5, 6, 7, 8, 17, 18, 19, 24, 25, 26] (
         .seq (
          .ops [D 27 (.bin .lss (T 26) (T 25))]) (
         .seq (
          .cond (T 27) (
           .skip) (
           .exit 2)) (
         .trim [1, 5, 6, 7, 8, 17, 18, 19, 24, 25, 26] (
          .block 3 (
           .seq (
            .ops [D 28 (.mv (T 26)),
             D 29 (.ia 1 (T 24) (T 26)),
             D 30 (.ld1 (T 29)),
             D 9 (.mv (T 28)),
             D 10 (.mv (T 30))]) (
           .trim [1, 5, 6, 7, 8, 9, 17, 18, 19, 24, 25, 26] (
            .ops [D 31 (.mv (T 8)),
             D 32 (.mv (T 7)),
             D 33 (.cvi .u64 (T 32)),
             D 34 (.mv (T 10)),
             D 35 (.cvi .u64 (T 34)),
             D 36 (.bin .mul (T 33) (T 35)),
             D 37 (.mv (T 5)),
             D 38 (.mv (T 6)),
             D 39 (.mv (T 9)),
             D 40 (.bin .add (T 38) (T 39)),
             D 41 (.ia 1 (T 37) (T 40)),
             D 42 (.ld1 (T 41)),
             D 43 (.cvi .u64 (T 42)),
             D 44 (.bin .add (T 36) (T 43)),
             D 45 (.bin .add (T 31) (T 44)),
             D 8 (.mv (T 45))]) (
           .trim [1, 5, 6, 7, 8, 17, 18, 19, 24, 25, 26] (
            .ops [D 46 (.mv (T 5)),
             D 47 (.mv (T 6)),
             D 48 (.mv (T 9)),
             D 49 (.bin .add (T 47) (T 48)),
             D 50 (.mv (T 8)),
             D 51 (.cvi .u32 (T 50)),
             D 52 (.ia 1 (T 46) (T 49)),
             E (.st 1 (T 52) (T 51))]) (
           .ops [D 53 (.mv (T 8)),
            D 54 (.shrc (T 53) 32),
            D 8 (.mv (T 54))]))))) (
         .ops [D 55 (.bin .add (T 26) (I 1)),
          D 26 (.mv (T 55))]))))))) (
      .ops [D 56 (.mv (T 5)),
       D 57 (.mv (T 6)),
       D 58 (.mv (T 1)),
       D 59 (.len (T 58)),
       D 60 (.bin .add (T 57) (T 59)),
       D 61 (.mv (T 8)),
       D 62 (.cvi .u32 (T 61)),
       D 63 (.ia 1 (T 56) (T 60)),
       E (.st 1 (T 63) (T 62))]))))) (
    .ops [D 64 (.bin .add (T 19) (I 1)),
     D 19 (.mv (T 64))]))))))) (
 .seq (
  .ops [D 65 (.mv (T 5)),
   D 66 (.call 122 [(T 65)]),
   D 4 (.mv (T 66))]) (
 .ret))))⟩
theorem num_mulMag_ok : Ok Try.prog 127 num_mulMag := ⟨by kernel_rfl, by kernel_rfl⟩

/-- diorama/num.addMag -/
def num_addMag : AF := ⟨58, [.tmp 4],
 .seq (
  .ops [D 4 (.mv (.const (.slice none 0 0)))]) (
 .trim [0, 1] (
  .seq (
   .ops [D 9 (.mv (T 0)),
    D 10 (.len (T 9)),
    D 11 (.mv (T 1)),
    D 12 (.len (T 11)),
    D 13 (.bin .lss (T 10) (T 12))]) (
  .cond (T 13) (
   .ops [D 14 (.mv (T 1)),
    D 15 (.mv (T 0)),
    D 0 (.mv (T 14)),
    D 1 (.mv (T 15))]) (
   .skip))) (
 .seq (
  .ops [D 16 (.mv (T 0)),
   D 17 (.len (T 16)),
   D 18 (.bin .add (T 17) (I 1)),
   D 19 (.mks [(.int .u32 0)] 4 (T 18) (T 18)),
   D 5 (.mv (T 19))]) (
 .seq (
  .ops [D 6 (.mv (.const (.int .u64 0)))]) (
 .trim [0, 5, 6] (
  .seq (
   .ops [D 20 (.mv (T 0)),
    D 21 (.len (T 20)),
    D 22 (.mv (I 0))]) (
  .block 0 (
   .loop [0, 1, 5, 6, 20, 21, 22] (
    .seq (
     .ops [D 23 (.bin .lss (T 22) (T 21))]) (
    .seq (
     .cond (T 23) (
      .skip) (
      .exit 0)) (
    .trim [0, 1, 5, 6, 20, 21, 22] (
     .block 1 (
      .seq (
       .ops [D 24 (.mv (T 22)),
        D 25 (.ia 1 (T 20) (T 22)),
        D 26 (.ld1 (T 25)),
        D 7 (.mv (T 24)),
        D 8 (.mv (T 26))]) (
      .seq (
       .ops [D 27 (.mv (T 6)),
        D 28 (.mv (T 8)),
        D 29 (.cvi .u64 (T 28)),
        D 30 (.bin .add (T 27) (T 29)),
        D 6 (.mv (T 30))]) (
      .trim [0, 1, 5, 6, 7, 20, 21, 22] (
       .seq (
        .ops [D 31 (.mv (T 7)),
         D 32 (.mv (T 1)),
         D 33 (.len (T 32)),
         D 34 (.bin .lss (T 31) (T 33))]) (
       .cond (T 34) (
        .ops [D 35 (.mv (T 6)),
         D 36 (.mv (T 1)),
         D 37 (.mv (T 7)),
         D 38 (.ia 1 (T 36) (T 37)),
         D 39 (.ld1 (T 38)),
         D 40 (.cvi .u64 (T 39)),
         D 41 (.bin .add (T 35) (T 40)),
         D 6 (.mv (T 41))]) (
        .skip))) (
      .trim [0, 1, 5, 6, 20, 21, 22] (
       .ops [D 42 (.mv (T 5)),
        D 43 (.mv (T 7)),
        D 44 (.mv (T 6)),
        D 45 (.cvi .u32 (T 44)),
        D 46 (.ia 1 (T 42) (T 43)),
        E (.st 1 (T 46) (T 45))]) (
      .ops [D 47 (.mv (T 6)),
       D 48 (.shrc (T 47) 32),
       D 6 (.mv (T 48))])))))) (
    .ops [D 49 (.bin .add (T 22) (I 1)),
     D 22 (.mv (T 49))]))))))) (
 .trim [5] (
  .ops [D 50 (.mv (T 5)),
   D 51 (.mv (T 0)),
   D 52 (.len (T 51)),
   D 53 (.mv (T 6)),
   D 54 (.cvi .u32 (T 53)),
   D 55 (.ia 1 (T 50) (T 52)),
   E (.st 1 (T 55) (T 54))]) (
 .seq (
  .ops [D 56 (.mv (T 5)),
   D 57 (.call 122 [(T 56)]),
   D 4 (.mv (T 57))]) (
 .ret)))))))⟩
theorem num_addMag_ok : Ok Try.prog 128 num_addMag := ⟨by kernel_rfl, by kernel_rfl⟩

/-- diorama/num.subMag -/
def num_subMag : AF := ⟨46, [.tmp 4],
 .seq (
  .ops [D 4 (.mv (.const (.slice none 0 0)))]) (
 .seq (
  .ops [D 11 (.mv (T 0)),
   D 12 (.len (T 11)),
   D 13 (.mks [(.int .u32 0)] 4 (T 12) (T 12)),
   D 5 (.mv (T 13))]) (
 .seq (
  .ops [D 6 (.mv (.const (.int .u64 0)))]) (
 .trim [5] (
  .seq (
   .ops [D 14 (.mv (T 0)),
    D 15 (.len (T 14)),
    D 16 (.mv (I 0))]) (
  .block 0 (
   .loop [1, 5, 6, 14, 15, 16] (
    .seq (
     .ops [D 17 (.bin .lss (T 16) (T 15))]) (
    .seq (
     .cond (T 17) (
      .skip) (
      .exit 0)) (
    .trim [1, 5, 6, 14, 15, 16] (
     .block 1 (
      .seq (
       .ops [D 18 (.mv (T 16)),
        D 19 (.ia 1 (T 14) (T 16)),
        D 20 (.ld1 (T 19)),
        D 7 (.mv (T 18)),
        D 8 (.mv (T 20))]) (
      .seq (
       .ops [D 9 (.mv (.const (.int .u64 0)))]) (
      .trim [1, 5, 6, 7, 8, 9, 14, 15, 16] (
       .seq (
        .ops [D 21 (.mv (T 7)),
         D 22 (.mv (T 1)),
         D 23 (.len (T 22)),
         D 24 (.bin .lss (T 21) (T 23))]) (
       .cond (T 24) (
        .ops [D 25 (.mv (T 1)),
         D 26 (.mv (T 7)),
         D 27 (.ia 1 (T 25) (T 26)),
         D 28 (.ld1 (T 27)),
         D 29 (.cvi .u64 (T 28)),
         D 9 (.mv (T 29))]) (
        .skip))) (
      .trim [1, 5, 7, 10, 14, 15, 16] (
       .ops [D 30 (.mv (T 8)),
        D 31 (.cvi .u64 (T 30)),
        D 32 (.mv (T 9)),
        D 33 (.bin .sub (T 31) (T 32)),
        D 34 (.mv (T 6)),
        D 35 (.bin .sub (T 33) (T 34)),
        D 10 (.mv (T 35))]) (
      .trim [1, 5, 10, 14, 15, 16] (
       .ops [D 36 (.mv (T 5)),
        D 37 (.mv (T 7)),
        D 38 (.mv (T 10)),
        D 39 (.cvi .u32 (T 38)),
        D 40 (.ia 1 (T 36) (T 37)),
        E (.st 1 (T 40) (T 39))]) (
      .ops [D 41 (.mv (T 10)),
       D 42 (.shrc (T 41) 63),
       D 6 (.mv (T 42))]))))))) (
    .ops [D 43 (.bin .add (T 16) (I 1)),
     D 16 (.mv (T 43))]))))))) (
 .seq (
  .ops [D 44 (.mv (T 5)),
   D 45 (.call 122 [(T 44)]),
   D 4 (.mv (T 45))]) (
 .ret)))))⟩
theorem num_subMag_ok : Ok Try.prog 129 num_subMag := ⟨by kernel_rfl, by kernel_rfl⟩

/-- math/bits.Len32 -/
def bits_Len32 : AF := ⟨19, [.tmp 2],
 .seq (
  .ops [D 2 (.mv (I 0))]) (
 .seq (
  .seq (
   .ops [D 3 (.mv (T 0)),
    D 4 (.bin .geq (T 3) (.const (.int .u32 65536)))]) (
  .cond (T 4) (
   .seq (
    .ops [D 5 (.mv (T 0)),
     D 6 (.shrc (T 5) 16),
     D 0 (.mv (T 6))]) (
   .ops [D 2 (.mv (I 16))])) (
   .skip))) (
 .trim [0, 2] (
  .seq (
   .ops [D 7 (.mv (T 0)),
    D 8 (.bin .geq (T 7) (.const (.int .u32 256)))]) (
  .cond (T 8) (
   .seq (
    .ops [D 9 (.mv (T 0)),
     D 10 (.shrc (T 9) 8),
     D 0 (.mv (T 10))]) (
   .ops [D 11 (.mv (T 2)),
    D 12 (.bin .add (T 11) (I 8)),
    D 2 (.mv (T 12))])) (
   .skip))) (
 .trim [2] (
  .ops [D 13 (.mv (T 2)),
   D 14 (.mv (T 0)),
   D 15 (.cvi .u8 (T 14)),
   D 16 (.ixs (.const (.string ⟨#[0, 1, 2, 2, 3, 3, 3, 3, 4, 4, 4, 4, 4, 4, 4, 4, 5, 5, 5, 5, 5, 5, 5, 5, 5, 5, 5, 5, 5, 5, 5, 5, 6, 6, 6, 6, 6, 6, 6, 6, 6, 6, 6, 6, 6, 6, 6, 6, 6, 6, 6, 6, 6, 6, 6, 6, 6, 6, 6, 6, 6, 6, 6, 6, 7, 7, 7, 7, 7, 7, 7, 7, 7, 7, 7, 7, 7, 7, 7, 7, 7, 7, 7, 7, 7, 7, 7, 7, 7, 7, 7, 7, 7, 7, 7, 7, 7, 7, 7, 7, 7, 7, 7, 7, 7, 7, 7, 7, 7, 7, 7, 7, 7, 7, 7, 7, 7, 7, 7, 7, 7, 7, 7, 7, 7, 7, 7, 7, 8, 8, 8, 8, 8, 8, 8, 8, 8, 8, 8, 8, 8, 8, 8, 8, 8, 8, 8, 8, 8, 8, 8, 8, 8, 8, 8, 8, 8, 8, 8, 8, 8, 8, 8, 8, 8, 8, 8, 8, 8, 8, 8, 8, 8, 8, 8, 8, 8, 8, 8, 8, 8, 8, 8, 8, 8, 8, 8, 8, 8, 8, 8, 8, 8, 8, 8, 8, 8, 8, 8, 8, 8, 8, 8, 8, 8, 8, 8, 8, 8, 8, 8, 8, 8, 8, 8, 8, 8, 8, 8, 8, 8, 8, 8, 8, 8, 8, 8, 8, 8, 8, 8, 8, 8, 8, 8, 8, 8, 8, 8, 8, 8, 8, 8, 8, 8, 8, 8, 8, 8, 8, 8, 8, 8, 8, 8, 8]⟩)) (T 15)),
   D 17 (.cvi .i64 (T 16)),
   D 18 (.bin .add (T 13) (T 17)),
   D 2 (.mv (T 18))]) (
 .ret))))⟩
theorem bits_Len32_ok : Ok Try.prog 135 bits_Len32 := ⟨by kernel_rfl, by kernel_rfl⟩

end Go.Proofs.Ytnibipabfdalcaa.Af
