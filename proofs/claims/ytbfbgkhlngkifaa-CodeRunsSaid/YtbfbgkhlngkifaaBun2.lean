/- The functions of the program in the abstract machine's words, printed by a program of ours; each is the program's by the kernel's reckoning.
   Conditions: none. -/
import Derived.Test.YtbfbgkhlngkifaaBun1
import Derived.Test.YtbfbgkhlngkifaaAmZb
import Derived.IntWalk
namespace Go.Proofs.Ytbfbgkhlngkifaa.Af
open Go Go.RowKit Go.Proofs.Ytbfbgkhlngkifaa.Am
/-- diorama/num.sign -/
def num_sign : AF := ⟨6, [.tmp 2],
 .seq (
  .ops [D 2 (.mv (I 0))]) (
 .seq (
  .ops [D 3 (.mv (T 0)),
   D 4 (.mn [(I 1), (T 3)]),
   D 5 (.mx [(I (-1)), (T 4)]),
   D 2 (.mv (T 5))]) (
 .ret))⟩
theorem num_sign_ok : Ok Try.prog 91 num_sign := ⟨by kernel_rfl, by kernel_rfl⟩

/-- diorama/num.cmpMag -/
def num_cmpMag : AF := ⟨41, [.tmp 4],
 .seq (
  .ops [D 4 (.mv (I 0))]) (
 .trim [0, 1] (
  .seq (
   .ops [D 6 (.mv (T 0)),
    D 7 (.len (T 6)),
    D 8 (.mv (T 1)),
    D 9 (.len (T 8)),
    D 10 (.bin .neq (T 7) (T 9))]) (
  .cond (T 10) (
   .trim [4] (
    .ops [D 11 (.mv (T 0)),
     D 12 (.len (T 11)),
     D 13 (.mv (T 1)),
     D 14 (.len (T 13)),
     D 15 (.bin .sub (T 12) (T 14)),
     D 4 (.mv (T 15))]) (
   .ret)) (
   .skip))) (
 .trim [] (
  .seq (
   .ops [D 16 (.mv (T 0)),
    D 17 (.len (T 16)),
    D 18 (.bin .sub (T 17) (I 1)),
    D 5 (.mv (T 18))]) (
  .block 0 (
   .loop [0, 1, 5] (
    .seq (
     .seq (
      .ops [D 19 (.mv (T 5)),
       D 20 (.bin .geq (T 19) (I 0))]) (
     .cond (T 20) (
      .skip) (
      .exit 0))) (
    .trim [0, 1, 5] (
     .block 1 (
      .trim [0, 1, 5, 31] (
       .draw [⟨0, 0, 0, D 23 (.mv (T 0))⟩,
        ⟨1, 0, 0, D 24 (.mv (T 5))⟩,
        ⟨2, 0, 3, D 25 (.ia 1 (T 23) (T 24))⟩,
        ⟨3, 1, 7, D 26 (.ld1 (T 25))⟩,
        ⟨4, 0, 0, D 27 (.mv (T 1))⟩,
        ⟨5, 0, 0, D 28 (.mv (T 5))⟩,
        ⟨6, 0, 48, D 29 (.ia 1 (T 27) (T 28))⟩,
        ⟨7, 1, 112, D 30 (.ld1 (T 29))⟩,
        ⟨8, 0, 255, D 31 (.bin .neq (T 26) (T 30))⟩]) (
      .cond (T 31) (
       .trim [] (
        .trim [40] (
         .draw [⟨0, 0, 0, D 32 (.mv (T 0))⟩,
          ⟨1, 0, 0, D 33 (.mv (T 5))⟩,
          ⟨2, 0, 3, D 34 (.ia 1 (T 32) (T 33))⟩,
          ⟨3, 1, 7, D 35 (.ld1 (T 34))⟩,
          ⟨4, 0, 0, D 36 (.mv (T 1))⟩,
          ⟨5, 0, 0, D 37 (.mv (T 5))⟩,
          ⟨6, 0, 48, D 38 (.ia 1 (T 36) (T 37))⟩,
          ⟨7, 1, 112, D 39 (.ld1 (T 38))⟩,
          ⟨8, 0, 255, D 40 (.bin .lss (T 35) (T 39))⟩]) (
        .cond (T 40) (
         .seq (
          .ops [D 4 (.mv (I (-1)))]) (
         .ret)) (
         .skip))) (
       .seq (
        .ops [D 4 (.mv (I 1))]) (
       .ret))) (
       .skip)))) (
    .ops [D 21 (.mv (T 5)),
     D 22 (.bin .sub (T 21) (I 1)),
     D 5 (.mv (T 22))])))))) (
 .seq (
  .ops [D 4 (.mv (I 0))]) (
 .ret))))⟩
theorem num_cmpMag_ok : Ok Try.prog 92 num_cmpMag := ⟨by kernel_rfl, by kernel_rfl⟩

/-- (*diorama/num.Rat).down -/
def num_Rat__down : AF := ⟨17, [.tmp 2],
 .seq (
  .ops [D 2 (.mv (.const (.pointer none)))]) (
 .trim [0] (
  .trim [0, 9] (
   .ops [D 3 (.mv (T 0)),
    D 4 (.nil (T 3)),
    D 5 (.fa 2 (T 4)),
    D 6 (.fa 1 (T 5)),
    D 7 (.ld1 (T 6)),
    D 8 (.len (T 7)),
    D 9 (.bin .eql (T 8) (I 0))]) (
  .cond (T 9) (
   .ops [D 10 (.mv (T 0)),
    D 11 (.nil (T 10)),
    D 12 (.fa 2 (T 11)),
    D 13 (.call 90 [(T 12), (I 1)])]) (
   .skip))) (
 .seq (
  .ops [D 14 (.mv (T 0)),
   D 15 (.nil (T 14)),
   D 16 (.fa 2 (T 15)),
   D 2 (.mv (T 16))]) (
 .ret)))⟩
theorem num_Rat__down_ok : Ok Try.prog 93 num_Rat__down := ⟨by kernel_rfl, by kernel_rfl⟩

/-- (*diorama/num.Rat).SetFrac -/
def num_Rat__SetFrac : AF := ⟨75, [.tmp 6],
 .seq (
  .ops [D 6 (.mv (.const (.pointer none)))]) (
 .trim [0, 1, 2, 7, 8] (
  .draw [⟨0, 0, 0, D 16 (.mv (T 1))⟩,
   ⟨1, 0, 1, D 17 (.nil (T 16))⟩,
   ⟨2, 0, 3, D 18 (.fa 1 (T 17))⟩,
   ⟨3, 1, 7, D 19 (.ld1 (T 18))⟩,
   ⟨5, 0, 0, D 21 (.mv (T 2))⟩,
   ⟨6, 0, 32, D 22 (.nil (T 21))⟩,
   ⟨7, 0, 96, D 23 (.fa 1 (T 22))⟩,
   ⟨8, 1, 224, D 24 (.ld1 (T 23))⟩,
   ⟨4, 4, 15, D 20 (.call 117 [(T 19)])⟩,
   ⟨9, 0, 31, D 7 (.mv (T 20))⟩,
   ⟨10, 0, 1023, D 8 (.mv (T 24))⟩]) (
 .trim [0, 1, 2, 7] (
  .block 0 (
   .loop [0, 1, 2, 7, 8] (
    .seq (
     .seq (
      .ops [D 25 (.mv (T 8)),
       D 26 (.len (T 25)),
       D 27 (.bin .gtr (T 26) (I 0))]) (
     .cond (T 27) (
      .skip) (
      .exit 0))) (
    .block 1 (
     .trim [0, 1, 2, 8, 10] (
      .ops [D 29 (.mv (T 7)),
       D 30 (.mv (T 8)),
       D 31 (.call 118 [(T 29), (T 30)]),
       D 28 (.mv (T 31)),
       D 32 (.ext (T 28) 0),
       D 33 (.ext (T 28) 1),
       D 9 (.mv (T 32)),
       D 10 (.mv (T 33))]) (
     .ops [D 34 (.mv (T 8)),
      D 35 (.mv (T 10)),
      D 7 (.mv (T 34)),
      D 8 (.mv (T 35))])))))) (
 .trim [0, 1, 2, 7, 11] (
  .ops [D 37 (.mv (T 1)),
   D 38 (.nil (T 37)),
   D 39 (.fa 1 (T 38)),
   D 40 (.ld1 (T 39)),
   D 41 (.mv (T 7)),
   D 42 (.call 118 [(T 40), (T 41)]),
   D 36 (.mv (T 42)),
   D 43 (.ext (T 36) 0),
   D 44 (.ext (T 36) 1),
   D 11 (.mv (T 43)),
   D 12 (.mv (T 44))]) (
 .trim [0, 1, 2, 11, 13] (
  .ops [D 46 (.mv (T 2)),
   D 47 (.nil (T 46)),
   D 48 (.fa 1 (T 47)),
   D 49 (.ld1 (T 48)),
   D 50 (.mv (T 7)),
   D 51 (.call 118 [(T 49), (T 50)]),
   D 45 (.mv (T 51)),
   D 52 (.ext (T 45) 0),
   D 53 (.ext (T 45) 1),
   D 13 (.mv (T 52)),
   D 14 (.mv (T 53))]) (
 .trim [0, 11, 13, 15] (
  .draw [⟨0, 0, 0, D 54 (.mv (T 1))⟩,
   ⟨1, 0, 1, D 55 (.nil (T 54))⟩,
   ⟨2, 0, 3, D 56 (.fa 0 (T 55))⟩,
   ⟨3, 1, 7, D 57 (.ld1 (T 56))⟩,
   ⟨4, 0, 0, D 58 (.mv (T 2))⟩,
   ⟨5, 0, 16, D 59 (.nil (T 58))⟩,
   ⟨6, 0, 48, D 60 (.fa 0 (T 59))⟩,
   ⟨7, 1, 112, D 61 (.ld1 (T 60))⟩,
   ⟨8, 0, 255, D 62 (.beq true (T 57) (T 61))⟩,
   ⟨9, 0, 511, D 15 (.mv (T 62))⟩]) (
 .trim [0, 13] (
  .ops [D 63 (.mv (T 0)),
   D 64 (.nil (T 63)),
   D 65 (.fa 0 (T 64)),
   D 66 (.mv (T 15)),
   D 67 (.mv (T 11)),
   D 68 (.call 115 [(T 65), (T 66), (T 67)])]) (
 .trim [0] (
  .ops [D 69 (.mv (T 0)),
   D 70 (.nil (T 69)),
   D 71 (.fa 2 (T 70)),
   D 72 (.mv (T 13)),
   D 73 (.call 115 [(T 71), (.const (.bool false)), (T 72)])]) (
 .seq (
  .ops [D 74 (.mv (T 0)),
   D 6 (.mv (T 74))]) (
 .ret)))))))))⟩
theorem num_Rat__SetFrac_ok : Ok Try.prog 94 num_Rat__SetFrac := ⟨by kernel_rfl, by kernel_rfl⟩

/-- diorama/num.product -/
def num_product : AF := ⟨9, [.tmp 4],
 .seq (
  .ops [D 4 (.mv (.const (.pointer none)))]) (
 .seq (
  .ops [D 5 (.alloc [(.bool false), (.slice none 0 0)]),
   D 6 (.mv (T 0)),
   D 7 (.mv (T 1)),
   D 8 (.call 108 [(T 5), (T 6), (T 7)]),
   D 4 (.mv (T 8))]) (
 .ret))⟩
theorem num_product_ok : Ok Try.prog 95 num_product := ⟨by kernel_rfl, by kernel_rfl⟩

/-- (*diorama/num.Int).IsInt64 -/
def num_Int__IsInt64 : AF := ⟨24, [.tmp 2],
 .seq (
  .ops [D 2 (.mv (.const (.bool false)))]) (
 .trim [0] (
  .trim [0, 9] (
   .ops [D 4 (.mv (T 0)),
    D 5 (.nil (T 4)),
    D 6 (.fa 1 (T 5)),
    D 7 (.ld1 (T 6)),
    D 8 (.len (T 7)),
    D 9 (.bin .gtr (T 8) (I 2))]) (
  .cond (T 9) (
   .seq (
    .ops [D 2 (.mv (.const (.bool false)))]) (
   .ret)) (
   .skip))) (
 .seq (
  .ops [D 10 (.mv (T 0)),
   D 11 (.call 119 [(T 10)]),
   D 3 (.mv (T 11))]) (
 .trim [2] (
  .ops [D 12 (.mv (T 3)),
   D 13 (.bin .lss (T 12) (.const (.int .u64 9223372036854775808))),
   D 14 (.mv (T 13)),
   ⟨(some 15), some (14, false), .mv (T 0)⟩,
   ⟨(some 16), some (14, false), .nil (T 15)⟩,
   ⟨(some 17), some (14, false), .fa 0 (T 16)⟩,
   ⟨(some 18), some (14, false), .ld1 (T 17)⟩,
   ⟨(some 19), some (14, false), .mv (T 18)⟩,
   ⟨(some 20), some (19, true), .mv (T 3)⟩,
   ⟨(some 21), some (19, true), .bin .eql (T 20) (.const (.int .u64 9223372036854775808))⟩,
   ⟨(some 22), some (14, false), .pick (T 19) (T 21) (.const (.bool false))⟩,
   D 23 (.pick (T 14) (.const (.bool true)) (T 22)),
   D 2 (.mv (T 23))]) (
 .ret))))⟩
theorem num_Int__IsInt64_ok : Ok Try.prog 96 num_Int__IsInt64 := ⟨by kernel_rfl, by kernel_rfl⟩

/-- (*diorama/num.Int).Int64 -/
def num_Int__Int64 : AF := ⟨14, [.tmp 2],
 .seq (
  .ops [D 2 (.mv (I 0))]) (
 .trim [0] (
  .seq (
   .ops [D 3 (.mv (T 0)),
    D 4 (.nil (T 3)),
    D 5 (.fa 0 (T 4)),
    D 6 (.ld1 (T 5))]) (
  .cond (T 6) (
   .seq (
    .ops [D 7 (.mv (T 0)),
     D 8 (.call 119 [(T 7)]),
     D 9 (.cvi .i64 (T 8)),
     D 10 (.un .neg (T 9)),
     D 2 (.mv (T 10))]) (
   .ret)) (
   .skip))) (
 .seq (
  .ops [D 11 (.mv (T 0)),
   D 12 (.call 119 [(T 11)]),
   D 13 (.cvi .i64 (T 12)),
   D 2 (.mv (T 13))]) (
 .ret)))⟩
theorem num_Int__Int64_ok : Ok Try.prog 97 num_Int__Int64 := ⟨by kernel_rfl, by kernel_rfl⟩

/-- (*diorama/num.Int).Div -/
def num_Int__Div : AF := ⟨33, [.tmp 6],
 .seq (
  .ops [D 6 (.mv (.const (.pointer none)))]) (
 .seq (
  .ops [D 10 (.call 56 [(I 1)]),
   D 7 (.mv (T 10))]) (
 .trim [0, 1, 2, 7] (
  .seq (
   .ops [D 11 (.mv (T 2)),
    D 12 (.nil (T 11)),
    D 13 (.fa 0 (T 12)),
    D 14 (.ld1 (T 13))]) (
  .cond (T 14) (
   .ops [D 15 (.call 56 [(I (-1))]),
    D 7 (.mv (T 15))]) (
   .skip))) (
 .trim [7, 8, 9] (
  .ops [D 17 (.mv (T 0)),
   D 18 (.mv (T 1)),
   D 19 (.mv (T 2)),
   D 20 (.alloc [(.bool false), (.slice none 0 0)]),
   D 21 (.call 120 [(T 17), (T 18), (T 19), (T 20)]),
   D 16 (.mv (T 21)),
   D 22 (.ext (T 16) 0),
   D 23 (.ext (T 16) 1),
   D 8 (.mv (T 22)),
   D 9 (.mv (T 23))]) (
 .trim [8] (
  .seq (
   .ops [D 24 (.mv (T 9)),
    D 25 (.nil (T 24)),
    D 26 (.fa 0 (T 25)),
    D 27 (.ld1 (T 26))]) (
  .cond (T 27) (
   .seq (
    .ops [D 28 (.mv (T 8)),
     D 29 (.mv (T 8)),
     D 30 (.mv (T 7)),
     D 31 (.call 99 [(T 28), (T 29), (T 30)]),
     D 6 (.mv (T 31))]) (
   .ret)) (
   .skip))) (
 .seq (
  .ops [D 32 (.mv (T 8)),
   D 6 (.mv (T 32))]) (
 .ret))))))⟩
theorem num_Int__Div_ok : Ok Try.prog 98 num_Int__Div := ⟨by kernel_rfl, by kernel_rfl⟩

/-- (*diorama/num.Int).Sub -/
def num_Int__Sub : AF := ⟨21, [.tmp 6],
 .seq (
  .ops [D 6 (.mv (.const (.pointer none)))]) (
 .trim [6] (
  .draw [⟨0, 0, 0, D 7 (.mv (T 0))⟩,
   ⟨1, 0, 0, D 8 (.mv (T 1))⟩,
   ⟨2, 0, 0, D 9 (.mv (T 2))⟩,
   ⟨3, 0, 4, D 10 (.nil (T 9))⟩,
   ⟨4, 0, 12, D 11 (.fa 0 (T 10))⟩,
   ⟨5, 1, 28, D 12 (.ld1 (T 11))⟩,
   ⟨6, 0, 60, D 13 (.un .not (T 12))⟩,
   ⟨7, 0, 0, D 14 (.mv (T 2))⟩,
   ⟨8, 0, 128, D 15 (.nil (T 14))⟩,
   ⟨9, 0, 384, D 16 (.fa 1 (T 15))⟩,
   ⟨10, 1, 896, D 17 (.ld1 (T 16))⟩,
   ⟨11, 0, 2044, D 18 (.build [(.bool false), (.slice none 0 0)] [(0, 1, (T 13)), (1, 1, (T 17))])⟩,
   ⟨12, 2, 4092, D 19 (.box (T 18))⟩,
   ⟨13, 4, 8191, D 20 (.call 100 [(T 7), (T 8), (T 19)])⟩,
   ⟨14, 0, 16383, D 6 (.mv (T 20))⟩]) (
 .ret))⟩
theorem num_Int__Sub_ok : Ok Try.prog 99 num_Int__Sub := ⟨by kernel_rfl, by kernel_rfl⟩

/-- (*diorama/num.Int).Add -/
def num_Int__Add : AF := ⟨71, [.tmp 6],
 .seq (
  .ops [D 6 (.mv (.const (.pointer none)))]) (
 .trim [0, 1, 2] (
  .trim [0, 1, 2, 15] (
   .draw [⟨0, 0, 0, D 7 (.mv (T 1))⟩,
    ⟨1, 0, 1, D 8 (.nil (T 7))⟩,
    ⟨2, 0, 3, D 9 (.fa 0 (T 8))⟩,
    ⟨3, 1, 7, D 10 (.ld1 (T 9))⟩,
    ⟨4, 0, 0, D 11 (.mv (T 2))⟩,
    ⟨5, 0, 16, D 12 (.nil (T 11))⟩,
    ⟨6, 0, 48, D 13 (.fa 0 (T 12))⟩,
    ⟨7, 1, 112, D 14 (.ld1 (T 13))⟩,
    ⟨8, 0, 255, D 15 (.beq false (T 10) (T 14))⟩]) (
  .cond (T 15) (
   .trim [6] (
    .draw [⟨0, 0, 0, D 16 (.mv (T 0))⟩,
     ⟨1, 0, 0, D 17 (.mv (T 1))⟩,
     ⟨2, 0, 2, D 18 (.nil (T 17))⟩,
     ⟨3, 0, 6, D 19 (.fa 0 (T 18))⟩,
     ⟨4, 1, 14, D 20 (.ld1 (T 19))⟩,
     ⟨5, 0, 0, D 21 (.mv (T 1))⟩,
     ⟨6, 0, 32, D 22 (.nil (T 21))⟩,
     ⟨7, 0, 96, D 23 (.fa 1 (T 22))⟩,
     ⟨8, 1, 224, D 24 (.ld1 (T 23))⟩,
     ⟨9, 0, 0, D 25 (.mv (T 2))⟩,
     ⟨10, 0, 512, D 26 (.nil (T 25))⟩,
     ⟨11, 0, 1536, D 27 (.fa 1 (T 26))⟩,
     ⟨12, 1, 3584, D 28 (.ld1 (T 27))⟩,
     ⟨13, 4, 8160, D 29 (.call 121 [(T 24), (T 28)])⟩,
     ⟨14, 4, 16383, D 30 (.call 115 [(T 16), (T 20), (T 29)])⟩,
     ⟨15, 0, 32767, D 6 (.mv (T 30))⟩]) (
   .ret)) (
   .skip))) (
 .trim [0, 1, 2] (
  .trim [0, 1, 2, 40] (
   .draw [⟨0, 0, 0, D 31 (.mv (T 1))⟩,
    ⟨1, 0, 1, D 32 (.nil (T 31))⟩,
    ⟨2, 0, 3, D 33 (.fa 1 (T 32))⟩,
    ⟨3, 1, 7, D 34 (.ld1 (T 33))⟩,
    ⟨4, 0, 0, D 35 (.mv (T 2))⟩,
    ⟨5, 0, 16, D 36 (.nil (T 35))⟩,
    ⟨6, 0, 48, D 37 (.fa 1 (T 36))⟩,
    ⟨7, 1, 112, D 38 (.ld1 (T 37))⟩,
    ⟨8, 4, 255, D 39 (.call 92 [(T 34), (T 38)])⟩,
    ⟨9, 0, 511, D 40 (.bin .geq (T 39) (I 0))⟩]) (
  .cond (T 40) (
   .trim [6] (
    .draw [⟨0, 0, 0, D 41 (.mv (T 0))⟩,
     ⟨1, 0, 0, D 42 (.mv (T 1))⟩,
     ⟨2, 0, 2, D 43 (.nil (T 42))⟩,
     ⟨3, 0, 6, D 44 (.fa 0 (T 43))⟩,
     ⟨4, 1, 14, D 45 (.ld1 (T 44))⟩,
     ⟨5, 0, 0, D 46 (.mv (T 1))⟩,
     ⟨6, 0, 32, D 47 (.nil (T 46))⟩,
     ⟨7, 0, 96, D 48 (.fa 1 (T 47))⟩,
     ⟨8, 1, 224, D 49 (.ld1 (T 48))⟩,
     ⟨9, 0, 0, D 50 (.mv (T 2))⟩,
     ⟨10, 0, 512, D 51 (.nil (T 50))⟩,
     ⟨11, 0, 1536, D 52 (.fa 1 (T 51))⟩,
     ⟨12, 1, 3584, D 53 (.ld1 (T 52))⟩,
     ⟨13, 4, 8160, D 54 (.call 122 [(T 49), (T 53)])⟩,
     ⟨14, 4, 16383, D 55 (.call 115 [(T 41), (T 45), (T 54)])⟩,
     ⟨15, 0, 32767, D 6 (.mv (T 55))⟩]) (
   .ret)) (
   .skip))) (
 .trim [6] (
  .draw [⟨0, 0, 0, D 56 (.mv (T 0))⟩,
   ⟨1, 0, 0, D 57 (.mv (T 2))⟩,
   ⟨2, 0, 2, D 58 (.nil (T 57))⟩,
   ⟨3, 0, 6, D 59 (.fa 0 (T 58))⟩,
   ⟨4, 1, 14, D 60 (.ld1 (T 59))⟩,
   ⟨5, 0, 0, D 61 (.mv (T 2))⟩,
   ⟨6, 0, 32, D 62 (.nil (T 61))⟩,
   ⟨7, 0, 96, D 63 (.fa 1 (T 62))⟩,
   ⟨8, 1, 224, D 64 (.ld1 (T 63))⟩,
   ⟨9, 0, 0, D 65 (.mv (T 1))⟩,
   ⟨10, 0, 512, D 66 (.nil (T 65))⟩,
   ⟨11, 0, 1536, D 67 (.fa 1 (T 66))⟩,
   ⟨12, 1, 3584, D 68 (.ld1 (T 67))⟩,
   ⟨13, 4, 8160, D 69 (.call 122 [(T 64), (T 68)])⟩,
   ⟨14, 4, 16383, D 70 (.call 115 [(T 56), (T 60), (T 69)])⟩,
   ⟨15, 0, 32767, D 6 (.mv (T 70))⟩]) (
 .ret))))⟩
theorem num_Int__Add_ok : Ok Try.prog 100 num_Int__Add := ⟨by kernel_rfl, by kernel_rfl⟩

/-- (*diorama/num.Int).Mod -/
def num_Int__Mod : AF := ⟨35, [.tmp 6],
 .seq (
  .ops [D 6 (.mv (.const (.pointer none)))]) (
 .trim [0, 1, 2, 7] (
  .ops [D 10 (.mv (T 2)),
   D 11 (.nil (T 10)),
   D 12 (.fa 1 (T 11)),
   D 13 (.ld1 (T 12)),
   D 14 (.build [(.bool false), (.slice none 0 0)] [(1, 1, (T 13))]),
   D 15 (.box (T 14)),
   D 7 (.mv (T 15))]) (
 .trim [0, 7, 9] (
  .ops [D 17 (.alloc [(.bool false), (.slice none 0 0)]),
   D 18 (.mv (T 1)),
   D 19 (.mv (T 2)),
   D 20 (.alloc [(.bool false), (.slice none 0 0)]),
   D 21 (.call 120 [(T 17), (T 18), (T 19), (T 20)]),
   D 16 (.mv (T 21)),
   D 22 (.ext (T 16) 0),
   D 23 (.ext (T 16) 1),
   D 8 (.mv (T 22)),
   D 9 (.mv (T 23))]) (
 .trim [0, 9] (
  .seq (
   .ops [D 24 (.mv (T 9)),
    D 25 (.nil (T 24)),
    D 26 (.fa 0 (T 25)),
    D 27 (.ld1 (T 26))]) (
  .cond (T 27) (
   .seq (
    .ops [D 28 (.mv (T 0)),
     D 29 (.mv (T 9)),
     D 30 (.mv (T 7)),
     D 31 (.call 100 [(T 28), (T 29), (T 30)]),
     D 6 (.mv (T 31))]) (
   .ret)) (
   .skip))) (
 .seq (
  .ops [D 32 (.mv (T 0)),
   D 33 (.mv (T 9)),
   D 34 (.call 123 [(T 32), (T 33)]),
   D 6 (.mv (T 34))]) (
 .ret)))))⟩
theorem num_Int__Mod_ok : Ok Try.prog 101 num_Int__Mod := ⟨by kernel_rfl, by kernel_rfl⟩

/-- diorama/dioramaref02.Times -/
def dioramaref02_Times : AF := ⟨60, [.tmp 4],
 .seq (
  .ops [D 4 (.mv (.const (.slice none 0 0)))]) (
 .trim [0, 1, 5] (
  .ops [D 10 (.mv (T 0)),
   D 11 (.len (T 10)),
   D 12 (.mv (T 1)),
   D 13 (.len (T 12)),
   D 14 (.bin .add (T 11) (T 13)),
   D 15 (.mks [(.int .i64 0)] 8 (T 14) (T 14)),
   D 5 (.mv (T 15))]) (
 .trim [5] (
  .seq (
   .ops [D 6 (.mv (I 0))]) (
  .block 0 (
   .loop [0, 1, 5, 6] (
    .seq (
     .seq (
      .ops [D 16 (.mv (T 6)),
       D 17 (.mv (T 0)),
       D 18 (.len (T 17)),
       D 19 (.bin .lss (T 16) (T 18))]) (
     .cond (T 19) (
      .skip) (
      .exit 0))) (
    .trim [0, 1, 5, 6] (
     .block 1 (
      .seq (
       .ops [D 7 (.mv (I 0))]) (
      .seq (
       .ops [D 8 (.mv (I 0))]) (
      .block 2 (
       .loop [0, 1, 5, 6, 7, 8] (
        .trim [0, 1, 5, 6, 7, 8] (
         .trim [0, 1, 5, 6, 7, 8, 29] (
          .ops [D 22 (.mv (T 8)),
           D 23 (.mv (T 1)),
           D 24 (.len (T 23)),
           D 25 (.bin .lss (T 22) (T 24)),
           D 26 (.mv (T 25)),
           ⟨(some 27), some (26, false), .mv (T 7)⟩,
           ⟨(some 28), some (26, false), .bin .gtr (T 27) (I 0)⟩,
           D 29 (.pick (T 26) (.const (.bool true)) (T 28))]) (
         .cond (T 29) (
          .skip) (
          .exit 2))) (
        .trim [0, 1, 5, 6, 7, 8] (
         .block 3 (
          .trim [0, 1, 5, 6, 8, 9] (
           .draw [⟨0, 0, 0, D 32 (.mv (T 5))⟩,
            ⟨1, 0, 0, D 33 (.mv (T 6))⟩,
            ⟨2, 0, 0, D 34 (.mv (T 8))⟩,
            ⟨3, 0, 6, D 35 (.bin .add (T 33) (T 34))⟩,
            ⟨4, 0, 15, D 36 (.ia 1 (T 32) (T 35))⟩,
            ⟨5, 1, 31, D 37 (.ld1 (T 36))⟩,
            ⟨6, 0, 0, D 38 (.mv (T 0))⟩,
            ⟨7, 0, 0, D 39 (.mv (T 6))⟩,
            ⟨8, 0, 192, D 40 (.ia 1 (T 38) (T 39))⟩,
            ⟨9, 1, 448, D 41 (.ld1 (T 40))⟩,
            ⟨10, 0, 0, D 42 (.mv (T 1))⟩,
            ⟨11, 0, 0, D 43 (.mv (T 8))⟩,
            ⟨15, 0, 0, D 47 (.mv (T 7))⟩,
            ⟨12, 4, 3072, D 44 (.call 124 [(T 42), (T 43)])⟩,
            ⟨13, 0, 8128, D 45 (.bin .mul (T 41) (T 44))⟩,
            ⟨14, 0, 16383, D 46 (.bin .add (T 37) (T 45))⟩,
            ⟨16, 0, 65535, D 48 (.bin .add (T 46) (T 47))⟩,
            ⟨17, 0, 131071, D 9 (.mv (T 48))⟩]) (
          .trim [0, 1, 5, 6, 8, 9] (
           .ops [D 49 (.mv (T 5)),
            D 50 (.mv (T 6)),
            D 51 (.mv (T 8)),
            D 52 (.bin .add (T 50) (T 51)),
            D 53 (.mv (T 9)),
            D 54 (.bin .rem (T 53) (I 1000000000)),
            D 55 (.ia 1 (T 49) (T 52)),
            E (.st 1 (T 55) (T 54))]) (
          .ops [D 56 (.mv (T 9)),
           D 57 (.bin .quo (T 56) (I 1000000000)),
           D 7 (.mv (T 57))])))) (
        .ops [D 30 (.mv (T 8)),
         D 31 (.bin .add (T 30) (I 1)),
         D 8 (.mv (T 31))])))))))) (
    .ops [D 20 (.mv (T 6)),
     D 21 (.bin .add (T 20) (I 1)),
     D 6 (.mv (T 21))])))))) (
 .seq (
  .ops [D 58 (.mv (T 5)),
   D 59 (.call 125 [(T 58)]),
   D 4 (.mv (T 59))]) (
 .ret))))⟩
theorem dioramaref02_Times_ok : Ok Try.prog 102 dioramaref02_Times := ⟨by kernel_rfl, by kernel_rfl⟩

/-- diorama/dioramaref02.Compare -/
def dioramaref02_Compare : AF := ⟨41, [.tmp 4],
 .seq (
  .ops [D 4 (.mv (I 0))]) (
 .trim [0, 1] (
  .seq (
   .ops [D 6 (.mv (T 0)),
    D 7 (.len (T 6)),
    D 8 (.mv (T 1)),
    D 9 (.len (T 8)),
    D 10 (.bin .neq (T 7) (T 9))]) (
  .cond (T 10) (
   .trim [] (
    .seq (
     .ops [D 11 (.mv (T 0)),
      D 12 (.len (T 11)),
      D 13 (.mv (T 1)),
      D 14 (.len (T 13)),
      D 15 (.bin .lss (T 12) (T 14))]) (
    .cond (T 15) (
     .seq (
      .ops [D 4 (.mv (I (-1)))]) (
     .ret)) (
     .skip))) (
   .seq (
    .ops [D 4 (.mv (I 1))]) (
   .ret))) (
   .skip))) (
 .trim [] (
  .seq (
   .ops [D 16 (.mv (T 0)),
    D 17 (.len (T 16)),
    D 18 (.bin .sub (T 17) (I 1)),
    D 5 (.mv (T 18))]) (
  .block 0 (
   .loop [0, 1, 5] (
    .seq (
     .seq (
      .ops [D 19 (.mv (T 5)),
       D 20 (.bin .geq (T 19) (I 0))]) (
     .cond (T 20) (
      .skip) (
      .exit 0))) (
    .trim [0, 1, 5] (
     .block 1 (
      .trim [0, 1, 5] (
       .trim [0, 1, 5, 31] (
        .draw [⟨0, 0, 0, D 23 (.mv (T 0))⟩,
         ⟨1, 0, 0, D 24 (.mv (T 5))⟩,
         ⟨2, 0, 3, D 25 (.ia 1 (T 23) (T 24))⟩,
         ⟨3, 1, 7, D 26 (.ld1 (T 25))⟩,
         ⟨4, 0, 0, D 27 (.mv (T 1))⟩,
         ⟨5, 0, 0, D 28 (.mv (T 5))⟩,
         ⟨6, 0, 48, D 29 (.ia 1 (T 27) (T 28))⟩,
         ⟨7, 1, 112, D 30 (.ld1 (T 29))⟩,
         ⟨8, 0, 255, D 31 (.bin .lss (T 26) (T 30))⟩]) (
       .cond (T 31) (
        .seq (
         .ops [D 4 (.mv (I (-1)))]) (
        .ret)) (
        .skip))) (
      .trim [0, 1, 5, 40] (
       .draw [⟨0, 0, 0, D 32 (.mv (T 0))⟩,
        ⟨1, 0, 0, D 33 (.mv (T 5))⟩,
        ⟨2, 0, 3, D 34 (.ia 1 (T 32) (T 33))⟩,
        ⟨3, 1, 7, D 35 (.ld1 (T 34))⟩,
        ⟨4, 0, 0, D 36 (.mv (T 1))⟩,
        ⟨5, 0, 0, D 37 (.mv (T 5))⟩,
        ⟨6, 0, 48, D 38 (.ia 1 (T 36) (T 37))⟩,
        ⟨7, 1, 112, D 39 (.ld1 (T 38))⟩,
        ⟨8, 0, 255, D 40 (.bin .gtr (T 35) (T 39))⟩]) (
      .cond (T 40) (
       .seq (
        .ops [D 4 (.mv (I 1))]) (
       .ret)) (
       .skip))))) (
    .ops [D 21 (.mv (T 5)),
     D 22 (.bin .sub (T 21) (I 1)),
     D 5 (.mv (T 22))])))))) (
 .seq (
  .ops [D 4 (.mv (I 0))]) (
 .ret))))⟩
theorem dioramaref02_Compare_ok : Ok Try.prog 104 dioramaref02_Compare := ⟨by kernel_rfl, by kernel_rfl⟩

/-- diorama/dioramaref02.Minus -/
def dioramaref02_Minus : AF := ⟨34, [.tmp 4],
 .seq (
  .ops [D 4 (.mv (.const (.slice none 0 0)))]) (
 .seq (
  .ops [D 5 (.mv (.const (.slice none 0 0)))]) (
 .seq (
  .ops [D 6 (.mv (I 0))]) (
 .trim [5] (
  .seq (
   .ops [D 7 (.mv (I 0))]) (
  .block 0 (
   .loop [0, 1, 5, 6, 7] (
    .seq (
     .seq (
      .ops [D 9 (.mv (T 7)),
       D 10 (.mv (T 0)),
       D 11 (.len (T 10)),
       D 12 (.bin .lss (T 9) (T 11))]) (
     .cond (T 12) (
      .skip) (
      .exit 0))) (
    .trim [0, 1, 5, 6, 7] (
     .block 1 (
      .trim [0, 1, 5, 7, 8] (
       .ops [D 15 (.mv (T 0)),
        D 16 (.mv (T 7)),
        D 17 (.call 124 [(T 15), (T 16)]),
        D 18 (.mv (T 1)),
        D 19 (.mv (T 7)),
        D 20 (.call 124 [(T 18), (T 19)]),
        D 21 (.bin .sub (T 17) (T 20)),
        D 22 (.mv (T 6)),
        D 23 (.bin .sub (T 21) (T 22)),
        D 8 (.mv (T 23))]) (
      .seq (
       .ops [D 6 (.mv (I 0))]) (
      .seq (
       .seq (
        .ops [D 24 (.mv (T 8)),
         D 25 (.bin .lss (T 24) (I 0))]) (
       .cond (T 25) (
        .seq (
         .ops [D 26 (.mv (T 8)),
          D 27 (.bin .add (T 26) (I 1000000000)),
          D 8 (.mv (T 27))]) (
        .ops [D 6 (.mv (I 1))])) (
        .skip))) (
      .ops [D 28 (.mv (T 5)),
       D 29 (.mv (T 8)),
       D 30 (.bslice [(.int .i64 0)] 1 [(0, 1, (T 29))]),
       D 31 (.app 1 8 (T 28) (T 30)),
       D 5 (.mv (T 31))]))))) (
    .ops [D 13 (.mv (T 7)),
     D 14 (.bin .add (T 13) (I 1)),
     D 7 (.mv (T 14))])))))) (
 .seq (
  .ops [D 32 (.mv (T 5)),
   D 33 (.call 125 [(T 32)]),
   D 4 (.mv (T 33))]) (
 .ret)))))⟩
theorem dioramaref02_Minus_ok : Ok Try.prog 105 dioramaref02_Minus := ⟨by kernel_rfl, by kernel_rfl⟩

/-- (*diorama/num.Int).Mul -/
def num_Int__Mul : AF := ⟨27, [.tmp 6],
 .seq (
  .ops [D 6 (.mv (.const (.pointer none)))]) (
 .trim [6] (
  .draw [⟨0, 0, 0, D 7 (.mv (T 0))⟩,
   ⟨1, 0, 0, D 8 (.mv (T 1))⟩,
   ⟨2, 0, 2, D 9 (.nil (T 8))⟩,
   ⟨3, 0, 6, D 10 (.fa 0 (T 9))⟩,
   ⟨4, 1, 14, D 11 (.ld1 (T 10))⟩,
   ⟨5, 0, 0, D 12 (.mv (T 2))⟩,
   ⟨6, 0, 32, D 13 (.nil (T 12))⟩,
   ⟨7, 0, 96, D 14 (.fa 0 (T 13))⟩,
   ⟨8, 1, 224, D 15 (.ld1 (T 14))⟩,
   ⟨9, 0, 510, D 16 (.beq true (T 11) (T 15))⟩,
   ⟨10, 0, 0, D 17 (.mv (T 1))⟩,
   ⟨11, 0, 1024, D 18 (.nil (T 17))⟩,
   ⟨12, 0, 3072, D 19 (.fa 1 (T 18))⟩,
   ⟨13, 1, 7168, D 20 (.ld1 (T 19))⟩,
   ⟨14, 0, 0, D 21 (.mv (T 2))⟩,
   ⟨15, 0, 16384, D 22 (.nil (T 21))⟩,
   ⟨16, 0, 49152, D 23 (.fa 1 (T 22))⟩,
   ⟨17, 1, 114688, D 24 (.ld1 (T 23))⟩,
   ⟨18, 4, 261120, D 25 (.call 126 [(T 20), (T 24)])⟩,
   ⟨19, 4, 524287, D 26 (.call 115 [(T 7), (T 16), (T 25)])⟩,
   ⟨20, 0, 1048575, D 6 (.mv (T 26))⟩]) (
 .ret))⟩
theorem num_Int__Mul_ok : Ok Try.prog 108 num_Int__Mul := ⟨by kernel_rfl, by kernel_rfl⟩

/-- diorama/model.checkChapters -/
def model_checkChapters : AF := ⟨41, [.tmp 2],
 .seq (
  .ops [D 1 (.box (T 0)),
   D 2 (.mv (I 0))]) (
 .seq (
  .ops [D 8 (.mkm none),
   D 3 (.mv (T 8))]) (
 .seq (
  .ops [D 9 (.mkm none),
   D 4 (.mv (T 9))]) (
 .trim [] (
  .seq (
   .ops [D 10 (.fa 3 (T 1)),
    D 11 (.ld1 (T 10)),
    D 12 (.len (T 11)),
    D 13 (.mv (I 0))]) (
  .block 0 (
   .loop [3, 4, 11, 12, 13] (
    .seq (
     .ops [D 14 (.bin .lss (T 13) (T 12))]) (
    .seq (
     .cond (T 14) (
      .skip) (
      .exit 0)) (
    .trim [3, 4, 11, 12, 13] (
     .block 1 (
      .seq (
       .ops [D 15 (.ia 3 (T 11) (T 13)),
        D 16 (.ldN 3 (T 15)),
        D 6 (.alloc [(.int .i64 0), (.bool false), (.slice none 0 0)]),
        E (.st 3 (T 6) (T 16))]) (
      .seq (
       .ops [D 17 (.mv (T 3)),
        D 18 (.fa 1 (T 6)),
        D 19 (.ld1 (T 18)),
        D 20 (.build [(.map none), (.bool false), (.int .i64 0)] [(0, 1, (T 17)), (1, 1, (T 19))]),
        D 7 (.alloc [(.map none), (.bool false), (.int .i64 0)]),
        E (.st 3 (T 7) (T 20))]) (
      .trim [3, 4, 6, 11, 12, 13] (
       .trim [3, 4, 6, 11, 12, 13, 36] (
        .ops [D 21 (.fa 0 (T 6)),
         D 22 (.ld1 (T 21)),
         D 23 (.call 45 [(T 22), (I 1), (I 1000)]),
         D 24 (.un .not (T 23)),
         D 25 (.mv (T 24)),
         ⟨(some 26), some (25, false), .mv (T 4)⟩,
         ⟨(some 27), some (25, false), .fa 0 (T 6)⟩,
         ⟨(some 28), some (25, false), .ld1 (T 27)⟩,
         ⟨(some 29), some (25, false), .lkp false [1] false [(.bool false)] false (T 26) (T 28)⟩,
         D 30 (.pick (T 25) (.const (.bool true)) (T 29)),
         D 31 (.mv (T 30)),
         ⟨(some 32), some (31, false), .fa 2 (T 6)⟩,
         ⟨(some 33), some (31, false), .ld1 (T 32)⟩,
         ⟨(some 34), some (31, false), .call 127 [(T 7), (T 33), (I 0), (I 1099511627776), (I 1)]⟩,
         ⟨(some 35), some (31, false), .un .not (T 34)⟩,
         D 36 (.pick (T 31) (.const (.bool true)) (T 35))]) (
       .cond (T 36) (
        .seq (
         .ops [D 2 (.mv (I 34))]) (
        .ret)) (
        .skip))) (
      .ops [D 37 (.mv (T 4)),
       D 38 (.fa 0 (T 6)),
       D 39 (.ld1 (T 38)),
       E (.upd false [1] (T 37) (T 39) (.const (.bool true)))]))))) (
    .ops [D 40 (.bin .add (T 13) (I 1)),
     D 13 (.mv (T 40))]))))))) (
 .seq (
  .ops [D 2 (.mv (I 0))]) (
 .ret)))))⟩
theorem model_checkChapters_ok : Ok Try.prog 109 model_checkChapters := ⟨by kernel_rfl, by kernel_rfl⟩

/-- diorama/model.checkRest -/
def model_checkRest : AF := ⟨115, [.tmp 2],
 .seq (
  .ops [D 1 (.box (T 0)),
   D 2 (.mv (I 0))]) (
 .seq (
  .ops [D 13 (.mkm none),
   D 14 (.build [(.int .i64 0), (.int .i64 0)] [(0, 1, (I 0)), (1, 1, (I 0))]),
   E (.upd true [1, 1] (T 13) (T 14) (.const (.bool true))),
   D 15 (.mv (T 13)),
   D 3 (.alloc [(.map none)]),
   E (.st 1 (T 3) (T 15))]) (
 .trim [1, 3] (
  .seq (
   .ops [D 16 (.fa 5 (T 1)),
    D 17 (.ld1 (T 16)),
    D 18 (.len (T 17)),
    D 19 (.mv (I 0))]) (
  .block 0 (
   .loop [1, 3, 17, 18, 19] (
    .seq (
     .ops [D 20 (.bin .lss (T 19) (T 18))]) (
    .seq (
     .cond (T 20) (
      .skip) (
      .exit 0)) (
    .trim [1, 3, 17, 18, 19] (
     .block 1 (
      .seq (
       .ops [D 21 (.ia 4 (T 17) (T 19)),
        D 22 (.ldN 4 (T 21)),
        D 5 (.alloc [(.int .i64 0), (.string ⟨#[]⟩), (.string ⟨#[]⟩), (.slice none 0 0)]),
        E (.st 4 (T 5) (T 22))]) (
      .trim [1, 3, 5, 17, 18, 19] (
       .trim [1, 3, 5, 17, 18, 19, 51] (
        .ops [D 23 (.fa 0 (T 5)),
         D 24 (.ld1 (T 23)),
         D 25 (.call 45 [(T 24), (I 1), (I 1000)]),
         D 26 (.un .not (T 25)),
         D 27 (.mv (T 26)),
         ⟨(some 28), some (27, false), .ld1 (T 3)⟩,
         ⟨(some 29), some (27, false), .fa 0 (T 5)⟩,
         ⟨(some 30), some (27, false), .ld1 (T 29)⟩,
         ⟨(some 31), some (27, false), .build [(.int .i64 0), (.int .i64 0)] [(0, 1, (I 3)), (1, 1, (T 30))]⟩,
         ⟨(some 32), some (27, false), .lkp true [1, 1] false [(.bool false)] false (T 28) (T 31)⟩,
         D 33 (.pick (T 27) (.const (.bool true)) (T 32)),
         D 34 (.mv (T 33)),
         ⟨(some 35), some (34, false), .fa 1 (T 5)⟩,
         ⟨(some 36), some (34, false), .ld1 (T 35)⟩,
         ⟨(some 37), some (34, false), .call 47 [(T 36)]⟩,
         ⟨(some 38), some (34, false), .un .not (T 37)⟩,
         D 39 (.pick (T 34) (.const (.bool true)) (T 38)),
         D 40 (.mv (T 39)),
         ⟨(some 41), some (40, false), .fa 2 (T 5)⟩,
         ⟨(some 42), some (40, false), .ld1 (T 41)⟩,
         ⟨(some 43), some (40, false), .call 47 [(T 42)]⟩,
         ⟨(some 44), some (40, false), .un .not (T 43)⟩,
         D 45 (.pick (T 40) (.const (.bool true)) (T 44)),
         D 46 (.mv (T 45)),
         ⟨(some 47), some (46, false), .fa 3 (T 5)⟩,
         ⟨(some 48), some (46, false), .ld1 (T 47)⟩,
         ⟨(some 49), some (46, false), .len (T 48)⟩,
         ⟨(some 50), some (46, false), .bin .gtr (T 49) (I 65536)⟩,
         D 51 (.pick (T 46) (.const (.bool true)) (T 50))]) (
       .cond (T 51) (
        .seq (
         .ops [D 2 (.mv (I 4))]) (
        .ret)) (
        .skip))) (
      .ops [D 52 (.ld1 (T 3)),
       D 53 (.fa 0 (T 5)),
       D 54 (.ld1 (T 53)),
       D 55 (.build [(.int .i64 0), (.int .i64 0)] [(0, 1, (I 3)), (1, 1, (T 54))]),
       E (.upd true [1, 1] (T 52) (T 55) (.const (.bool true)))])))) (
    .ops [D 56 (.bin .add (T 19) (I 1)),
     D 19 (.mv (T 56))]))))))) (
 .trim [1, 3] (
  .seq (
   .ops [D 57 (.fa 2 (T 1)),
    D 58 (.ld1 (T 57)),
    D 59 (.len (T 58)),
    D 60 (.mv (I 0))]) (
  .block 2 (
   .loop [1, 3, 58, 59, 60] (
    .seq (
     .ops [D 61 (.bin .lss (T 60) (T 59))]) (
    .seq (
     .cond (T 61) (
      .skip) (
      .exit 2)) (
    .trim [1, 3, 58, 59, 60] (
     .block 3 (
      .seq (
       .ops [D 62 (.ia 11 (T 58) (T 60)),
        D 63 (.ldN 11 (T 62)),
        D 7 (.alloc [(.int .i64 0), (.int .i64 0), (.string ⟨#[]⟩), (.int .i64 0), (.slice none 0 0), (.string ⟨#[]⟩), (.string ⟨#[]⟩), (.int .i64 0), (.slice none 0 0), (.slice none 0 0), (.slice none 0 0)]),
        E (.st 11 (T 7) (T 63))]) (
      .ops [D 64 (.ld1 (T 3)),
       D 65 (.fa 0 (T 7)),
       D 66 (.ld1 (T 65)),
       D 67 (.build [(.int .i64 0), (.int .i64 0)] [(0, 1, (I 1)), (1, 1, (T 66))]),
       E (.upd true [1, 1] (T 64) (T 67) (.const (.bool true)))]))) (
    .ops [D 68 (.bin .add (T 60) (I 1)),
     D 60 (.mv (T 68))]))))))) (
 .seq (
  .ops [D 8 (.alloc [.nilFunc])]) (
 .seq (
  .ops [D 69 (.mkf 128 [] [(T 3), (T 8)]),
   E (.st 1 (T 8) (T 69))]) (
 .trim [1, 3] (
  .seq (
   .ops [D 70 (.fa 3 (T 1)),
    D 71 (.ld1 (T 70)),
    D 72 (.len (T 71)),
    D 73 (.mv (I 0))]) (
  .block 4 (
   .loop [1, 3, 8, 71, 72, 73] (
    .seq (
     .ops [D 74 (.bin .lss (T 73) (T 72))]) (
    .seq (
     .cond (T 74) (
      .skip) (
      .exit 4)) (
    .trim [1, 3, 8, 71, 72, 73] (
     .block 5 (
      .seq (
       .ops [D 75 (.ia 3 (T 71) (T 73)),
        D 76 (.ldN 3 (T 75)),
        D 10 (.alloc [(.int .i64 0), (.bool false), (.slice none 0 0)]),
        E (.st 3 (T 10) (T 76))]) (
      .ops [D 77 (.ld1 (T 8)),
       D 78 (.fa 2 (T 10)),
       D 79 (.ld1 (T 78)),
       D 80 (.callv (T 77) [(T 79)])]))) (
    .ops [D 81 (.bin .add (T 73) (I 1)),
     D 73 (.mv (T 81))]))))))) (
 .trim [] (
  .seq (
   .ops [D 82 (.fa 4 (T 1)),
    D 83 (.ld1 (T 82)),
    D 84 (.len (T 83)),
    D 85 (.mv (I 0))]) (
  .block 6 (
   .loop [3, 83, 84, 85] (
    .seq (
     .ops [D 86 (.bin .lss (T 85) (T 84))]) (
    .seq (
     .cond (T 86) (
      .skip) (
      .exit 6)) (
    .trim [3, 83, 84, 85] (
     .block 7 (
      .seq (
       .ops [D 87 (.ia 4 (T 83) (T 85)),
        D 88 (.ldN 4 (T 87)),
        D 12 (.alloc [(.int .i64 0), (.int .i64 0), (.string ⟨#[]⟩), (.string ⟨#[]⟩)]),
        E (.st 4 (T 12) (T 88))]) (
      .trim [3, 83, 84, 85, 113] (
       .ops [D 89 (.fa 2 (T 12)),
        D 90 (.ld1 (T 89)),
        D 91 (.bin .eql (T 90) (.const (.string ⟨#[]⟩))),
        D 92 (.mv (T 91)),
        ⟨(some 93), some (92, false), .fa 2 (T 12)⟩,
        ⟨(some 94), some (92, false), .ld1 (T 93)⟩,
        ⟨(some 95), some (92, false), .call 47 [(T 94)]⟩,
        ⟨(some 96), some (92, false), .un .not (T 95)⟩,
        D 97 (.pick (T 92) (.const (.bool true)) (T 96)),
        D 98 (.mv (T 97)),
        ⟨(some 99), some (98, false), .fa 3 (T 12)⟩,
        ⟨(some 100), some (98, false), .ld1 (T 99)⟩,
        ⟨(some 101), some (98, false), .call 47 [(T 100)]⟩,
        ⟨(some 102), some (98, false), .un .not (T 101)⟩,
        D 103 (.pick (T 98) (.const (.bool true)) (T 102)),
        D 104 (.mv (T 103)),
        ⟨(some 105), some (104, false), .ld1 (T 3)⟩,
        ⟨(some 106), some (104, false), .fa 0 (T 12)⟩,
        ⟨(some 107), some (104, false), .ld1 (T 106)⟩,
        ⟨(some 108), some (104, false), .fa 1 (T 12)⟩,
        ⟨(some 109), some (104, false), .ld1 (T 108)⟩,
        ⟨(some 110), some (104, false), .build [(.int .i64 0), (.int .i64 0)] [(0, 1, (T 107)), (1, 1, (T 109))]⟩,
        ⟨(some 111), some (104, false), .lkp true [1, 1] false [(.bool false)] false (T 105) (T 110)⟩,
        ⟨(some 112), some (104, false), .un .not (T 111)⟩,
        D 113 (.pick (T 104) (.const (.bool true)) (T 112))]) (
      .cond (T 113) (
       .seq (
        .ops [D 2 (.mv (I 4))]) (
       .ret)) (
       .skip))))) (
    .ops [D 114 (.bin .add (T 85) (I 1)),
     D 85 (.mv (T 114))]))))))) (
 .seq (
  .ops [D 2 (.mv (I 0))]) (
 .ret)))))))))⟩
theorem model_checkRest_ok : Ok Try.prog 110 model_checkRest := ⟨by kernel_rfl, by kernel_rfl⟩

/-- diorama/model.Bytes -/
def model_Bytes : AF := ⟨45, [.tmp 2],
 .seq (
  .ops [D 1 (.box (T 0)),
   D 2 (.mv (I 0))]) (
 .seq (
  .ops [D 3 (.mv (I 0))]) (
 .trim [1, 3] (
  .seq (
   .ops [D 10 (.fa 2 (T 1)),
    D 11 (.ld1 (T 10)),
    D 12 (.len (T 11)),
    D 13 (.mv (I 0))]) (
  .block 0 (
   .loop [1, 3, 11, 12, 13] (
    .seq (
     .ops [D 14 (.bin .lss (T 13) (T 12))]) (
    .seq (
     .cond (T 14) (
      .skip) (
      .exit 0)) (
    .trim [1, 3, 11, 12, 13] (
     .block 1 (
      .seq (
       .ops [D 15 (.ia 11 (T 11) (T 13)),
        D 16 (.ldN 11 (T 15)),
        D 5 (.alloc [(.int .i64 0), (.int .i64 0), (.string ⟨#[]⟩), (.int .i64 0), (.slice none 0 0), (.string ⟨#[]⟩), (.string ⟨#[]⟩), (.int .i64 0), (.slice none 0 0), (.slice none 0 0), (.slice none 0 0)]),
        E (.st 11 (T 5) (T 16))]) (
      .seq (
       .ops [D 17 (.fa 10 (T 5)),
        D 18 (.ld1 (T 17)),
        D 19 (.len (T 18)),
        D 20 (.mv (I 0))]) (
      .block 2 (
       .loop [1, 3, 11, 12, 13, 18, 19, 20] (
        .seq (
         .ops [D 21 (.bin .lss (T 20) (T 19))]) (
        .seq (
         .cond (T 21) (
          .skip) (
          .exit 2)) (
        .trim [1, 3, 11, 12, 13, 18, 19, 20] (
         .block 3 (
          .seq (
           .ops [D 22 (.ia 6 (T 18) (T 20)),
            D 23 (.ldN 6 (T 22)),
            D 7 (.alloc [(.int .i64 0), (.int .i64 0), (.int .i64 0), (.bool false), (.slice none 0 0), (.slice none 0 0)]),
            E (.st 6 (T 7) (T 23))]) (
          .ops [D 24 (.mv (T 3)),
           D 25 (.fa 5 (T 7)),
           D 26 (.ld1 (T 25)),
           D 27 (.len (T 26)),
           D 28 (.bin .add (T 24) (T 27)),
           D 3 (.mv (T 28))]))) (
        .ops [D 29 (.bin .add (T 20) (I 1)),
         D 20 (.mv (T 29))]))))))))) (
    .ops [D 30 (.bin .add (T 13) (I 1)),
     D 13 (.mv (T 30))]))))))) (
 .trim [3] (
  .seq (
   .ops [D 31 (.fa 5 (T 1)),
    D 32 (.ld1 (T 31)),
    D 33 (.len (T 32)),
    D 34 (.mv (I 0))]) (
  .block 4 (
   .loop [3, 32, 33, 34] (
    .seq (
     .ops [D 35 (.bin .lss (T 34) (T 33))]) (
    .seq (
     .cond (T 35) (
      .skip) (
      .exit 4)) (
    .trim [3, 32, 33, 34] (
     .block 5 (
      .seq (
       .ops [D 36 (.ia 4 (T 32) (T 34)),
        D 37 (.ldN 4 (T 36)),
        D 9 (.alloc [(.int .i64 0), (.string ⟨#[]⟩), (.string ⟨#[]⟩), (.slice none 0 0)]),
        E (.st 4 (T 9) (T 37))]) (
      .ops [D 38 (.mv (T 3)),
       D 39 (.fa 3 (T 9)),
       D 40 (.ld1 (T 39)),
       D 41 (.len (T 40)),
       D 42 (.bin .add (T 38) (T 41)),
       D 3 (.mv (T 42))]))) (
    .ops [D 43 (.bin .add (T 34) (I 1)),
     D 34 (.mv (T 43))]))))))) (
 .seq (
  .ops [D 44 (.mv (T 3)),
   D 2 (.mv (T 44))]) (
 .ret)))))⟩
theorem model_Bytes_ok : Ok Try.prog 111 model_Bytes := ⟨by kernel_rfl, by kernel_rfl⟩

/-- (*diorama/num.Rat).Quo -/
def num_Rat__Quo : AF := ⟨21, [.tmp 6],
 .seq (
  .ops [D 6 (.mv (.const (.pointer none)))]) (
 .trim [6] (
  .draw [⟨0, 0, 0, D 7 (.mv (T 0))⟩,
   ⟨1, 0, 0, D 8 (.mv (T 1))⟩,
   ⟨2, 0, 2, D 9 (.nil (T 8))⟩,
   ⟨3, 0, 6, D 10 (.fa 0 (T 9))⟩,
   ⟨4, 0, 0, D 11 (.mv (T 2))⟩,
   ⟨7, 0, 0, D 14 (.mv (T 1))⟩,
   ⟨9, 0, 0, D 16 (.mv (T 2))⟩,
   ⟨10, 0, 512, D 17 (.nil (T 16))⟩,
   ⟨11, 0, 1536, D 18 (.fa 0 (T 17))⟩,
   ⟨5, 4, 16, D 12 (.call 93 [(T 11)])⟩,
   ⟨6, 4, 62, D 13 (.call 95 [(T 10), (T 12)])⟩,
   ⟨8, 4, 254, D 15 (.call 93 [(T 14)])⟩,
   ⟨12, 4, 4094, D 19 (.call 95 [(T 15), (T 18)])⟩,
   ⟨13, 4, 8191, D 20 (.call 94 [(T 7), (T 13), (T 19)])⟩,
   ⟨14, 0, 16383, D 6 (.mv (T 20))⟩]) (
 .ret))⟩
theorem num_Rat__Quo_ok : Ok Try.prog 112 num_Rat__Quo := ⟨by kernel_rfl, by kernel_rfl⟩

/-- slices.IndexFunc[[]diorama/api.Sample,diorama/api.Sample] -/
def slices_IndexFunc___api_Sample_api_Sample_ : AF := ⟨19, [.tmp 4],
 .seq (
  .ops [D 4 (.mv (I 0))]) (
 .trim [] (
  .seq (
   .ops [D 6 (.mv (T 0)),
    D 7 (.len (T 6)),
    D 8 (.mv (I 0))]) (
  .block 0 (
   .loop [0, 1, 7, 8] (
    .seq (
     .ops [D 9 (.bin .lss (T 8) (T 7))]) (
    .seq (
     .cond (T 9) (
      .skip) (
      .exit 0)) (
    .trim [0, 1, 7, 8] (
     .block 1 (
      .seq (
       .ops [D 10 (.mv (T 8)),
        D 5 (.mv (T 10))]) (
      .trim [0, 1, 5, 7, 8, 16] (
       .ops [D 11 (.mv (T 1)),
        D 12 (.mv (T 0)),
        D 13 (.mv (T 5)),
        D 14 (.ia 6 (T 12) (T 13)),
        D 15 (.ldN 6 (T 14)),
        D 16 (.callv (T 11) [(T 15)])]) (
      .cond (T 16) (
       .seq (
        .ops [D 17 (.mv (T 5)),
         D 4 (.mv (T 17))]) (
       .ret)) (
       .skip))))) (
    .ops [D 18 (.bin .add (T 8) (I 1)),
     D 8 (.mv (T 18))]))))))) (
 .seq (
  .ops [D 4 (.mv (I (-1)))]) (
 .ret)))⟩
theorem slices_IndexFunc___api_Sample_api_Sample__ok : Ok Try.prog 113 slices_IndexFunc___api_Sample_api_Sample_ := ⟨by kernel_rfl, by kernel_rfl⟩

/-- (*diorama/num.Int).Sign -/
def num_Int__Sign : AF := ⟨15, [.tmp 2],
 .seq (
  .ops [D 2 (.mv (I 0))]) (
 .trim [] (
  .block 0 (
   .trim [0, 3] (
    .ops [D 4 (.mv (T 0)),
     D 5 (.nil (T 4)),
     D 6 (.fa 1 (T 5)),
     D 7 (.ld1 (T 6)),
     D 8 (.len (T 7)),
     D 9 (.bin .eql (T 8) (I 0)),
     D 3 (.mv (T 9))]) (
   .cond (T 3) (
    .seq (
     .ops [D 2 (.mv (I 0))]) (
    .ret)) (
    .seq (
     .ops [D 11 (.mv (T 0)),
      D 12 (.nil (T 11)),
      D 13 (.fa 0 (T 12)),
      D 14 (.ld1 (T 13)),
      D 10 (.mv (T 14))]) (
    .cond (T 10) (
     .seq (
      .ops [D 2 (.mv (I (-1)))]) (
     .ret)) (
     .skip)))))) (
 .seq (
  .ops [D 2 (.mv (I 1))]) (
 .ret)))⟩
theorem num_Int__Sign_ok : Ok Try.prog 114 num_Int__Sign := ⟨by kernel_rfl, by kernel_rfl⟩

/-- (*diorama/num.Int).set -/
def num_Int__set : AF := ⟨21, [.tmp 6],
 .seq (
  .ops [D 6 (.mv (.const (.pointer none)))]) (
 .trim [0] (
  .ops [D 7 (.mv (T 0)),
   D 8 (.mv (T 0)),
   D 9 (.mv (T 1)),
   D 10 (.mv (T 9)),
   ⟨(some 11), some (10, true), .mv (T 2)⟩,
   ⟨(some 12), some (10, true), .len (T 11)⟩,
   ⟨(some 13), some (10, true), .bin .gtr (T 12) (I 0)⟩,
   D 14 (.pick (T 10) (T 13) (.const (.bool false))),
   D 15 (.mv (T 2)),
   D 16 (.nil (T 7)),
   D 17 (.fa 0 (T 16)),
   E (.st 1 (T 17) (T 14)),
   D 18 (.nil (T 8)),
   D 19 (.fa 1 (T 18)),
   E (.st 1 (T 19) (T 15))]) (
 .seq (
  .ops [D 20 (.mv (T 0)),
   D 6 (.mv (T 20))]) (
 .ret)))⟩
theorem num_Int__set_ok : Ok Try.prog 115 num_Int__set := ⟨by kernel_rfl, by kernel_rfl⟩

/-- diorama/num.magOf -/
def num_magOf : AF := ⟨10, [.tmp 2],
 .seq (
  .ops [D 2 (.mv (.const (.slice none 0 0)))]) (
 .trim [2] (
  .ops [D 3 (.mv (T 0)),
   D 4 (.cvi .u32 (T 3)),
   D 5 (.mv (T 0)),
   D 6 (.shrc (T 5) 32),
   D 7 (.cvi .u32 (T 6)),
   D 8 (.bslice [(.int .u32 0), (.int .u32 0)] 2 [(0, 1, (T 4)), (1, 1, (T 7))]),
   D 9 (.call 129 [(T 8)]),
   D 2 (.mv (T 9))]) (
 .ret))⟩
theorem num_magOf_ok : Ok Try.prog 116 num_magOf := ⟨by kernel_rfl, by kernel_rfl⟩

/-- slices.Clone[[]uint32,uint32] -/
def slices_Clone___uint32_uint32_ : AF := ⟨8, [.tmp 2],
 .seq (
  .ops [D 2 (.mv (.const (.slice none 0 0)))]) (
 .seq (
  .seq (
   .ops [D 3 (.mv (T 0)),
    D 4 (.nileq false 1 (T 3) (.const (.slice none 0 0)))]) (
  .cond (T 4) (
   .seq (
    .ops [D 2 (.mv (.const (.slice none 0 0)))]) (
   .ret)) (
   .skip))) (
 .seq (
  .ops [D 5 (.bslice [] 0 []),
   D 6 (.mv (T 0)),
   D 7 (.app 1 4 (T 5) (T 6)),
   D 2 (.mv (T 7))]) (
 .ret)))⟩
theorem slices_Clone___uint32_uint32__ok : Ok Try.prog 117 slices_Clone___uint32_uint32_ := ⟨by kernel_rfl, by kernel_rfl⟩

/-- diorama/num.divMag -/
def num_divMag : AF := ⟨135, [.tmp 4, .tmp 5],
 .seq (
  .ops [D 4 (.mv (.const (.slice none 0 0))),
   D 5 (.mv (.const (.slice none 0 0)))]) (
 .trim [0, 1] (
  .seq (
   .ops [D 14 (.mv (T 0)),
    D 15 (.mv (T 1)),
    D 16 (.call 92 [(T 14), (T 15)]),
    D 17 (.bin .lss (T 16) (I 0))]) (
  .cond (T 17) (
   .seq (
    .ops [D 18 (.mv (T 0)),
     D 19 (.call 117 [(T 18)]),
     D 4 (.mv (.const (.slice none 0 0))),
     D 5 (.mv (T 19))]) (
   .ret)) (
   .skip))) (
 .trim [0, 1] (
  .seq (
   .ops [D 20 (.mv (T 1)),
    D 21 (.len (T 20)),
    D 22 (.bin .eql (T 21) (I 1))]) (
  .cond (T 22) (
   .seq (
    .ops [D 23 (.mv (T 0)),
     D 24 (.len (T 23)),
     D 25 (.mks [(.int .u32 0)] 4 (T 24) (T 24)),
     D 4 (.mv (T 25))]) (
   .seq (
    .ops [D 6 (.mv (.const (.int .u64 0)))]) (
   .trim [4, 6] (
    .seq (
     .ops [D 26 (.mv (T 0)),
      D 27 (.len (T 26)),
      D 28 (.bin .sub (T 27) (I 1)),
      D 7 (.mv (T 28))]) (
    .block 0 (
     .loop [0, 1, 4, 6, 7] (
      .seq (
       .seq (
        .ops [D 29 (.mv (T 7)),
         D 30 (.bin .geq (T 29) (I 0))]) (
       .cond (T 30) (
        .skip) (
        .exit 0))) (
      .trim [0, 1, 4, 6, 7] (
       .block 1 (
        .trim [0, 1, 4, 6, 7] (
         .ops [D 33 (.mv (T 6)),
          D 34 (.shlc (T 33) 32),
          D 35 (.mv (T 0)),
          D 36 (.mv (T 7)),
          D 37 (.ia 1 (T 35) (T 36)),
          D 38 (.ld1 (T 37)),
          D 39 (.cvi .u64 (T 38)),
          D 40 (.bin .or (T 34) (T 39)),
          D 6 (.mv (T 40))]) (
        .trim [0, 1, 4, 6, 7] (
         .ops [D 41 (.mv (T 4)),
          D 42 (.mv (T 7)),
          D 43 (.mv (T 6)),
          D 44 (.mv (T 1)),
          D 45 (.ia 1 (T 44) (I 0)),
          D 46 (.ld1 (T 45)),
          D 47 (.cvi .u64 (T 46)),
          D 48 (.bin .quo (T 43) (T 47)),
          D 49 (.cvi .u32 (T 48)),
          D 50 (.ia 1 (T 41) (T 42)),
          E (.st 1 (T 50) (T 49))]) (
        .ops [D 51 (.mv (T 6)),
         D 52 (.mv (T 1)),
         D 53 (.ia 1 (T 52) (I 0)),
         D 54 (.ld1 (T 53)),
         D 55 (.cvi .u64 (T 54)),
         D 56 (.bin .rem (T 51) (T 55)),
         D 6 (.mv (T 56))])))) (
      .ops [D 31 (.mv (T 7)),
       D 32 (.bin .sub (T 31) (I 1)),
       D 7 (.mv (T 32))])))))) (
   .seq (
    .ops [D 57 (.mv (T 4)),
     D 58 (.call 129 [(T 57)]),
     D 59 (.mv (T 6)),
     D 60 (.call 116 [(T 59)]),
     D 4 (.mv (T 58)),
     D 5 (.mv (T 60))]) (
   .ret))))) (
   .skip))) (
 .trim [0, 1, 8] (
  .ops [D 61 (.mv (T 1)),
   D 62 (.mv (T 1)),
   D 63 (.len (T 62)),
   D 64 (.bin .sub (T 63) (I 1)),
   D 65 (.ia 1 (T 61) (T 64)),
   D 66 (.ld1 (T 65)),
   D 67 (.call 130 [(T 66)]),
   D 8 (.mv (T 67))]) (
 .trim [0, 8, 9, 10] (
  .draw [⟨0, 0, 0, D 68 (.mv (T 0))⟩,
   ⟨1, 0, 0, D 69 (.mv (T 8))⟩,
   ⟨3, 0, 0, D 71 (.mv (T 1))⟩,
   ⟨4, 0, 0, D 72 (.mv (T 8))⟩,
   ⟨6, 0, 0, D 74 (.mv (T 1))⟩,
   ⟨7, 0, 64, D 75 (.len (T 74))⟩,
   ⟨2, 4, 3, D 70 (.call 131 [(T 68), (T 69)])⟩,
   ⟨5, 4, 31, D 73 (.call 131 [(T 71), (T 72)])⟩,
   ⟨8, 0, 255, D 76 (.slc 1 (T 73) none (some (T 75)) none)⟩,
   ⟨9, 0, 63, D 9 (.mv (T 70))⟩,
   ⟨10, 0, 1023, D 10 (.mv (T 76))⟩]) (
 .seq (
  .ops [D 77 (.mv (T 10)),
   D 78 (.len (T 77)),
   D 11 (.mv (T 78))]) (
 .trim [0, 4, 8, 9, 10, 11] (
  .ops [D 79 (.mv (T 0)),
   D 80 (.len (T 79)),
   D 81 (.mv (T 11)),
   D 82 (.bin .sub (T 80) (T 81)),
   D 83 (.bin .add (T 82) (I 1)),
   D 84 (.mks [(.int .u32 0)] 4 (T 83) (T 83)),
   D 4 (.mv (T 84))]) (
 .trim [4, 8, 9, 11] (
  .seq (
   .ops [D 85 (.mv (T 0)),
    D 86 (.len (T 85)),
    D 87 (.mv (T 11)),
    D 88 (.bin .sub (T 86) (T 87)),
    D 12 (.mv (T 88))]) (
  .block 2 (
   .loop [4, 8, 9, 10, 11, 12] (
    .seq (
     .seq (
      .ops [D 89 (.mv (T 12)),
       D 90 (.bin .geq (T 89) (I 0))]) (
     .cond (T 90) (
      .skip) (
      .exit 2))) (
    .trim [4, 8, 9, 10, 11, 12] (
     .block 3 (
      .ops [D 93 (.mv (T 4)),
       D 94 (.mv (T 12)),
       D 95 (.mv (T 9)),
       D 96 (.mv (T 12)),
       D 97 (.mv (T 12)),
       D 98 (.mv (T 11)),
       D 99 (.bin .add (T 97) (T 98)),
       D 100 (.bin .add (T 99) (I 1)),
       D 101 (.slc 1 (T 95) (some (T 96)) (some (T 100)) none),
       D 102 (.mv (T 10)),
       D 103 (.call 132 [(T 101), (T 102)]),
       D 104 (.ia 1 (T 93) (T 94)),
       E (.st 1 (T 104) (T 103))])) (
    .ops [D 91 (.mv (T 12)),
     D 92 (.bin .sub (T 91) (I 1)),
     D 12 (.mv (T 92))])))))) (
 .seq (
  .ops [D 105 (.mv (T 11)),
   D 106 (.mks [(.int .u32 0)] 4 (T 105) (T 105)),
   D 5 (.mv (T 106))]) (
 .trim [4, 5] (
  .seq (
   .ops [D 107 (.mv (T 11)),
    D 108 (.mv (I 0))]) (
  .block 4 (
   .loop [4, 5, 8, 9, 107, 108] (
    .seq (
     .ops [D 109 (.bin .lss (T 108) (T 107))]) (
    .seq (
     .cond (T 109) (
      .skip) (
      .exit 4)) (
    .trim [4, 5, 8, 9, 107, 108] (
     .block 5 (
      .seq (
       .ops [D 110 (.mv (T 108)),
        D 13 (.mv (T 110))]) (
      .draw [⟨0, 0, 0, D 111 (.mv (T 5))⟩,
       ⟨1, 0, 0, D 112 (.mv (T 13))⟩,
       ⟨2, 0, 0, D 113 (.mv (T 9))⟩,
       ⟨3, 0, 0, D 114 (.mv (T 13))⟩,
       ⟨4, 0, 8, D 115 (.bin .add (T 114) (I 1))⟩,
       ⟨5, 0, 28, D 116 (.ia 1 (T 113) (T 115))⟩,
       ⟨6, 1, 60, D 117 (.ld1 (T 116))⟩,
       ⟨7, 0, 124, D 118 (.cvi .u64 (T 117))⟩,
       ⟨8, 0, 252, D 119 (.shlc (T 118) 32)⟩,
       ⟨9, 0, 0, D 120 (.mv (T 9))⟩,
       ⟨10, 0, 0, D 121 (.mv (T 13))⟩,
       ⟨11, 0, 1536, D 122 (.ia 1 (T 120) (T 121))⟩,
       ⟨12, 1, 3584, D 123 (.ld1 (T 122))⟩,
       ⟨13, 0, 7680, D 124 (.cvi .u64 (T 123))⟩,
       ⟨14, 0, 16380, D 125 (.bin .or (T 119) (T 124))⟩,
       ⟨15, 0, 0, D 126 (.mv (T 8))⟩,
       ⟨16, 0, 65532, D 127 (.bin .shr (T 125) (T 126))⟩,
       ⟨17, 0, 131068, D 128 (.cvi .u32 (T 127))⟩,
       ⟨18, 0, 262143, D 129 (.ia 1 (T 111) (T 112))⟩,
       ⟨19, 4, 524287, E (.st 1 (T 129) (T 128))⟩]))) (
    .ops [D 130 (.bin .add (T 108) (I 1)),
     D 108 (.mv (T 130))]))))))) (
 .seq (
  .ops [D 131 (.mv (T 4)),
   D 132 (.call 129 [(T 131)]),
   D 133 (.mv (T 5)),
   D 134 (.call 129 [(T 133)]),
   D 4 (.mv (T 132)),
   D 5 (.mv (T 134))]) (
 .ret)))))))))))⟩
theorem num_divMag_ok : Ok Try.prog 118 num_divMag := ⟨by kernel_rfl, by kernel_rfl⟩

/-- (*diorama/num.Int).low -/
def num_Int__low : AF := ⟨28, [.tmp 2],
 .seq (
  .ops [D 2 (.mv (.const (.int .u64 0)))]) (
 .seq (
  .ops [D 3 (.mv (.const (.int .u64 0)))]) (
 .trim [3] (
  .trim [0, 3, 4] (
   .ops [D 5 (.mv (T 0)),
    D 6 (.nil (T 5)),
    D 7 (.fa 1 (T 6)),
    D 8 (.ld1 (T 7)),
    D 9 (.len (T 8)),
    D 10 (.mn [(I 2), (T 9)]),
    D 11 (.bin .sub (T 10) (I 1)),
    D 4 (.mv (T 11))]) (
  .block 0 (
   .loop [0, 3, 4] (
    .seq (
     .seq (
      .ops [D 12 (.mv (T 4)),
       D 13 (.bin .geq (T 12) (I 0))]) (
     .cond (T 13) (
      .skip) (
      .exit 0))) (
    .trim [0, 3, 4] (
     .block 1 (
      .ops [D 16 (.mv (T 3)),
       D 17 (.shlc (T 16) 32),
       D 18 (.mv (T 0)),
       D 19 (.nil (T 18)),
       D 20 (.fa 1 (T 19)),
       D 21 (.ld1 (T 20)),
       D 22 (.mv (T 4)),
       D 23 (.ia 1 (T 21) (T 22)),
       D 24 (.ld1 (T 23)),
       D 25 (.cvi .u64 (T 24)),
       D 26 (.bin .or (T 17) (T 25)),
       D 3 (.mv (T 26))])) (
    .ops [D 14 (.mv (T 4)),
     D 15 (.bin .sub (T 14) (I 1)),
     D 4 (.mv (T 15))])))))) (
 .seq (
  .ops [D 27 (.mv (T 3)),
   D 2 (.mv (T 27))]) (
 .ret))))⟩
theorem num_Int__low_ok : Ok Try.prog 119 num_Int__low := ⟨by kernel_rfl, by kernel_rfl⟩

/-- (*diorama/num.Int).QuoRem -/
def num_Int__QuoRem : AF := ⟨48, [.tmp 8, .tmp 9],
 .seq (
  .ops [D 8 (.mv (.const (.pointer none))),
   D 9 (.mv (.const (.pointer none)))]) (
 .trim [0, 1, 2, 3, 10, 11] (
  .draw [⟨0, 0, 0, D 14 (.mv (T 1))⟩,
   ⟨1, 0, 1, D 15 (.nil (T 14))⟩,
   ⟨2, 0, 3, D 16 (.fa 0 (T 15))⟩,
   ⟨3, 1, 7, D 17 (.ld1 (T 16))⟩,
   ⟨4, 0, 0, D 18 (.mv (T 2))⟩,
   ⟨5, 0, 16, D 19 (.nil (T 18))⟩,
   ⟨6, 0, 48, D 20 (.fa 0 (T 19))⟩,
   ⟨7, 1, 112, D 21 (.ld1 (T 20))⟩,
   ⟨8, 0, 255, D 22 (.beq true (T 17) (T 21))⟩,
   ⟨9, 0, 0, D 23 (.mv (T 1))⟩,
   ⟨10, 0, 512, D 24 (.nil (T 23))⟩,
   ⟨11, 0, 1536, D 25 (.fa 0 (T 24))⟩,
   ⟨12, 1, 3584, D 26 (.ld1 (T 25))⟩,
   ⟨13, 0, 511, D 10 (.mv (T 22))⟩,
   ⟨14, 0, 16383, D 11 (.mv (T 26))⟩]) (
 .trim [0, 3, 10, 11, 12, 13] (
  .draw [⟨0, 0, 0, D 28 (.mv (T 1))⟩,
   ⟨1, 0, 1, D 29 (.nil (T 28))⟩,
   ⟨2, 0, 3, D 30 (.fa 1 (T 29))⟩,
   ⟨3, 1, 7, D 31 (.ld1 (T 30))⟩,
   ⟨4, 0, 0, D 32 (.mv (T 2))⟩,
   ⟨5, 0, 16, D 33 (.nil (T 32))⟩,
   ⟨6, 0, 48, D 34 (.fa 1 (T 33))⟩,
   ⟨7, 1, 112, D 35 (.ld1 (T 34))⟩,
   ⟨8, 4, 255, D 36 (.call 118 [(T 31), (T 35)])⟩,
   ⟨9, 0, 511, D 27 (.mv (T 36))⟩,
   ⟨10, 0, 1023, D 37 (.ext (T 27) 0)⟩,
   ⟨11, 0, 1023, D 38 (.ext (T 27) 1)⟩,
   ⟨12, 0, 2047, D 12 (.mv (T 37))⟩,
   ⟨13, 0, 8191, D 13 (.mv (T 38))⟩]) (
 .seq (
  .ops [D 39 (.mv (T 3)),
   D 40 (.mv (T 11)),
   D 41 (.mv (T 13)),
   D 42 (.call 115 [(T 39), (T 40), (T 41)])]) (
 .trim [8, 9] (
  .ops [D 43 (.mv (T 0)),
   D 44 (.mv (T 10)),
   D 45 (.mv (T 12)),
   D 46 (.call 115 [(T 43), (T 44), (T 45)]),
   D 47 (.mv (T 3)),
   D 8 (.mv (T 46)),
   D 9 (.mv (T 47))]) (
 .ret)))))⟩
theorem num_Int__QuoRem_ok : Ok Try.prog 120 num_Int__QuoRem := ⟨by kernel_rfl, by kernel_rfl⟩

/-- diorama/num.addMag -/
def num_addMag : AF := ⟨58, [.tmp 4],
 .seq (
  .ops [D 4 (.mv (.const (.slice none 0 0)))]) (
 .trim [0, 1] (
  .seq (
   .ops [D 9 (.mv (T 0)),
    D 10 (.len (T 9)),
    D 11 (.mv (T 1)),
    D 12 (.len (T 11)),
    D 13 (.bin .lss (T 10) (T 12))]) (
  .cond (T 13) (
   .ops [D 14 (.mv (T 1)),
    D 15 (.mv (T 0)),
    D 0 (.mv (T 14)),
    D 1 (.mv (T 15))]) (
   .skip))) (
 .seq (
  .ops [D 16 (.mv (T 0)),
   D 17 (.len (T 16)),
   D 18 (.bin .add (T 17) (I 1)),
   D 19 (.mks [(.int .u32 0)] 4 (T 18) (T 18)),
   D 5 (.mv (T 19))]) (
 .seq (
  .ops [D 6 (.mv (.const (.int .u64 0)))]) (
 .trim [0, 5, 6] (
  .seq (
   .ops [D 20 (.mv (T 0)),
    D 21 (.len (T 20)),
    D 22 (.mv (I 0))]) (
  .block 0 (
   .loop [0, 1, 5, 6, 20, 21, 22] (
    .seq (
     .ops [D 23 (.bin .lss (T 22) (T 21))]) (
    .seq (
     .cond (T 23) (
      .skip) (
      .exit 0)) (
    .trim [0, 1, 5, 6, 20, 21, 22] (
     .block 1 (
      .seq (
       .ops [D 24 (.mv (T 22)),
        D 25 (.ia 1 (T 20) (T 22)),
        D 26 (.ld1 (T 25)),
        D 7 (.mv (T 24)),
        D 8 (.mv (T 26))]) (
      .seq (
       .ops [D 27 (.mv (T 6)),
        D 28 (.mv (T 8)),
        D 29 (.cvi .u64 (T 28)),
        D 30 (.bin .add (T 27) (T 29)),
        D 6 (.mv (T 30))]) (
      .trim [0, 1, 5, 6, 7, 20, 21, 22] (
       .seq (
        .ops [D 31 (.mv (T 7)),
         D 32 (.mv (T 1)),
         D 33 (.len (T 32)),
         D 34 (.bin .lss (T 31) (T 33))]) (
       .cond (T 34) (
        .ops [D 35 (.mv (T 6)),
         D 36 (.mv (T 1)),
         D 37 (.mv (T 7)),
         D 38 (.ia 1 (T 36) (T 37)),
         D 39 (.ld1 (T 38)),
         D 40 (.cvi .u64 (T 39)),
         D 41 (.bin .add (T 35) (T 40)),
         D 6 (.mv (T 41))]) (
        .skip))) (
      .trim [0, 1, 5, 6, 20, 21, 22] (
       .ops [D 42 (.mv (T 5)),
        D 43 (.mv (T 7)),
        D 44 (.mv (T 6)),
        D 45 (.cvi .u32 (T 44)),
        D 46 (.ia 1 (T 42) (T 43)),
        E (.st 1 (T 46) (T 45))]) (
      .ops [D 47 (.mv (T 6)),
       D 48 (.shrc (T 47) 32),
       D 6 (.mv (T 48))])))))) (
    .ops [D 49 (.bin .add (T 22) (I 1)),
     D 22 (.mv (T 49))]))))))) (
 .trim [5] (
  .ops [D 50 (.mv (T 5)),
   D 51 (.mv (T 0)),
   D 52 (.len (T 51)),
   D 53 (.mv (T 6)),
   D 54 (.cvi .u32 (T 53)),
   D 55 (.ia 1 (T 50) (T 52)),
   E (.st 1 (T 55) (T 54))]) (
 .seq (
  .ops [D 56 (.mv (T 5)),
   D 57 (.call 129 [(T 56)]),
   D 4 (.mv (T 57))]) (
 .ret)))))))⟩
theorem num_addMag_ok : Ok Try.prog 121 num_addMag := ⟨by kernel_rfl, by kernel_rfl⟩

/-- diorama/num.subMag -/
def num_subMag : AF := ⟨46, [.tmp 4],
 .seq (
  .ops [D 4 (.mv (.const (.slice none 0 0)))]) (
 .seq (
  .ops [D 11 (.mv (T 0)),
   D 12 (.len (T 11)),
   D 13 (.mks [(.int .u32 0)] 4 (T 12) (T 12)),
   D 5 (.mv (T 13))]) (
 .seq (
  .ops [D 6 (.mv (.const (.int .u64 0)))]) (
 .trim [5] (
  .seq (
   .ops [D 14 (.mv (T 0)),
    D 15 (.len (T 14)),
    D 16 (.mv (I 0))]) (
  .block 0 (
   .loop [1, 5, 6, 14, 15, 16] (
    .seq (
     .ops [D 17 (.bin .lss (T 16) (T 15))]) (
    .seq (
     .cond (T 17) (
      .skip) (
      .exit 0)) (
    .trim [1, 5, 6, 14, 15, 16] (
     .block 1 (
      .seq (
       .ops [D 18 (.mv (T 16)),
        D 19 (.ia 1 (T 14) (T 16)),
        D 20 (.ld1 (T 19)),
        D 7 (.mv (T 18)),
        D 8 (.mv (T 20))]) (
      .seq (
       .ops [D 9 (.mv (.const (.int .u64 0)))]) (
      .trim [1, 5, 6, 7, 8, 9, 14, 15, 16] (
       .seq (
        .ops [D 21 (.mv (T 7)),
         D 22 (.mv (T 1)),
         D 23 (.len (T 22)),
         D 24 (.bin .lss (T 21) (T 23))]) (
       .cond (T 24) (
        .ops [D 25 (.mv (T 1)),
         D 26 (.mv (T 7)),
         D 27 (.ia 1 (T 25) (T 26)),
         D 28 (.ld1 (T 27)),
         D 29 (.cvi .u64 (T 28)),
         D 9 (.mv (T 29))]) (
        .skip))) (
      .trim [1, 5, 7, 10, 14, 15, 16] (
       .ops [D 30 (.mv (T 8)),
        D 31 (.cvi .u64 (T 30)),
        D 32 (.mv (T 9)),
        D 33 (.bin .sub (T 31) (T 32)),
        D 34 (.mv (T 6)),
        D 35 (.bin .sub (T 33) (T 34)),
        D 10 (.mv (T 35))]) (
      .trim [1, 5, 10, 14, 15, 16] (
       .ops [D 36 (.mv (T 5)),
        D 37 (.mv (T 7)),
        D 38 (.mv (T 10)),
        D 39 (.cvi .u32 (T 38)),
        D 40 (.ia 1 (T 36) (T 37)),
        E (.st 1 (T 40) (T 39))]) (
      .ops [D 41 (.mv (T 10)),
       D 42 (.shrc (T 41) 63),
       D 6 (.mv (T 42))]))))))) (
    .ops [D 43 (.bin .add (T 16) (I 1)),
     D 16 (.mv (T 43))]))))))) (
 .seq (
  .ops [D 44 (.mv (T 5)),
   D 45 (.call 129 [(T 44)]),
   D 4 (.mv (T 45))]) (
 .ret)))))⟩
theorem num_subMag_ok : Ok Try.prog 122 num_subMag := ⟨by kernel_rfl, by kernel_rfl⟩

/-- (*diorama/num.Int).Set -/
def num_Int__Set : AF := ⟨16, [.tmp 4],
 .seq (
  .ops [D 4 (.mv (.const (.pointer none)))]) (
 .trim [4] (
  .draw [⟨0, 0, 0, D 5 (.mv (T 0))⟩,
   ⟨1, 0, 0, D 6 (.mv (T 1))⟩,
   ⟨2, 0, 2, D 7 (.nil (T 6))⟩,
   ⟨3, 0, 6, D 8 (.fa 0 (T 7))⟩,
   ⟨4, 1, 14, D 9 (.ld1 (T 8))⟩,
   ⟨5, 0, 0, D 10 (.mv (T 1))⟩,
   ⟨6, 0, 32, D 11 (.nil (T 10))⟩,
   ⟨7, 0, 96, D 12 (.fa 1 (T 11))⟩,
   ⟨8, 1, 224, D 13 (.ld1 (T 12))⟩,
   ⟨9, 4, 480, D 14 (.call 117 [(T 13)])⟩,
   ⟨10, 4, 1023, D 15 (.call 115 [(T 5), (T 9), (T 14)])⟩,
   ⟨11, 0, 2047, D 4 (.mv (T 15))⟩]) (
 .ret))⟩
theorem num_Int__Set_ok : Ok Try.prog 123 num_Int__Set := ⟨by kernel_rfl, by kernel_rfl⟩

/-- diorama/dioramaref02.digit -/
def dioramaref02_digit : AF := ⟨13, [.tmp 4],
 .seq (
  .ops [D 4 (.mv (I 0))]) (
 .trim [] (
  .seq (
   .ops [D 5 (.mv (T 1)),
    D 6 (.mv (T 0)),
    D 7 (.len (T 6)),
    D 8 (.bin .lss (T 5) (T 7))]) (
  .cond (T 8) (
   .seq (
    .ops [D 9 (.mv (T 0)),
     D 10 (.mv (T 1)),
     D 11 (.ia 1 (T 9) (T 10)),
     D 12 (.ld1 (T 11)),
     D 4 (.mv (T 12))]) (
   .ret)) (
   .skip))) (
 .seq (
  .ops [D 4 (.mv (I 0))]) (
 .ret)))⟩
theorem dioramaref02_digit_ok : Ok Try.prog 124 dioramaref02_digit := ⟨by kernel_rfl, by kernel_rfl⟩

/-- diorama/dioramaref02.trimmed -/
def dioramaref02_trimmed : AF := ⟨21, [.tmp 2],
 .seq (
  .ops [D 2 (.mv (.const (.slice none 0 0)))]) (
 .seq (
  .ops [D 4 (.mv (T 0)),
   D 5 (.len (T 4)),
   D 3 (.mv (T 5))]) (
 .trim [0, 3] (
  .block 0 (
   .loop [0, 3] (
    .trim [0, 3] (
     .trim [0, 3, 15] (
      .ops [D 6 (.mv (T 3)),
       D 7 (.bin .gtr (T 6) (I 0)),
       D 8 (.mv (T 7)),
       ⟨(some 9), some (8, true), .mv (T 0)⟩,
       ⟨(some 10), some (8, true), .mv (T 3)⟩,
       ⟨(some 11), some (8, true), .bin .sub (T 10) (I 1)⟩,
       ⟨(some 12), some (8, true), .ia 1 (T 9) (T 11)⟩,
       ⟨(some 13), some (8, true), .ld1 (T 12)⟩,
       ⟨(some 14), some (8, true), .bin .eql (T 13) (I 0)⟩,
       D 15 (.pick (T 8) (T 14) (.const (.bool false)))]) (
     .cond (T 15) (
      .skip) (
      .exit 0))) (
    .block 1 (
     .ops [D 16 (.mv (T 3)),
      D 17 (.bin .sub (T 16) (I 1)),
      D 3 (.mv (T 17))]))))) (
 .seq (
  .ops [D 18 (.mv (T 0)),
   D 19 (.mv (T 3)),
   D 20 (.slc 1 (T 18) none (some (T 19)) none),
   D 2 (.mv (T 20))]) (
 .ret))))⟩
theorem dioramaref02_trimmed_ok : Ok Try.prog 125 dioramaref02_trimmed := ⟨by kernel_rfl, by kernel_rfl⟩

/-- diorama/num.mulMag -/
def num_mulMag : AF := ⟨67, [.tmp 4],
 .seq (
  .ops [D 4 (.mv (.const (.slice none 0 0)))]) (
 .trim [0, 1, 5] (
  .ops [D 11 (.mv (T 0)),
   D 12 (.len (T 11)),
   D 13 (.mv (T 1)),
   D 14 (.len (T 13)),
   D 15 (.bin .add (T 12) (T 14)),
   D 16 (.mks [(.int .u32 0)] 4 (T 15) (T 15)),
   D 5 (.mv (T 16))]) (
 .trim [5] (
  .seq (
   .ops [D 17 (.mv (T 0)),
    D 18 (.len (T 17)),
    D 19 (.mv (I 0))]) (
  .block 0 (
   .loop [1, 5, 17, 18, 19] (
    .seq (
     .ops [D 20 (.bin .lss (T 19) (T 18))]) (
    .seq (
     .cond (T 20) (
      .skip) (
      .exit 0)) (
    .trim [1, 5, 17, 18, 19] (
     .block 1 (
      .seq (
       .ops [D 21 (.mv (T 19)),
        D 22 (.ia 1 (T 17) (T 19)),
        D 23 (.ld1 (T 22)),
        D 6 (.mv (T 21)),
        D 7 (.mv (T 23))]) (
      .seq (
       .ops [D 8 (.mv (.const (.int .u64 0)))]) (
      .trim [1, 5, 6, 8, 17, 18, 19] (
       .seq (
        .ops [D 24 (.mv (T 1)),
         D 25 (.len (T 24)),
         D 26 (.mv (I 0))]) (
       .block 2 (
        .loop [1, 5, 6, 7, 8, 17, 18, 19, 24, 25, 26] (
         .seq (
          .ops [D 27 (.bin .lss (T 26) (T 25))]) (
         .seq (
          .cond (T 27) (
           .skip) (
           .exit 2)) (
         .trim [1, 5, 6, 7, 8, 17, 18, 19, 24, 25, 26] (
          .block 3 (
           .seq (
            .ops [D 28 (.mv (T 26)),
             D 29 (.ia 1 (T 24) (T 26)),
             D 30 (.ld1 (T 29)),
             D 9 (.mv (T 28)),
             D 10 (.mv (T 30))]) (
           .trim [1, 5, 6, 7, 8, 9, 17, 18, 19, 24, 25, 26] (
            .ops [D 31 (.mv (T 8)),
             D 32 (.mv (T 7)),
             D 33 (.cvi .u64 (T 32)),
             D 34 (.mv (T 10)),
             D 35 (.cvi .u64 (T 34)),
             D 36 (.bin .mul (T 33) (T 35)),
             D 37 (.mv (T 5)),
             D 38 (.mv (T 6)),
             D 39 (.mv (T 9)),
             D 40 (.bin .add (T 38) (T 39)),
             D 41 (.ia 1 (T 37) (T 40)),
             D 42 (.ld1 (T 41)),
             D 43 (.cvi .u64 (T 42)),
             D 44 (.bin .add (T 36) (T 43)),
             D 45 (.bin .add (T 31) (T 44)),
             D 8 (.mv (T 45))]) (
           .trim [1, 5, 6, 7, 8, 17, 18, 19, 24, 25, 26] (
            .ops [D 46 (.mv (T 5)),
             D 47 (.mv (T 6)),
             D 48 (.mv (T 9)),
             D 49 (.bin .add (T 47) (T 48)),
             D 50 (.mv (T 8)),
             D 51 (.cvi .u32 (T 50)),
             D 52 (.ia 1 (T 46) (T 49)),
             E (.st 1 (T 52) (T 51))]) (
           .ops [D 53 (.mv (T 8)),
            D 54 (.shrc (T 53) 32),
            D 8 (.mv (T 54))]))))) (
         .ops [D 55 (.bin .add (T 26) (I 1)),
          D 26 (.mv (T 55))]))))))) (
      .ops [D 56 (.mv (T 5)),
       D 57 (.mv (T 6)),
       D 58 (.mv (T 1)),
       D 59 (.len (T 58)),
       D 60 (.bin .add (T 57) (T 59)),
       D 61 (.mv (T 8)),
       D 62 (.cvi .u32 (T 61)),
       D 63 (.ia 1 (T 56) (T 60)),
       E (.st 1 (T 63) (T 62))]))))) (
    .ops [D 64 (.bin .add (T 19) (I 1)),
     D 19 (.mv (T 64))]))))))) (
 .seq (
  .ops [D 65 (.mv (T 5)),
   D 66 (.call 129 [(T 65)]),
   D 4 (.mv (T 66))]) (
 .ret))))⟩
theorem num_mulMag_ok : Ok Try.prog 126 num_mulMag := ⟨by kernel_rfl, by kernel_rfl⟩

/-- (*diorama/model.chapters).check -/
def model_chapters__check : AF := ⟨115, [.tmp 10],
 .seq (
  .ops [D 10 (.mv (.const (.bool false)))]) (
 .trim [0, 1, 2, 3, 4] (
  .trim [0, 1, 2, 3, 4, 21] (
   .ops [D 15 (.mv (T 1)),
    D 16 (.len (T 15)),
    D 17 (.bin .gtr (T 16) (I 0)),
    D 18 (.mv (T 17)),
    ⟨(some 19), some (18, true), .mv (T 4)⟩,
    ⟨(some 20), some (18, true), .bin .gtr (T 19) (I 4)⟩,
    D 21 (.pick (T 18) (T 20) (.const (.bool false)))]) (
  .cond (T 21) (
   .seq (
    .ops [D 10 (.mv (.const (.bool false)))]) (
   .ret)) (
   .skip))) (
 .seq (
  .ops [D 22 (.mv (T 2)),
   D 11 (.mv (T 22))]) (
 .trim [] (
  .seq (
   .ops [D 23 (.mv (T 1)),
    D 24 (.len (T 23)),
    D 25 (.mv (I 0))]) (
  .block 0 (
   .loop [0, 2, 3, 4, 11, 23, 24, 25] (
    .seq (
     .ops [D 26 (.bin .lss (T 25) (T 24))]) (
    .seq (
     .cond (T 26) (
      .skip) (
      .exit 0)) (
    .trim [0, 2, 3, 4, 11, 23, 24, 25] (
     .block 1 (
      .seq (
       .ops [D 27 (.ia 6 (T 23) (T 25)),
        D 28 (.ldN 6 (T 27)),
        D 13 (.alloc [(.int .i64 0), (.int .i64 0), (.int .i64 0), (.string ⟨#[]⟩), (.bool false), (.slice none 0 0)]),
        E (.st 6 (T 13) (T 28))]) (
      .trim [0, 2, 3, 4, 11, 13, 23, 24, 25] (
       .ops [D 29 (.mv (T 0)),
        D 30 (.nil (T 29)),
        D 31 (.fa 2 (T 30)),
        D 32 (.ld1 (T 31)),
        D 33 (.bin .add (T 32) (I 1)),
        D 34 (.nil (T 29)),
        D 35 (.fa 2 (T 34)),
        E (.st 1 (T 35) (T 33))]) (
      .trim [0, 2, 3, 4, 11, 13, 14, 23, 24, 25] (
       .draw [⟨0, 0, 0, D 36 (.mv (T 0))⟩,
        ⟨1, 0, 1, D 37 (.nil (T 36))⟩,
        ⟨2, 0, 3, D 38 (.fa 2 (T 37))⟩,
        ⟨3, 1, 7, D 39 (.ld1 (T 38))⟩,
        ⟨4, 0, 15, D 40 (.bin .gtr (T 39) (I 40))⟩,
        ⟨5, 0, 31, D 41 (.mv (T 40))⟩,
        ⟨6, 0, 63, ⟨(some 42), some (41, false), .fa 0 (T 13)⟩⟩,
        ⟨7, 1, 127, ⟨(some 43), some (41, false), .ld1 (T 42)⟩⟩,
        ⟨8, 4, 255, ⟨(some 44), some (41, false), .call 45 [(T 43), (I 1), (I 100000)]⟩⟩,
        ⟨9, 0, 511, ⟨(some 45), some (41, false), .un .not (T 44)⟩⟩,
        ⟨10, 0, 1023, D 46 (.pick (T 41) (.const (.bool true)) (T 45))⟩,
        ⟨11, 0, 2047, D 47 (.mv (T 46))⟩,
        ⟨12, 0, 4095, ⟨(some 48), some (47, false), .mv (T 0)⟩⟩,
        ⟨13, 0, 8191, ⟨(some 49), some (47, false), .nil (T 48)⟩⟩,
        ⟨14, 0, 16383, ⟨(some 50), some (47, false), .fa 0 (T 49)⟩⟩,
        ⟨15, 1, 32767, ⟨(some 51), some (47, false), .ld1 (T 50)⟩⟩,
        ⟨16, 0, 4095, ⟨(some 52), some (47, false), .fa 0 (T 13)⟩⟩,
        ⟨17, 1, 69631, ⟨(some 53), some (47, false), .ld1 (T 52)⟩⟩,
        ⟨18, 4, 262143, ⟨(some 54), some (47, false), .lkp false [1] false [(.bool false)] false (T 51) (T 53)⟩⟩,
        ⟨19, 0, 524287, D 55 (.pick (T 47) (.const (.bool true)) (T 54))⟩,
        ⟨20, 0, 1048575, D 56 (.mv (T 55))⟩,
        ⟨21, 0, 2097151, ⟨(some 57), some (56, false), .fa 1 (T 13)⟩⟩,
        ⟨22, 1, 4194303, ⟨(some 58), some (56, false), .ld1 (T 57)⟩⟩,
        ⟨23, 0, 2097151, ⟨(some 59), some (56, false), .mv (T 2)⟩⟩,
        ⟨24, 0, 16777215, ⟨(some 60), some (56, false), .bin .lss (T 58) (T 59)⟩⟩,
        ⟨25, 0, 33554431, D 61 (.pick (T 56) (.const (.bool true)) (T 60))⟩,
        ⟨26, 0, 67108863, D 62 (.mv (T 61))⟩,
        ⟨27, 0, 134217727, ⟨(some 63), some (62, false), .fa 2 (T 13)⟩⟩,
        ⟨28, 1, 268435455, ⟨(some 64), some (62, false), .ld1 (T 63)⟩⟩,
        ⟨29, 0, 134217727, ⟨(some 65), some (62, false), .mv (T 3)⟩⟩,
        ⟨30, 0, 1073741823, ⟨(some 66), some (62, false), .bin .gtr (T 64) (T 65)⟩⟩,
        ⟨31, 0, 2147483647, D 67 (.pick (T 62) (.const (.bool true)) (T 66))⟩,
        ⟨32, 0, 4294967295, D 68 (.mv (T 67))⟩,
        ⟨33, 0, 8589934591, ⟨(some 69), some (68, false), .fa 2 (T 13)⟩⟩,
        ⟨34, 1, 17179869183, ⟨(some 70), some (68, false), .ld1 (T 69)⟩⟩,
        ⟨35, 0, 8589934591, ⟨(some 71), some (68, false), .fa 1 (T 13)⟩⟩,
        ⟨36, 1, 42949672959, ⟨(some 72), some (68, false), .ld1 (T 71)⟩⟩,
        ⟨37, 0, 137438953471, ⟨(some 73), some (68, false), .bin .lss (T 70) (T 72)⟩⟩,
        ⟨38, 0, 274877906943, D 74 (.pick (T 68) (.const (.bool true)) (T 73))⟩,
        ⟨39, 0, 549755813887, D 75 (.mv (T 74))⟩,
        ⟨40, 0, 1099511627775, ⟨(some 76), some (75, false), .fa 3 (T 13)⟩⟩,
        ⟨41, 1, 2199023255551, ⟨(some 77), some (75, false), .ld1 (T 76)⟩⟩,
        ⟨42, 4, 4398046511103, ⟨(some 78), some (75, false), .call 47 [(T 77)]⟩⟩,
        ⟨43, 0, 8796093022207, ⟨(some 79), some (75, false), .un .not (T 78)⟩⟩,
        ⟨44, 0, 17592186044415, D 80 (.pick (T 75) (.const (.bool true)) (T 79))⟩,
        ⟨45, 0, 35184372088831, D 14 (.mv (T 80))⟩]) (
      .trim [0, 2, 3, 4, 13, 23, 24, 25] (
       .trim [0, 2, 3, 4, 13, 23, 24, 25, 94] (
        .ops [D 81 (.mv (T 14)),
         D 82 (.mv (T 81)),
         ⟨(some 83), some (82, false), .mv (T 0)⟩,
         ⟨(some 84), some (82, false), .nil (T 83)⟩,
         ⟨(some 85), some (82, false), .fa 1 (T 84)⟩,
         ⟨(some 86), some (82, false), .ld1 (T 85)⟩,
         ⟨(some 87), some (82, false), .un .not (T 86)⟩,
         ⟨(some 88), some (82, false), .mv (T 87)⟩,
         ⟨(some 89), some (88, true), .fa 1 (T 13)⟩,
         ⟨(some 90), some (88, true), .ld1 (T 89)⟩,
         ⟨(some 91), some (88, true), .mv (T 11)⟩,
         ⟨(some 92), some (88, true), .bin .lss (T 90) (T 91)⟩,
         ⟨(some 93), some (82, false), .pick (T 88) (T 92) (.const (.bool false))⟩,
         D 94 (.pick (T 82) (.const (.bool true)) (T 93))]) (
       .cond (T 94) (
        .seq (
         .ops [D 10 (.mv (.const (.bool false)))]) (
        .ret)) (
        .skip))) (
      .trim [0, 2, 3, 4, 13, 23, 24, 25] (
       .draw [⟨0, 0, 0, D 95 (.mv (T 0))⟩,
        ⟨1, 0, 1, D 96 (.nil (T 95))⟩,
        ⟨2, 0, 3, D 97 (.fa 0 (T 96))⟩,
        ⟨3, 1, 7, D 98 (.ld1 (T 97))⟩,
        ⟨4, 0, 0, D 99 (.fa 0 (T 13))⟩,
        ⟨5, 1, 16, D 100 (.ld1 (T 99))⟩,
        ⟨6, 4, 63, E (.upd false [1] (T 98) (T 100) (.const (.bool true)))⟩]) (
      .seq (
       .ops [D 101 (.fa 2 (T 13)),
        D 102 (.ld1 (T 101)),
        D 11 (.mv (T 102))]) (
      .trim [0, 2, 3, 4, 11, 23, 24, 25, 113] (
       .ops [D 103 (.mv (T 0)),
        D 104 (.fa 5 (T 13)),
        D 105 (.ld1 (T 104)),
        D 106 (.fa 1 (T 13)),
        D 107 (.ld1 (T 106)),
        D 108 (.fa 2 (T 13)),
        D 109 (.ld1 (T 108)),
        D 110 (.mv (T 4)),
        D 111 (.bin .add (T 110) (I 1)),
        D 112 (.call 127 [(T 103), (T 105), (T 107), (T 109), (T 111)]),
        D 113 (.un .not (T 112))]) (
      .cond (T 113) (
       .seq (
        .ops [D 10 (.mv (.const (.bool false)))]) (
       .ret)) (
       .skip)))))))))) (
    .ops [D 114 (.bin .add (T 25) (I 1)),
     D 25 (.mv (T 114))]))))))) (
 .seq (
  .ops [D 10 (.mv (.const (.bool true)))]) (
 .ret)))))⟩
theorem model_chapters__check_ok : Ok Try.prog 127 model_chapters__check := ⟨by kernel_rfl, by kernel_rfl⟩

/-- diorama/model.checkRest$1 -/
def model_checkRest_1 : AF := ⟨21, [],
 .seq (
  .ops [D 6 (.mv (T 0)),
   D 7 (.len (T 6)),
   D 8 (.mv (I 0))]) (
 .block 0 (
  .loop [1, 2, 6, 7, 8] (
   .seq (
    .ops [D 9 (.bin .lss (T 8) (T 7))]) (
   .seq (
    .cond (T 9) (
     .skip) (
     .exit 0)) (
   .trim [1, 2, 6, 7, 8] (
    .block 1 (
     .seq (
      .ops [D 10 (.ia 6 (T 6) (T 8)),
       D 11 (.ldN 6 (T 10)),
       D 5 (.alloc [(.int .i64 0), (.int .i64 0), (.int .i64 0), (.string ⟨#[]⟩), (.bool false), (.slice none 0 0)]),
       E (.st 6 (T 5) (T 11))]) (
     .seq (
      .ops [D 12 (.ld1 (T 1)),
       D 13 (.fa 0 (T 5)),
       D 14 (.ld1 (T 13)),
       D 15 (.build [(.int .i64 0), (.int .i64 0)] [(0, 1, (I 2)), (1, 1, (T 14))]),
       E (.upd true [1, 1] (T 12) (T 15) (.const (.bool true)))]) (
     .ops [D 16 (.ld1 (T 2)),
      D 17 (.fa 5 (T 5)),
      D 18 (.ld1 (T 17)),
      D 19 (.callv (T 16) [(T 18)])])))) (
   .ops [D 20 (.bin .add (T 8) (I 1)),
    D 8 (.mv (T 20))]))))))⟩
theorem model_checkRest_1_ok : Ok Try.prog 128 model_checkRest_1 := ⟨by kernel_rfl, by kernel_rfl⟩

/-- diorama/num.trim -/
def num_trim : AF := ⟨21, [.tmp 2],
 .seq (
  .ops [D 2 (.mv (.const (.slice none 0 0)))]) (
 .trim [0] (
  .block 0 (
   .loop [0] (
    .trim [0] (
     .trim [0, 14] (
      .ops [D 3 (.mv (T 0)),
       D 4 (.len (T 3)),
       D 5 (.bin .gtr (T 4) (I 0)),
       D 6 (.mv (T 5)),
       ⟨(some 7), some (6, true), .mv (T 0)⟩,
       ⟨(some 8), some (6, true), .mv (T 0)⟩,
       ⟨(some 9), some (6, true), .len (T 8)⟩,
       ⟨(some 10), some (6, true), .bin .sub (T 9) (I 1)⟩,
       ⟨(some 11), some (6, true), .ia 1 (T 7) (T 10)⟩,
       ⟨(some 12), some (6, true), .ld1 (T 11)⟩,
       ⟨(some 13), some (6, true), .bin .eql (T 12) (.const (.int .u32 0))⟩,
       D 14 (.pick (T 6) (T 13) (.const (.bool false)))]) (
     .cond (T 14) (
      .skip) (
      .exit 0))) (
    .block 1 (
     .ops [D 15 (.mv (T 0)),
      D 16 (.mv (T 0)),
      D 17 (.len (T 16)),
      D 18 (.bin .sub (T 17) (I 1)),
      D 19 (.slc 1 (T 15) none (some (T 18)) none),
      D 0 (.mv (T 19))]))))) (
 .seq (
  .ops [D 20 (.mv (T 0)),
   D 2 (.mv (T 20))]) (
 .ret)))⟩
theorem num_trim_ok : Ok Try.prog 129 num_trim := ⟨by kernel_rfl, by kernel_rfl⟩

/-- math/bits.LeadingZeros32 -/
def bits_LeadingZeros32 : AF := ⟨6, [.tmp 2],
 .seq (
  .ops [D 2 (.mv (I 0))]) (
 .seq (
  .ops [D 3 (.mv (T 0)),
   D 4 (.call 133 [(T 3)]),
   D 5 (.bin .sub (I 32) (T 4)),
   D 2 (.mv (T 5))]) (
 .ret))⟩
theorem bits_LeadingZeros32_ok : Ok Try.prog 130 bits_LeadingZeros32 := ⟨by kernel_rfl, by kernel_rfl⟩

/-- diorama/num.shift -/
def num_shift : AF := ⟨41, [.tmp 4],
 .seq (
  .ops [D 4 (.mv (.const (.slice none 0 0)))]) (
 .seq (
  .ops [D 9 (.mv (T 0)),
   D 10 (.len (T 9)),
   D 11 (.bin .add (T 10) (I 1)),
   D 12 (.mks [(.int .u32 0)] 4 (T 11) (T 11)),
   D 5 (.mv (T 12))]) (
 .seq (
  .ops [D 6 (.mv (.const (.int .u64 0)))]) (
 .trim [0, 5, 6] (
  .seq (
   .ops [D 13 (.mv (T 0)),
    D 14 (.len (T 13)),
    D 15 (.mv (I 0))]) (
  .block 0 (
   .loop [0, 1, 5, 6, 13, 14, 15] (
    .seq (
     .ops [D 16 (.bin .lss (T 15) (T 14))]) (
    .seq (
     .cond (T 16) (
      .skip) (
      .exit 0)) (
    .trim [0, 1, 5, 6, 13, 14, 15] (
     .block 1 (
      .seq (
       .ops [D 17 (.mv (T 15)),
        D 18 (.ia 1 (T 13) (T 15)),
        D 19 (.ld1 (T 18)),
        D 7 (.mv (T 17)),
        D 8 (.mv (T 19))]) (
      .trim [0, 1, 5, 6, 7, 13, 14, 15] (
       .ops [D 20 (.mv (T 6)),
        D 21 (.mv (T 8)),
        D 22 (.cvi .u64 (T 21)),
        D 23 (.mv (T 1)),
        D 24 (.bin .shl (T 22) (T 23)),
        D 25 (.bin .or (T 20) (T 24)),
        D 6 (.mv (T 25))]) (
      .trim [0, 1, 5, 6, 13, 14, 15] (
       .ops [D 26 (.mv (T 5)),
        D 27 (.mv (T 7)),
        D 28 (.mv (T 6)),
        D 29 (.cvi .u32 (T 28)),
        D 30 (.ia 1 (T 26) (T 27)),
        E (.st 1 (T 30) (T 29))]) (
      .ops [D 31 (.mv (T 6)),
       D 32 (.shrc (T 31) 32),
       D 6 (.mv (T 32))]))))) (
    .ops [D 33 (.bin .add (T 15) (I 1)),
     D 15 (.mv (T 33))]))))))) (
 .trim [5] (
  .ops [D 34 (.mv (T 5)),
   D 35 (.mv (T 0)),
   D 36 (.len (T 35)),
   D 37 (.mv (T 6)),
   D 38 (.cvi .u32 (T 37)),
   D 39 (.ia 1 (T 34) (T 36)),
   E (.st 1 (T 39) (T 38))]) (
 .seq (
  .ops [D 40 (.mv (T 5)),
   D 4 (.mv (T 40))]) (
 .ret))))))⟩
theorem num_shift_ok : Ok Try.prog 131 num_shift := ⟨by kernel_rfl, by kernel_rfl⟩

/-- diorama/num.digit -/
def num_digit : AF := ⟨174, [.tmp 4],
 .seq (
  .ops [D 4 (.mv (.const (.int .u32 0)))]) (
 .seq (
  .ops [D 18 (.mv (T 1)),
   D 19 (.len (T 18)),
   D 5 (.mv (T 19))]) (
 .trim [0, 1, 5, 6] (
  .draw [⟨0, 0, 0, D 20 (.mv (T 0))⟩,
   ⟨1, 0, 0, D 21 (.mv (T 5))⟩,
   ⟨2, 0, 3, D 22 (.ia 1 (T 20) (T 21))⟩,
   ⟨3, 1, 7, D 23 (.ld1 (T 22))⟩,
   ⟨4, 0, 15, D 24 (.cvi .u64 (T 23))⟩,
   ⟨5, 0, 31, D 25 (.shlc (T 24) 32)⟩,
   ⟨6, 0, 0, D 26 (.mv (T 0))⟩,
   ⟨7, 0, 0, D 27 (.mv (T 5))⟩,
   ⟨8, 0, 128, D 28 (.bin .sub (T 27) (I 1))⟩,
   ⟨9, 0, 448, D 29 (.ia 1 (T 26) (T 28))⟩,
   ⟨10, 1, 960, D 30 (.ld1 (T 29))⟩,
   ⟨11, 0, 1984, D 31 (.cvi .u64 (T 30))⟩,
   ⟨12, 0, 4095, D 32 (.bin .or (T 25) (T 31))⟩,
   ⟨13, 0, 8191, D 6 (.mv (T 32))⟩]) (
 .trim [0, 1, 5, 7, 8] (
  .draw [⟨0, 0, 0, D 33 (.mv (T 6))⟩,
   ⟨1, 0, 0, D 34 (.mv (T 1))⟩,
   ⟨2, 0, 0, D 35 (.mv (T 5))⟩,
   ⟨3, 0, 4, D 36 (.bin .sub (T 35) (I 1))⟩,
   ⟨4, 0, 14, D 37 (.ia 1 (T 34) (T 36))⟩,
   ⟨5, 1, 30, D 38 (.ld1 (T 37))⟩,
   ⟨6, 0, 62, D 39 (.cvi .u64 (T 38))⟩,
   ⟨7, 0, 127, D 40 (.bin .quo (T 33) (T 39))⟩,
   ⟨8, 0, 0, D 41 (.mv (T 6))⟩,
   ⟨9, 0, 0, D 42 (.mv (T 1))⟩,
   ⟨10, 0, 0, D 43 (.mv (T 5))⟩,
   ⟨11, 0, 1024, D 44 (.bin .sub (T 43) (I 1))⟩,
   ⟨12, 0, 3584, D 45 (.ia 1 (T 42) (T 44))⟩,
   ⟨13, 1, 7680, D 46 (.ld1 (T 45))⟩,
   ⟨14, 0, 15872, D 47 (.cvi .u64 (T 46))⟩,
   ⟨15, 0, 32512, D 48 (.bin .rem (T 41) (T 47))⟩,
   ⟨16, 0, 255, D 7 (.mv (T 40))⟩,
   ⟨17, 0, 131071, D 8 (.mv (T 48))⟩]) (
 .trim [0, 1, 5, 7] (
  .block 0 (
   .loop [0, 1, 5, 7, 8] (
    .trim [0, 1, 5, 7, 8] (
     .trim [0, 1, 5, 7, 8, 71] (
      .draw [⟨0, 0, 0, D 49 (.mv (T 7))⟩,
       ⟨1, 0, 1, D 50 (.shrc (T 49) 32)⟩,
       ⟨2, 0, 3, D 51 (.bin .gtr (T 50) (.const (.int .u64 0)))⟩,
       ⟨3, 0, 7, D 52 (.mv (T 51))⟩,
       ⟨4, 0, 15, ⟨(some 53), some (52, false), .mv (T 7)⟩⟩,
       ⟨5, 0, 15, ⟨(some 54), some (52, false), .mv (T 1)⟩⟩,
       ⟨6, 0, 15, ⟨(some 55), some (52, false), .mv (T 5)⟩⟩,
       ⟨7, 0, 79, ⟨(some 56), some (52, false), .bin .sub (T 55) (I 2)⟩⟩,
       ⟨8, 0, 239, ⟨(some 57), some (52, false), .ia 1 (T 54) (T 56)⟩⟩,
       ⟨9, 1, 495, ⟨(some 58), some (52, false), .ld1 (T 57)⟩⟩,
       ⟨10, 0, 1007, ⟨(some 59), some (52, false), .cvi .u64 (T 58)⟩⟩,
       ⟨11, 0, 2047, ⟨(some 60), some (52, false), .bin .mul (T 53) (T 59)⟩⟩,
       ⟨12, 0, 15, ⟨(some 61), some (52, false), .mv (T 8)⟩⟩,
       ⟨13, 0, 4111, ⟨(some 62), some (52, false), .shlc (T 61) 32⟩⟩,
       ⟨14, 0, 15, ⟨(some 63), some (52, false), .mv (T 0)⟩⟩,
       ⟨15, 0, 15, ⟨(some 64), some (52, false), .mv (T 5)⟩⟩,
       ⟨16, 0, 32783, ⟨(some 65), some (52, false), .bin .sub (T 64) (I 2)⟩⟩,
       ⟨17, 0, 114703, ⟨(some 66), some (52, false), .ia 1 (T 63) (T 65)⟩⟩,
       ⟨18, 1, 245775, ⟨(some 67), some (52, false), .ld1 (T 66)⟩⟩,
       ⟨19, 0, 507919, ⟨(some 68), some (52, false), .cvi .u64 (T 67)⟩⟩,
       ⟨20, 0, 1044495, ⟨(some 69), some (52, false), .bin .or (T 62) (T 68)⟩⟩,
       ⟨21, 0, 2097151, ⟨(some 70), some (52, false), .bin .gtr (T 60) (T 69)⟩⟩,
       ⟨22, 0, 4194303, D 71 (.pick (T 52) (.const (.bool true)) (T 70))⟩]) (
     .cond (T 71) (
      .skip) (
      .exit 0))) (
    .block 1 (
     .seq (
      .ops [D 72 (.mv (T 7)),
       D 73 (.bin .sub (T 72) (.const (.int .u64 1))),
       D 7 (.mv (T 73))]) (
     .trim [0, 1, 5, 7, 8] (
      .ops [D 74 (.mv (T 8)),
       D 75 (.mv (T 1)),
       D 76 (.mv (T 5)),
       D 77 (.bin .sub (T 76) (I 1)),
       D 78 (.ia 1 (T 75) (T 77)),
       D 79 (.ld1 (T 78)),
       D 80 (.cvi .u64 (T 79)),
       D 81 (.bin .add (T 74) (T 80)),
       D 8 (.mv (T 81))]) (
     .seq (
      .ops [D 82 (.mv (T 8)),
       D 83 (.shrc (T 82) 32),
       D 84 (.bin .gtr (T 83) (.const (.int .u64 0)))]) (
     .cond (T 84) (
      .exit 0) (
      .skip))))))))) (
 .seq (
  .ops [D 9 (.mv (.const (.int .u64 0))),
   D 10 (.mv (.const (.int .u64 0)))]) (
 .trim [0, 1, 5, 7, 9, 10] (
  .seq (
   .ops [D 85 (.mv (T 1)),
    D 86 (.len (T 85)),
    D 87 (.mv (I 0))]) (
  .block 2 (
   .loop [0, 1, 5, 7, 9, 10, 85, 86, 87] (
    .seq (
     .ops [D 88 (.bin .lss (T 87) (T 86))]) (
    .seq (
     .cond (T 88) (
      .skip) (
      .exit 2)) (
    .trim [0, 1, 5, 7, 9, 10, 85, 86, 87] (
     .block 3 (
      .seq (
       .ops [D 89 (.mv (T 87)),
        D 90 (.ia 1 (T 85) (T 87)),
        D 91 (.ld1 (T 90)),
        D 11 (.mv (T 89)),
        D 12 (.mv (T 91))]) (
      .trim [0, 1, 5, 7, 9, 10, 11, 85, 86, 87] (
       .ops [D 92 (.mv (T 9)),
        D 93 (.mv (T 7)),
        D 94 (.mv (T 12)),
        D 95 (.cvi .u64 (T 94)),
        D 96 (.bin .mul (T 93) (T 95)),
        D 97 (.bin .add (T 92) (T 96)),
        D 9 (.mv (T 97))]) (
      .trim [0, 1, 5, 7, 9, 11, 13, 85, 86, 87] (
       .ops [D 98 (.mv (T 0)),
        D 99 (.mv (T 11)),
        D 100 (.ia 1 (T 98) (T 99)),
        D 101 (.ld1 (T 100)),
        D 102 (.cvi .u64 (T 101)),
        D 103 (.mv (T 9)),
        D 104 (.cvi .u32 (T 103)),
        D 105 (.cvi .u64 (T 104)),
        D 106 (.bin .sub (T 102) (T 105)),
        D 107 (.mv (T 10)),
        D 108 (.bin .sub (T 106) (T 107)),
        D 13 (.mv (T 108))]) (
      .trim [0, 1, 5, 7, 9, 13, 85, 86, 87] (
       .ops [D 109 (.mv (T 0)),
        D 110 (.mv (T 11)),
        D 111 (.mv (T 13)),
        D 112 (.cvi .u32 (T 111)),
        D 113 (.ia 1 (T 109) (T 110)),
        E (.st 1 (T 113) (T 112))]) (
      .seq (
       .ops [D 114 (.mv (T 9)),
        D 115 (.shrc (T 114) 32),
        D 9 (.mv (T 115))]) (
      .ops [D 116 (.mv (T 13)),
       D 117 (.shrc (T 116) 63),
       D 10 (.mv (T 117))]))))))) (
    .ops [D 118 (.bin .add (T 87) (I 1)),
     D 87 (.mv (T 118))]))))))) (
 .trim [0, 1, 5, 7, 14] (
  .ops [D 119 (.mv (T 0)),
   D 120 (.mv (T 5)),
   D 121 (.ia 1 (T 119) (T 120)),
   D 122 (.ld1 (T 121)),
   D 123 (.cvi .u64 (T 122)),
   D 124 (.mv (T 9)),
   D 125 (.bin .sub (T 123) (T 124)),
   D 126 (.mv (T 10)),
   D 127 (.bin .sub (T 125) (T 126)),
   D 14 (.mv (T 127))]) (
 .trim [0, 1, 5, 7, 14] (
  .ops [D 128 (.mv (T 0)),
   D 129 (.mv (T 5)),
   D 130 (.mv (T 14)),
   D 131 (.cvi .u32 (T 130)),
   D 132 (.ia 1 (T 128) (T 129)),
   E (.st 1 (T 132) (T 131))]) (
 .trim [0, 1, 5, 7] (
  .seq (
   .ops [D 133 (.mv (T 14)),
    D 134 (.shrc (T 133) 63),
    D 135 (.bin .eql (T 134) (.const (.int .u64 0)))]) (
  .cond (T 135) (
   .seq (
    .ops [D 136 (.mv (T 7)),
     D 137 (.cvi .u32 (T 136)),
     D 4 (.mv (T 137))]) (
   .ret)) (
   .skip))) (
 .seq (
  .ops [D 15 (.mv (.const (.int .u64 0)))]) (
 .trim [0, 5, 7, 15] (
  .seq (
   .ops [D 138 (.mv (T 1)),
    D 139 (.len (T 138)),
    D 140 (.mv (I 0))]) (
  .block 4 (
   .loop [0, 5, 7, 15, 138, 139, 140] (
    .seq (
     .ops [D 141 (.bin .lss (T 140) (T 139))]) (
    .seq (
     .cond (T 141) (
      .skip) (
      .exit 4)) (
    .trim [0, 5, 7, 15, 138, 139, 140] (
     .block 5 (
      .seq (
       .ops [D 142 (.mv (T 140)),
        D 143 (.ia 1 (T 138) (T 140)),
        D 144 (.ld1 (T 143)),
        D 16 (.mv (T 142)),
        D 17 (.mv (T 144))]) (
      .trim [0, 5, 7, 15, 16, 138, 139, 140] (
       .ops [D 145 (.mv (T 15)),
        D 146 (.mv (T 0)),
        D 147 (.mv (T 16)),
        D 148 (.ia 1 (T 146) (T 147)),
        D 149 (.ld1 (T 148)),
        D 150 (.cvi .u64 (T 149)),
        D 151 (.mv (T 17)),
        D 152 (.cvi .u64 (T 151)),
        D 153 (.bin .add (T 150) (T 152)),
        D 154 (.bin .add (T 145) (T 153)),
        D 15 (.mv (T 154))]) (
      .trim [0, 5, 7, 15, 138, 139, 140] (
       .ops [D 155 (.mv (T 0)),
        D 156 (.mv (T 16)),
        D 157 (.mv (T 15)),
        D 158 (.cvi .u32 (T 157)),
        D 159 (.ia 1 (T 155) (T 156)),
        E (.st 1 (T 159) (T 158))]) (
      .ops [D 160 (.mv (T 15)),
       D 161 (.shrc (T 160) 32),
       D 15 (.mv (T 161))]))))) (
    .ops [D 162 (.bin .add (T 140) (I 1)),
     D 140 (.mv (T 162))]))))))) (
 .trim [7] (
  .ops [D 163 (.mv (T 0)),
   D 164 (.mv (T 5)),
   D 165 (.ia 1 (T 163) (T 164)),
   D 166 (.ld1 (T 165)),
   D 167 (.mv (T 15)),
   D 168 (.cvi .u32 (T 167)),
   D 169 (.bin .add (T 166) (T 168)),
   D 170 (.ia 1 (T 163) (T 164)),
   E (.st 1 (T 170) (T 169))]) (
 .seq (
  .ops [D 171 (.mv (T 7)),
   D 172 (.bin .sub (T 171) (.const (.int .u64 1))),
   D 173 (.cvi .u32 (T 172)),
   D 4 (.mv (T 173))]) (
 .ret))))))))))))))⟩
theorem num_digit_ok : Ok Try.prog 132 num_digit := ⟨by kernel_rfl, by kernel_rfl⟩

/-- math/bits.Len32 -/
def bits_Len32 : AF := ⟨19, [.tmp 2],
 .seq (
  .ops [D 2 (.mv (I 0))]) (
 .seq (
  .seq (
   .ops [D 3 (.mv (T 0)),
    D 4 (.bin .geq (T 3) (.const (.int .u32 65536)))]) (
  .cond (T 4) (
   .seq (
    .ops [D 5 (.mv (T 0)),
     D 6 (.shrc (T 5) 16),
     D 0 (.mv (T 6))]) (
   .ops [D 2 (.mv (I 16))])) (
   .skip))) (
 .trim [0, 2] (
  .seq (
   .ops [D 7 (.mv (T 0)),
    D 8 (.bin .geq (T 7) (.const (.int .u32 256)))]) (
  .cond (T 8) (
   .seq (
    .ops [D 9 (.mv (T 0)),
     D 10 (.shrc (T 9) 8),
     D 0 (.mv (T 10))]) (
   .ops [D 11 (.mv (T 2)),
    D 12 (.bin .add (T 11) (I 8)),
    D 2 (.mv (T 12))])) (
   .skip))) (
 .trim [2] (
  .ops [D 13 (.mv (T 2)),
   D 14 (.mv (T 0)),
   D 15 (.cvi .u8 (T 14)),
   D 16 (.ixs (.const (.string ⟨#[0, 1, 2, 2, 3, 3, 3, 3, 4, 4, 4, 4, 4, 4, 4, 4, 5, 5, 5, 5, 5, 5, 5, 5, 5, 5, 5, 5, 5, 5, 5, 5, 6, 6, 6, 6, 6, 6, 6, 6, 6, 6, 6, 6, 6, 6, 6, 6, 6, 6, 6, 6, 6, 6, 6, 6, 6, 6, 6, 6, 6, 6, 6, 6, 7, 7, 7, 7, 7, 7, 7, 7, 7, 7, 7, 7, 7, 7, 7, 7, 7, 7, 7, 7, 7, 7, 7, 7, 7, 7, 7, 7, 7, 7, 7, 7, 7, 7, 7, 7, 7, 7, 7, 7, 7, 7, 7, 7, 7, 7, 7, 7, 7, 7, 7, 7, 7, 7, 7, 7, 7, 7, 7, 7, 7, 7, 7, 7, 8, 8, 8, 8, 8, 8, 8, 8, 8, 8, 8, 8, 8, 8, 8, 8, 8, 8, 8, 8, 8, 8, 8, 8, 8, 8, 8, 8, 8, 8, 8, 8, 8, 8, 8, 8, 8, 8, 8, 8, 8, 8, 8, 8, 8, 8, 8, 8, 8, 8, 8, 8, 8, 8, 8, 8, 8, 8, 8, 8, 8, 8, 8, 8, 8, 8, 8, 8, 8, 8, 8, 8, 8, 8, 8, 8, 8, 8, 8, 8, 8, 8, 8, 8, 8, 8, 8, 8, 8, 8, 8, 8, 8, 8, 8, 8, 8, 8, 8, 8, 8, 8, 8, 8, 8, 8, 8, 8, 8, 8, 8, 8, 8, 8, 8, 8, 8, 8, 8, 8, 8, 8, 8, 8, 8, 8, 8, 8]⟩)) (T 15)),
   D 17 (.cvi .i64 (T 16)),
   D 18 (.bin .add (T 13) (T 17)),
   D 2 (.mv (T 18))]) (
 .ret))))⟩
theorem bits_Len32_ok : Ok Try.prog 133 bits_Len32 := ⟨by kernel_rfl, by kernel_rfl⟩

end Go.Proofs.Ytbfbgkhlngkifaa.Af

/- Nothing of its own: the functions stand in one text. -/

/- Tracks in memory. Plain theorems over the abstract machine.
   Conditions: none. -/
namespace Go.Proofs.Ytbfbgkhlngkifaa.Md
open Go Go.RowKit Go.Proofs.Ytbfbgkhlngkifaa.Am Go.Proofs.Ytbfbgkhlngkifaa.Af
set_option linter.unusedVariables false
set_option linter.unusedSimpArgs false
set_option linter.defProp false
set_option maxRecDepth 20000

theorem i64 {n : Int} (h : -9223372036854775808 ≤ n ∧ n ≤ 9223372036854775807) : IntKind.i64.wrap n = n := IntWalk.i64_in n h
theorem u64 {n : Int} (h : 0 ≤ n ∧ n ≤ 18446744073709551615) : IntKind.u64.wrap n = n := IntWalk.u64_in n h
theorem u32 {n : Int} (h : 0 ≤ n ∧ n ≤ 4294967295) : IntKind.u32.wrap n = n := IntWalk.u32_in n h
theorem u8 {n : Int} (h : 0 ≤ n ∧ n ≤ 255) : IntKind.u8.wrap n = n := IntWalk.u8_in n h
theorem i64s {i : Nat} (h : (i : Int) ≤ 9223372036854775806) : IntKind.i64.wrap ((i : Int) + 1) = ((i + 1 : Nat) : Int) := by rw [i64 (by omega)]; rfl
def Bytes (l : List Int) : Prop := ∀ x ∈ l, 0 ≤ x ∧ x ≤ 255

/-! ### words for simp -/
theorem nadd (a b : Nat) : (a : Int) + (b : Int) = ((a + b : Nat) : Int) := rfl
theorem nadd1 (a : Nat) : (a : Int) + 1 = ((a + 1 : Nat) : Int) := rfl
theorem nsub1 (a : Nat) : ((a + 1 : Nat) : Int) - 1 = (a : Int) := by omega
theorem tn_1 : Int.toNat 1 = 1 := rfl
theorem le01 : ((0 : Int) ≤ 1) = True := by simp
theorem le00 : ((0 : Int) ≤ 0) = True := by simp
theorem lt00 : ((0 : Int) < ((0 : Nat) : Int)) = False := by simp
theorem src_n1 {h : Hp} {a : Value} {md : Md} : (h.new ⟨[a], md⟩).src 1 (.slice (some ⟨h.size, 0, none⟩) 1 1) = some [a] := src_new rfl
theorem src_n2 {h : Hp} {a b : Value} {md : Md} : (h.new ⟨[a, b], md⟩).src 2 (.slice (some ⟨h.size, 0, none⟩) 1 1) = some [a, b] := src_new rfl
theorem src_n6 {h : Hp} {a b c d e f : Value} {md : Md} : (h.new ⟨[a, b, c, d, e, f], md⟩).src 6 (.slice (some ⟨h.size, 0, none⟩) 1 1) = some [a, b, c, d, e, f] := src_new rfl
theorem rdN_new {h : Hp} {cs : List Value} {md : Md} {m : Nat} (e : lenIs cs m = true) : (h.new ⟨cs, md⟩).rdN h.size 0 m = some cs := by
  have hl : cs.length = m := by rw [lenIs_p]; exact e
  rw [rdN_mk get_new_self (by simp [hl]), List.drop_zero, List.take_of_length_le (by simp [hl])]
theorem rd_n2 {h : Hp} {a b : Value} {md : Md} : (h.new ⟨[a, b], md⟩).rdN h.size 0 2 = some [a, b] := rdN_new rfl
theorem rd_n4 {h : Hp} {a b c d : Value} {md : Md} : (h.new ⟨[a, b, c, d], md⟩).rdN h.size 0 4 = some [a, b, c, d] := rdN_new rfl
theorem rd_n6 {h : Hp} {a b c d e f : Value} {md : Md} : (h.new ⟨[a, b, c, d, e, f], md⟩).rdN h.size 0 6 = some [a, b, c, d, e, f] := rdN_new rfl
theorem rd_n11 {h : Hp} {a b c d e f g i j k l : Value} {md : Md} : (h.new ⟨[a, b, c, d, e, f, g, i, j, k, l], md⟩).rdN h.size 0 11 = some [a, b, c, d, e, f, g, i, j, k, l] := rdN_new rfl
def CQ := And.intro @rd_n2 <| And.intro @rd_n4 <| And.intro @rd_n6 <| And.intro @rd_n11 <| And.intro @tn_1 (And.intro @le01 (And.intro @le00 (And.intro @lt00 (And.intro @nsub1 (And.intro @nadd1 (And.intro @nadd (And.intro @src_n1 (And.intro @src_n2 (And.intro @src_n6 @new_put)))))))))

/-! ### rows -/
theorem rdN_sub {h : Hp} {b off m k l : Nat} {cs : List Value} (e : h.rdN b off m = some cs) (hk : k + l ≤ m) : h.rdN b (off + k) l = some ((cs.drop k).take l) := by
  obtain ⟨ob, h1, h2, rfl⟩ := rdN_of e
  rw [rdN_mk h1 (by omega)]
  congr 1
  rw [List.drop_take, List.take_take, List.drop_drop, Nat.min_eq_left (by omega)]
theorem row_elem {α : Type} {d : AKd α} {z : Nat} (hz : d.sz = z) {h g : Hp} {oa : Option Addr} {n : Nat} {r : List Value} {xs : List α} (rd : Rd h z oa n r) (row : AKd.Row (d.A g) xs r) (hl : xs.length = n) {i : Nat} (hi : i < n) :
    ∃ b off sp x c, oa = some ⟨b, off, sp⟩ ∧ flagOk sp = true ∧ xs[i]? = some x ∧ d.A g x c ∧ h.rdN b (off + i * z) z = some c ∧ ∀ j v, c[j]? = some v → h.rd b (off + i * z + j) = some v := by
  subst hz
  obtain ⟨b, off, sp, e, h1, h2⟩ := rd.pos (by omega)
  have hx : xs[i]? = some xs[i] := List.getElem?_eq_getElem (by omega)
  have hc := AKd.Row.get (fun x cs h => d.alen h) row hx
  have h3 := rdN_sub (k := i * d.sz) (l := d.sz) h2 (by rw [← Nat.succ_mul]; exact Nat.mul_le_mul_right _ hi)
  exact ⟨b, off, sp, _, _, e, h1, hx, hc, h3, fun j v hv => rdN_get h3 hv⟩
theorem row_flat {α : Type} {A : α → List Value → Prop} {f : α → List Value} (hf : ∀ x cs, A x cs → cs = f x) : ∀ {xs : List α} {cs : List Value}, AKd.Row A xs cs → cs = xs.flatMap f
  | [], _, h => h
  | x :: xs, _, ⟨c, r, e, h1, h2⟩ => by
    rw [e, hf x c h1, row_flat hf h2]; rfl
theorem flat_row {α : Type} {A : α → List Value → Prop} {f : α → List Value} (hf : ∀ x, A x (f x)) : ∀ xs : List α, AKd.Row A xs (xs.flatMap f)
  | [] => rfl
  | x :: xs => ⟨f x, xs.flatMap f, rfl, hf x, flat_row hf xs⟩
theorem row_snoc {α : Type} {A : α → List Value → Prop} : ∀ {xs : List α} {x : α} {cs c : List Value}, AKd.Row A xs cs → A x c → AKd.Row A (xs ++ [x]) (cs ++ c)
  | [], x, cs, c, h, hx => by
    have h : cs = [] := h
    subst h
    exact ⟨c, [], by simp, hx, rfl⟩
  | y :: xs, x, cs, c, ⟨d, r, e, h1, h2⟩, hx => ⟨d, r ++ c, by rw [e]; simp, h1, row_snoc h2 hx⟩
theorem row_len {α : Type} {d : AKd α} {h : Hp} {xs : List α} {r : List Value} (row : AKd.Row (d.A h) xs r) : r.length = xs.length * d.sz := AKd.Row.len (fun x cs => d.alen) row
theorem _root_.Go.Proofs.Ytbfbgkhlngkifaa.Am.Rd.keepW {h h' : Hp} {z n : Nat} {oa : Option Addr} {cs : List Value} {F : Nat → Prop} (w : Wf h) (r : Rd h z oa n cs) (f : Fm F h h') (hF : ∀ x, x < h.size → ¬ F x) : Rd h' z oa n cs :=
  ⟨r.len, r.nil, fun a ha => (r.at_ a ha).imp (fun ⟨h1, h2⟩ => ⟨h1, (rdN_keep (f.get _ (rdN_wf w h2) (hF _ (rdN_wf w h2)))).trans h2⟩) id⟩
/-- What only new blocks have suffered. -/
theorem _root_.Go.Proofs.Ytbfbgkhlngkifaa.Am.Fm.exF {h h' : Hp} {F : Nat → Prop} (f : Fm F h h') (w : Wf h) (hF : ∀ x, x < h.size → ¬ F x) : Ex h h' := fun b o e => f.keep w e (hF _ (w.lt e))
theorem _root_.Go.Proofs.Ytbfbgkhlngkifaa.Am.Ex.rd {h h' : Hp} (x : Ex h h') {b i : Nat} {v : Value} (e : h.rd b i = some v) : h'.rd b i = some v := by
  unfold Hp.rd at e ⊢
  cases hg : h.get b with
  | none => rw [hg] at e; cases e
  | some o => rw [hg] at e; rw [x b o hg]; exact e
theorem ints_open {k : IntKind} {h : Hp} {xs : List Int} {cs : List Value} (a : (AKd.slice (AKd.int k)).A h xs cs) : ∃ oa c, cs = [.slice oa xs.length c] ∧ Rd h 1 oa xs.length (xs.map (Value.int k)) ∧ xs.length ≤ c := by
  obtain ⟨oa, c, r, h1, h2, h3, h4⟩ := a
  have := AKd.Row.int h3
  subst this
  exact ⟨oa, c, h1, h2, h4⟩
theorem flat_int {k : IntKind} : ∀ xs : List Int, xs.flatMap (fun x => [Value.int k x]) = xs.map (Value.int k)
  | [] => rfl
  | x :: xs => by rw [List.flatMap_cons, flat_int xs]; rfl
theorem ints_mk {k : IntKind} {h : Hp} {xs : List Int} {oa : Option Addr} {c : Nat} (r : Rd h 1 oa xs.length (xs.map (Value.int k))) (hc : xs.length ≤ c) : (AKd.slice (AKd.int k)).A h xs [.slice oa xs.length c] := by
  refine ⟨oa, c, _, rfl, r, ?_, hc⟩
  have := flat_row (A := (AKd.int k).A h) (f := fun x => [Value.int k x]) (fun x => rfl) xs
  have e := flat_int (k := k) xs
  rw [e] at this
  exact this

/-! ### samples and tracks -/
abbrev Edit := Int × Int × Int × Int
abbrev Rf := ByteArray × Int
abbrev Smp := Int × Int × Int × Bool × List Int × List Int
abbrev Trk := Int × Int × ByteArray × Int × List Int × ByteArray × ByteArray × Int × List Edit × List Rf × List Smp
abbrev editK : AKd Edit := AKd.pair (AKd.int .i64) (AKd.pair (AKd.int .i64) (AKd.pair (AKd.int .i64) (AKd.int .i64)))
abbrev refK : AKd Rf := AKd.pair AKd.string (AKd.int .i64)
abbrev smpK : AKd Smp := AKd.pair (AKd.int .i64) (AKd.pair (AKd.int .i64) (AKd.pair (AKd.int .i64) (AKd.pair AKd.bool (AKd.pair (AKd.slice (AKd.int .i64)) (AKd.slice (AKd.int .u8))))))
abbrev trkK : AKd Trk := AKd.pair (AKd.int .i64) (AKd.pair (AKd.int .i64) (AKd.pair AKd.string (AKd.pair (AKd.int .i64) (AKd.pair (AKd.slice (AKd.int .u8)) (AKd.pair AKd.string (AKd.pair AKd.string (AKd.pair (AKd.int .i64)
  (AKd.pair (AKd.slice editK) (AKd.pair (AKd.slice refK) (AKd.slice smpK))))))))))
def Smp.dts (s : Smp) : Int := s.1
def Smp.pts (s : Smp) : Int := s.2.1
def Smp.dur (s : Smp) : Int := s.2.2.1
def Smp.sync (s : Smp) : Bool := s.2.2.2.1
def Smp.deps (s : Smp) : List Int := s.2.2.2.2.1
def Smp.data (s : Smp) : List Int := s.2.2.2.2.2
def editC (e : Edit) : List Value := [.int .i64 e.1, .int .i64 e.2.1, .int .i64 e.2.2.1, .int .i64 e.2.2.2]
def refC (r : Rf) : List Value := [.string r.1, .int .i64 r.2]
theorem edit_cells {h : Hp} (x : Edit) (cs : List Value) (a : editK.A h x cs) : cs = editC x := by
  obtain ⟨c1, c2, rfl, h1, c3, c4, rfl, h2, c5, c6, rfl, h3, h4⟩ := a
  have h1 : c1 = [.int .i64 x.1] := h1
  have h2 : c3 = [.int .i64 x.2.1] := h2
  have h3 : c5 = [.int .i64 x.2.2.1] := h3
  have h4 : c6 = [.int .i64 x.2.2.2] := h4
  rw [h1, h2, h3, h4]; rfl
theorem ref_cells {h : Hp} (x : Rf) (cs : List Value) (a : refK.A h x cs) : cs = refC x := by
  obtain ⟨c1, c2, rfl, h1, h2⟩ := a
  have h1 : c1 = [.string x.1] := h1
  have h2 : c2 = [.int .i64 x.2] := h2
  rw [h1, h2]; rfl
theorem smp_open {h : Hp} {s : Smp} {c : List Value} (a : smpK.A h s c) : ∃ pa pc da dc, c = [.int .i64 s.dts, .int .i64 s.pts, .int .i64 s.dur, .bool s.sync, .slice pa s.deps.length pc, .slice da s.data.length dc] ∧
    Rd h 1 pa s.deps.length (s.deps.map (Value.int .i64)) ∧ s.deps.length ≤ pc ∧ Rd h 1 da s.data.length (s.data.map (Value.int .u8)) ∧ s.data.length ≤ dc := by
  obtain ⟨c1, c2, rfl, h1, c3, c4, rfl, h2, c5, c6, rfl, h3, c7, c8, rfl, h4, c9, c10, rfl, h5, h6⟩ := a
  have h1 : c1 = [.int .i64 s.1] := h1
  have h2 : c3 = [.int .i64 s.2.1] := h2
  have h3 : c5 = [.int .i64 s.2.2.1] := h3
  have h4 : c7 = [.bool s.2.2.2.1] := h4
  obtain ⟨pa, pc, rfl, r1, l1⟩ := ints_open h5
  obtain ⟨da, dc, rfl, r2, l2⟩ := ints_open h6
  exact ⟨pa, pc, da, dc, by rw [h1, h2, h3, h4]; rfl, r1, l1, r2, l2⟩
theorem smp_mk {h : Hp} {s : Smp} {pa da : Option Addr} {pc dc : Nat} (r1 : Rd h 1 pa s.deps.length (s.deps.map (Value.int .i64))) (l1 : s.deps.length ≤ pc) (r2 : Rd h 1 da s.data.length (s.data.map (Value.int .u8))) (l2 : s.data.length ≤ dc) :
    smpK.A h s [.int .i64 s.dts, .int .i64 s.pts, .int .i64 s.dur, .bool s.sync, .slice pa s.deps.length pc, .slice da s.data.length dc] :=
  ⟨[.int .i64 s.1], _, rfl, rfl, [.int .i64 s.2.1], _, rfl, rfl, [.int .i64 s.2.2.1], _, rfl, rfl, [.bool s.2.2.2.1], _, rfl, rfl, [_], [_], rfl, ints_mk r1 l1, ints_mk r2 l2⟩
def Trk.id (t : Trk) : Int := t.1
def Trk.kind (t : Trk) : Int := t.2.1
def Trk.codec (t : Trk) : ByteArray := t.2.2.1
def Trk.scale (t : Trk) : Int := t.2.2.2.1
def Trk.setup (t : Trk) : List Int := t.2.2.2.2.1
def Trk.lang (t : Trk) : ByteArray := t.2.2.2.2.2.1
def Trk.name (t : Trk) : ByteArray := t.2.2.2.2.2.2.1
def Trk.preroll (t : Trk) : Int := t.2.2.2.2.2.2.2.1
def Trk.edits (t : Trk) : List Edit := t.2.2.2.2.2.2.2.2.1
def Trk.refs (t : Trk) : List Rf := t.2.2.2.2.2.2.2.2.2.1
def Trk.samples (t : Trk) : List Smp := t.2.2.2.2.2.2.2.2.2.2
/-- The cells of a track, and what they lead to. -/
structure TrkC (h : Hp) (t : Trk) (cs : List Value) (sa ea ra qa : Option Addr) (sc ec rc qc : Nat) (qr : List Value) : Prop where
  cells : cs = [.int .i64 t.id, .int .i64 t.kind, .string t.codec, .int .i64 t.scale, .slice sa t.setup.length sc, .string t.lang, .string t.name, .int .i64 t.preroll, .slice ea t.edits.length ec, .slice ra t.refs.length rc, .slice qa t.samples.length qc]
  setup : Rd h 1 sa t.setup.length (t.setup.map (Value.int .u8))
  edits : Rd h 4 ea t.edits.length (t.edits.flatMap editC)
  refs : Rd h 2 ra t.refs.length (t.refs.flatMap refC)
  samples : Rd h 6 qa t.samples.length qr
  row : AKd.Row (smpK.A h) t.samples qr
  c1 : t.setup.length ≤ sc
  c2 : t.edits.length ≤ ec
  c3 : t.refs.length ≤ rc
  c4 : t.samples.length ≤ qc
theorem trk_open {h : Hp} {t : Trk} {cs : List Value} (a : trkK.A h t cs) : ∃ sa ea ra qa sc ec rc qc qr, TrkC h t cs sa ea ra qa sc ec rc qc qr := by
  obtain ⟨c1, c2, rfl, h1, c3, c4, rfl, h2, c5, c6, rfl, h3, c7, c8, rfl, h4, c9, c10, rfl, h5, c11, c12, rfl, h6, c13, c14, rfl, h7, c15, c16, rfl, h8, c17, c18, rfl, h9, c19, c20, rfl, h10, h11⟩ := a
  have h1 : c1 = [.int .i64 t.1] := h1
  have h2 : c3 = [.int .i64 t.2.1] := h2
  have h3 : c5 = [.string t.2.2.1] := h3
  have h4 : c7 = [.int .i64 t.2.2.2.1] := h4
  have h6 : c11 = [.string t.2.2.2.2.2.1] := h6
  have h7 : c13 = [.string t.2.2.2.2.2.2.1] := h7
  have h8 : c15 = [.int .i64 t.2.2.2.2.2.2.2.1] := h8
  obtain ⟨sa, sc, rfl, r1, l1⟩ := ints_open h5
  obtain ⟨ea, ec, er, rfl, r2, w2, l2⟩ := h9
  obtain ⟨ra, rc, rr, rfl, r3, w3, l3⟩ := h10
  obtain ⟨qa, qc, qr, rfl, r4, w4, l4⟩ := h11
  rw [row_flat edit_cells w2] at r2
  rw [row_flat ref_cells w3] at r3
  exact ⟨sa, ea, ra, qa, sc, ec, rc, qc, qr, ⟨by rw [h1, h2, h3, h4, h6, h7, h8]; rfl, r1, r2, r3, r4, w4, l1, l2, l3, l4⟩⟩
theorem editA (h : Hp) (x : Edit) : editK.A h x (editC x) := ⟨[.int .i64 x.1], _, rfl, rfl, [.int .i64 x.2.1], _, rfl, rfl, [.int .i64 x.2.2.1], [.int .i64 x.2.2.2], rfl, rfl, rfl⟩
theorem refA (h : Hp) (x : Rf) : refK.A h x (refC x) := ⟨[.string x.1], [.int .i64 x.2], rfl, rfl, rfl⟩
theorem TrkC.mk' {h : Hp} {t : Trk} {cs : List Value} {sa ea ra qa : Option Addr} {sc ec rc qc : Nat} {qr : List Value} (c : TrkC h t cs sa ea ra qa sc ec rc qc qr) : trkK.A h t cs := by
  rw [c.cells]
  exact ⟨[.int .i64 t.1], _, rfl, rfl, [.int .i64 t.2.1], _, rfl, rfl, [.string t.2.2.1], _, rfl, rfl, [.int .i64 t.2.2.2.1], _, rfl, rfl, [_], _, rfl, ints_mk c.setup c.c1, [.string t.2.2.2.2.2.1], _, rfl, rfl, [.string t.2.2.2.2.2.2.1], _, rfl, rfl, [.int .i64 t.2.2.2.2.2.2.2.1], _, rfl, rfl,
    [_], _, rfl, ⟨ea, ec, _, rfl, c.edits, flat_row (editA h) _, c.c2⟩, [_], [_], rfl, ⟨ra, rc, _, rfl, c.refs, flat_row (refA h) _, c.c3⟩, ⟨qa, qc, qr, rfl, c.samples, c.row, c.c4⟩⟩
theorem TrkC.ex {h h' : Hp} {t : Trk} {cs : List Value} {sa ea ra qa : Option Addr} {sc ec rc qc : Nat} {qr : List Value} (c : TrkC h t cs sa ea ra qa sc ec rc qc qr) (x : Ex h h') : TrkC h' t cs sa ea ra qa sc ec rc qc qr :=
  ⟨c.cells, c.setup.ex x, c.edits.ex x, c.refs.ex x, c.samples.ex x, c.row.mono fun y cs hy => smpK.mono x hy, c.c1, c.c2, c.c3, c.c4⟩
end Go.Proofs.Ytbfbgkhlngkifaa.Md

/- Limbs in memory. Plain theorems over the abstract machine.
   Conditions: none. -/
namespace Go.Proofs.Ytbfbgkhlngkifaa.Nu
open Go Go.RowKit Go.Proofs.Ytbfbgkhlngkifaa.Am Go.Proofs.Ytbfbgkhlngkifaa.Af Go.Proofs.Ytbfbgkhlngkifaa.Md
set_option linter.unusedVariables false
set_option linter.unusedSimpArgs false
set_option linter.defProp false
set_option maxRecDepth 20000
set_option maxHeartbeats 1000000

theorem nNo {h : Hp} : ∀ x, x < h.size → ¬ No x := fun x _ f => f
abbrev B32 : Nat := 4294967296
theorem b32 : 1 < B32 := by decide
/-- The limbs of a number. -/
def dg (v : Nat) : List Nat := dig B32 b32 v
def u3 (M : List Nat) : List Value := (M.map Int.ofNat).map (Value.int .u32)
theorem u3_len (M : List Nat) : (u3 M).length = M.length := by simp [u3]
theorem u3_take (M : List Nat) (k : Nat) : (u3 M).take k = u3 (M.take k) := by simp [u3, List.map_take]
theorem u3_app (a b : List Nat) : u3 (a ++ b) = u3 a ++ u3 b := by simp [u3]
theorem _root_.Go.Proofs.Ytbfbgkhlngkifaa.Am.Rd.take {h : Hp} {oa : Option Addr} {n k : Nat} {cs : List Value} (r : Rd h 1 oa n cs) (hk : k ≤ n) : Rd h 1 oa k (cs.take k) := by
  refine ⟨by have := r.len; simp; omega, fun e => by have := r.nil e; omega, fun a ha => ?_⟩
  rcases r.at_ a ha with ⟨h1, h2⟩ | ⟨h1, h2⟩
  · refine .inl ⟨h1, ?_⟩
    have := rdN_sub (k := 0) (l := k * 1) h2 (by omega)
    simpa using this
  · exact .inr ⟨h1, by omega⟩
theorem _root_.Go.Proofs.Ytbfbgkhlngkifaa.Am.Rd.nat {h : Hp} {oa : Option Addr} {n : Nat} {M : List Nat} (r : Rd h 1 oa n (u3 M)) {i : Nat} (hi : i < n) :
    ∃ b off sp d, oa = some ⟨b, off, sp⟩ ∧ flagOk sp = true ∧ M[i]? = some d ∧ h.rd b (off + i) = some (.int .u32 (d : Int)) := by
  obtain ⟨b, off, sp, h1, h2, v, h3, h4⟩ := r.int hi
  rw [List.getElem?_map] at h3
  cases hm : M[i]? with
  | none => rw [hm] at h3; cases h3
  | some d => rw [hm] at h3; cases h3; exact ⟨b, off, sp, d, h1, h2, rfl, h4⟩
theorem _root_.Go.Proofs.Ytbfbgkhlngkifaa.Am.Rd.mlen {h : Hp} {oa : Option Addr} {n : Nat} {M : List Nat} (r : Rd h 1 oa n (u3 M)) : M.length = n := by
  have := r.len; rw [u3_len] at this; omega
theorem Dl.take {B : Nat} {M : List Nat} (h : Dl B M) (k : Nat) : Dl B (M.take k) := fun d hd => h d (List.mem_of_mem_take hd)
theorem Dl.at {B : Nat} {M : List Nat} (h : Dl B M) {i d : Nat} (e : M[i]? = some d) : d < B := h d (List.mem_of_getElem? e)
/-- A slice of limbs. -/
structure Lm (h : Hp) (oa : Option Addr) (n c : Nat) (M : List Nat) : Prop where
  rd : Rd h 1 oa n (u3 M)
  le : n ≤ c
  dl : Dl B32 M
theorem Lm.len {h : Hp} {oa : Option Addr} {n c : Nat} {M : List Nat} (l : Lm h oa n c M) : M.length = n := l.rd.mlen
/-- A slice that is the limbs of a number. -/
def LmV (h : Hp) (v : Value) (x : Nat) : Prop := ∃ oa c, v = .slice oa (dg x).length c ∧ Lm h oa (dg x).length c (dg x)
theorem dg_dl (x : Nat) : Dl B32 (dg x) := dig_dl x
theorem dg_val (x : Nat) : vL B32 (dg x) = x := dig_val x
theorem nz_take {M : List Nat} {k d : Nat} (h : M[k]? = some d) (hd : d ≠ 0) : Nz (M.take (k + 1)) := by
  unfold Nz
  rw [List.take_add_one, h]
  simp [hd]
theorem c_trim {h : Hp} {oa : Option Addr} {n c : Nat} {M : List Nat} (l : Lm h oa n c M) (hn : n ≤ 1000000) :
    ACalls Try.prog 129 [.slice oa n c] h fun v h' => LmV h v (vL B32 M) ∧ h' = h := by
  refine num_trim_ok.snd hm rfl fun w => ?_
  rw [WF_eq, num_trim]
  simp +contextual (disch := omega) only [↓AM, ↓AV, AP, CQ]
  have hml := l.len
  refine WL.mk (fun k t h' => h' = h ∧ k ≤ n ∧ vL B32 (M.take k) = vL B32 M ∧ t = [(0, some (.slice oa k c))]) ⟨n, rfl, Nat.le_refl _, by rw [List.take_of_length_le (by omega)], rfl⟩ ?_
  rintro k t hh ⟨rfl, hk, hv, rfl⟩
  have fin : M.take k = dg (vL B32 M) → LmV hh (.slice oa k c) (vL B32 M) := fun e => by
    have hl : (dg (vL B32 M)).length = k := by rw [← e]; simp; omega
    refine ⟨oa, c, by rw [hl], ?_, by have := l.le; omega, dg_dl _⟩
    rw [hl, ← e, ← u3_take]
    exact l.rd.take hk
  have uq : Nz (M.take k) → M.take k = dg (vL B32 M) := fun hz => by
    rw [← hv]; exact dig_uniq b32 (l.dl.take k) hz
  cases k with
  | zero =>
    have e0 : ((0 : Int) < ((0 : Nat) : Int)) = False := by simp
    simp +contextual (disch := omega) only [↓AM, ↓AV, AP, CQ, e0]
    exact fin (uq (by simp [Nz]))
  | succ k =>
    obtain ⟨b1, o1, s1, d, rfl, f1, hd, r1⟩ := l.rd.nat (i := k) (by omega)
    have e0 : ((0 : Int) < (((k + 1 : Nat)) : Int)) = True := by simp
    have lt := l.dl.at hd
    have hc := l.le
    have kk : (k < k + 1) = True := by simp
    by_cases hz : d = 0
    · subst hz
      have hcap : capOk s1 (k + 1) c := by cases s1 <;> simp [capOk]; omega
      have hadr : slAddr b1 o1 s1 1 0 c true = ⟨b1, o1, s1⟩ := by
        have hc0 : ¬ c = 0 := by omega
        cases s1 <;> simp [slAddr, hc0]
      have e1 : EqI ((0 : Nat) : Int) 0 = True := eqI_self
      have e2 : k ≤ c := by omega
      simp +contextual (disch := omega) only [↓AM, ↓AV, AP, CQ, e0, i64, f1, r1, bnds, Option.isNone, hcap, hadr, e1, kk, e2]
      refine ⟨k, by omega, by omega, ?_, rfl⟩
      rw [← hv, List.take_add_one, hd]
      exact vL_init.symm
    · have e1 : EqI (d : Int) 0 = False := eq_false (by unfold EqI; omega)
      simp +contextual (disch := omega) only [↓AM, ↓AV, AP, CQ, e0, i64, f1, r1, e1]
      exact ⟨by omega, fin (uq (nz_take hd hz))⟩
end Go.Proofs.Ytbfbgkhlngkifaa.Nu

/- Limbs compared, multiplied and divided by one limb. Plain theorems over the abstract machine.
   Conditions: none. -/
namespace Go.Proofs.Ytbfbgkhlngkifaa.Nu
open Go Go.RowKit Go.Proofs.Ytbfbgkhlngkifaa.Am Go.Proofs.Ytbfbgkhlngkifaa.Af Go.Proofs.Ytbfbgkhlngkifaa.Md
set_option linter.unusedVariables false
set_option linter.unusedSimpArgs false
set_option linter.defProp false
set_option maxRecDepth 20000
set_option maxHeartbeats 1000000

theorem nmul (a b : Nat) : (a : Int) * (b : Int) = ((a * b : Nat) : Int) := rfl
theorem nmod32 (a : Nat) : (a : Int) % 4294967296 = ((a % 4294967296 : Nat) : Int) := rfl
theorem ndiv32 (a : Nat) : (a : Int) / 4294967296 = ((a / 4294967296 : Nat) : Int) := rfl
theorem shr_32 {n : Nat} : (n : Int).fdiv (2 ^ min 32 IntKind.u64.bits) = ((n / 4294967296 : Nat) : Int) := by
  show (n : Int).fdiv 4294967296 = _
  rw [Int.fdiv_eq_ediv_of_nonneg _ (by omega)]; rfl
theorem u32_mod {n : Nat} : IntKind.u32.wrap (n : Int) = ((n % 4294967296 : Nat) : Int) := by rw [IntKind.wrap_u32]; rfl
theorem shl_32 {n : Nat} : (n : Int) * 2 ^ min 32 IntKind.u64.bits = ((n * 4294967296 : Nat) : Int) := rfl
theorem or_32 {r d : Nat} (hr : r < 4294967296) (hd : d < 4294967296) : (BitVec.ofInt IntKind.u64.bits ((r * 4294967296 : Nat) : Int) ||| BitVec.ofInt IntKind.u64.bits (d : Int)).toNat = r * 4294967296 + d := by
  show (BitVec.ofInt 64 ((r * 4294967296 : Nat) : Int) ||| BitVec.ofInt 64 (d : Int)).toNat = r * 4294967296 + d
  rw [BitVec.toNat_or, BitVec.toNat_ofInt, BitVec.toNat_ofInt]
  have e1 : ((((r * 4294967296 : Nat) : Int)) % ((2 ^ 64 : Nat) : Int)).toNat = r <<< 32 := by
    rw [Nat.shiftLeft_eq]; omega
  have e2 : (((d : Nat) : Int) % ((2 ^ 64 : Nat) : Int)).toNat = d := by omega
  rw [e1, e2, ← Nat.shiftLeft_add_eq_or_of_lt (by omega), Nat.shiftLeft_eq]
def CN := And.intro @nmul <| And.intro @shr_32 <| And.intro @u32_mod @shl_32
theorem rep_u3 (n : Nat) : rep n [.int .u32 0] = u3 (List.replicate n 0) := by
  unfold rep u3
  induction n with
  | zero => rfl
  | succ n ih => rw [List.replicate_succ, List.flatten_cons, ih]; rfl
theorem spl_u3 {O : List Nat} {j d : Nat} (hj : j < O.length) : spl (u3 O) j [.int .u32 (d : Int)] = u3 (O.set j d) := by
  rw [spl_one _ _ _ (by rw [u3_len]; omega)]
  simp [u3, List.map_set]
theorem u3_at {O : List Nat} {j d : Nat} (h : O[j]? = some d) : (u3 O)[j]? = some (.int .u32 (d : Int)) := by simp [u3, h]
theorem vL_set {B : Nat} : ∀ {O : List Nat} {j d e : Nat}, O[j]? = some e → vL B (O.set j d) + B ^ j * e = vL B O + B ^ j * d
  | [], j, d, e, h => by simp at h
  | x :: O, 0, d, e, h => by
    have : x = e := by simpa using h
    subst this
    simp [vL]; omega
  | x :: O, j + 1, d, e, h => by
    have := vL_set (B := B) (O := O) (j := j) (d := d) (e := e) (by simpa using h)
    simp only [List.set_cons_succ, vL, Nat.pow_succ]
    have h2 : B * (vL B (O.set j d) + B ^ j * e) = B * (vL B O + B ^ j * d) := by rw [this]
    rw [Nat.mul_add, Nat.mul_add, ← Nat.mul_assoc, ← Nat.mul_assoc, Nat.mul_comm B (B ^ j)] at h2
    omega
theorem Dl.set {B : Nat} {O : List Nat} {j d : Nat} (h : Dl B O) (hd : d < B) : Dl B (O.set j d) := fun x hx => by
  rcases List.mem_or_eq_of_mem_set hx with h1 | rfl
  · exact h x h1
  · exact hd
theorem Dl.zeros (n : Nat) : Dl B32 (List.replicate n 0) := fun d hd => by
  rw [(List.mem_replicate.1 hd).2]; decide
theorem lm_new {h : Hp} {O : List Nat} (hd : Dl B32 O) : Lm (h.new ⟨u3 O, .own⟩) (some ⟨h.size, 0, none⟩) O.length O.length O :=
  ⟨Rd.of rfl (by rw [Nat.mul_one]; have := rdN_mk (gnew (h := h) (o := ⟨u3 O, .own⟩)) (off := 0) (m := O.length) (by simp [u3_len]); rw [this]; simp [List.take_of_length_le (Nat.le_of_eq (u3_len O))]), Nat.le_refl _, hd⟩
theorem c_magOf {h : Hp} {v : Nat} (hv : v < 18446744073709551616) : ACalls Try.prog 116 [.int .u64 (v : Int)] h fun r h' => LmV h' r v ∧ Fm No h h' := by
  refine num_magOf_ok.snd hm rfl fun w => ?_
  rw [WF_eq, num_magOf]
  simp +contextual (disch := omega) only [↓AM, ↓AV, AP, CQ, CN]
  have lm := lm_new (h := h) (O := [v % 4294967296, v / 4294967296 % 4294967296]) (fun d hd => by
    simp only [List.mem_cons, List.not_mem_nil, or_false] at hd
    show d < 4294967296
    rcases hd with rfl | rfl <;> omega)
  refine (c_trim lm (by simp)).use ?_
  rintro _ _ w1 ⟨l, rfl⟩
  have e : vL B32 [v % 4294967296, v / 4294967296 % 4294967296] = v := by simp only [vL, B32]; omega
  rw [e] at l
  obtain ⟨oa, c, rfl, l⟩ := l
  simp +contextual (disch := omega) only [↓AM, ↓AV, AP, CQ]
  exact ⟨⟨_, _, rfl, l⟩, Fm.new Fm.refl⟩
theorem c_cmp {h : Hp} {a b : Option Addr} {c d x y : Nat} (la : Lm h a (dg x).length c (dg x)) (lb : Lm h b (dg y).length d (dg y)) (hx : (dg x).length ≤ 1000000) (hy : (dg y).length ≤ 1000000) :
    ACalls Try.prog 92 [.slice a (dg x).length c, .slice b (dg y).length d] h fun v h' => (∃ r : Int, v = .int .i64 r ∧ (r < 0 ↔ x < y) ∧ (r = 0 ↔ x = y) ∧ -1000000 ≤ r ∧ r ≤ 1000000) ∧ h' = h := by
  refine num_cmpMag_ok.snd hm rfl fun w => ?_
  rw [WF_eq, num_cmpMag]
  have ll : (dg x).length < (dg y).length → x < y := fun hlt => by
    have := len_lt b32 (dg_dl x) (dig_nz (hB := b32) y) hlt
    rwa [dg_val, show vL B32 (dig B32 b32 y) = y from dg_val y] at this
  have lr : (dg y).length < (dg x).length → y < x := fun hlt => by
    have := len_lt b32 (dg_dl y) (dig_nz (hB := b32) x) hlt
    rwa [dg_val, show vL B32 (dig B32 b32 x) = x from dg_val x] at this
  by_cases hne : ((dg x).length : Int) = ((dg y).length : Int)
  case neg =>
    have e0 : EqI ((dg x).length : Int) ((dg y).length : Int) = False := eq_false hne
    simp +contextual (disch := omega) only [↓AM, ↓AV, AP, CQ, i64, e0]
    refine ⟨_, rfl, ?_, ?_, by omega, by omega⟩
    · constructor
      · intro hlt; exact ll (by omega)
      · intro hlt
        rcases Nat.lt_or_ge (dg y).length (dg x).length with h | h
        · have := lr h; omega
        · omega
    · constructor
      · intro h; omega
      · intro h; subst h; omega
  have hl : (dg x).length = (dg y).length := by omega
  have e0 : EqI ((dg x).length : Int) ((dg y).length : Int) = True := eq_true hne
  simp +contextual (disch := omega) only [↓AM, ↓AV, AP, CQ, i64, e0]
  refine WL.mk (fun k t h' => h' = h ∧ k ≤ (dg x).length ∧ (dg x).drop k = (dg y).drop k ∧ t = [(0, some (.slice a (dg x).length c)), (1, some (.slice b (dg y).length d)), (5, some (.int .i64 ((k : Int) - 1)))]) ⟨(dg x).length, rfl, Nat.le_refl _, by rw [List.drop_eq_nil_of_le (Nat.le_refl _), List.drop_eq_nil_of_le (by omega)], rfl⟩ ?_
  rintro k t _ ⟨rfl, hk, heq, rfl⟩
  cases k with
  | zero =>
    have e1 : ((0 : Int) ≤ ((0 : Nat) : Int) - 1) = False := by simp
    simp +contextual (disch := omega) only [↓AM, ↓AV, AP, CQ, e1]
    have : x = y := by
      have : dg x = dg y := heq
      rw [← dg_val x, this, dg_val]
    simp [this]
  | succ k =>
    obtain ⟨b1, o1, s1, p, rfl, f1, hp, r1⟩ := la.rd.nat (i := k) (by omega)
    obtain ⟨b2, o2, s2, q, rfl, f2, hq, r2⟩ := lb.rd.nat (i := k) (by omega)
    have hk1 : k < (dg x).length := by omega
    have hk2 : k < (dg y).length := by omega
    have gp : (dg x).getD k 0 = p := by rw [List.getD_eq_getElem?_getD, hp]; rfl
    have gq : (dg y).getD k 0 = q := by rw [List.getD_eq_getElem?_getD, hq]; rfl
    by_cases h1 : p = q
    · subst h1
      simp +contextual (disch := omega) only [↓AM, ↓AV, AP, CQ, i64, f1, f2, r1, r2, hk1, hk2, eqI_self]
      refine ⟨k, by omega, by omega, ?_, rfl⟩
      rw [List.getElem?_eq_getElem hk1] at hp
      rw [List.getElem?_eq_getElem hk2] at hq
      rw [List.drop_eq_getElem_cons hk1, List.drop_eq_getElem_cons hk2, heq, Option.some.inj hp, Option.some.inj hq]
    · have e1 : EqI (p : Int) (q : Int) = False := eq_false (by unfold EqI; omega)
      by_cases h2 : p < q
      · have := cmp_top b32 (dg_dl x) (dg_dl y) hk1 hl heq (by omega)
        rw [dg_val, dg_val] at this
        simp +contextual (disch := omega) only [↓AM, ↓AV, AP, CQ, i64, f1, f2, r1, r2, hk1, hk2, e1, h2]
        exact ⟨_, rfl, by omega, by omega, by omega, by omega⟩
      · have := cmp_top b32 (dg_dl y) (dg_dl x) hk2 hl.symm heq.symm (by omega)
        rw [dg_val, dg_val] at this
        simp +contextual (disch := omega) only [↓AM, ↓AV, AP, CQ, i64, f1, f2, r1, r2, hk1, hk2, e1, h2]
        exact ⟨_, rfl, by omega, by omega, by omega, by omega⟩
end Go.Proofs.Ytbfbgkhlngkifaa.Nu

/- Limbs copied, multiplied and divided by one limb. Plain theorems over the abstract machine.
   Conditions: none. -/
namespace Go.Proofs.Ytbfbgkhlngkifaa.Nu
open Go Go.RowKit Go.Proofs.Ytbfbgkhlngkifaa.Am Go.Proofs.Ytbfbgkhlngkifaa.Af Go.Proofs.Ytbfbgkhlngkifaa.Md
set_option linter.unusedVariables false
set_option linter.unusedSimpArgs false
set_option linter.defProp false
set_option maxRecDepth 20000
set_option maxHeartbeats 1000000

theorem c_clone {h : Hp} {a : Option Addr} {c x : Nat} (l : Lm h a (dg x).length c (dg x)) (hn : (dg x).length ≤ 1000000) :
    ACalls Try.prog 117 [.slice a (dg x).length c] h fun v h' => LmV h' v x ∧ Fm No h h' := by
  refine slices_Clone___uint32_uint32__ok.snd hm rfl fun w => ?_
  rw [WF_eq, slices_Clone___uint32_uint32_]
  have app : ∀ (y : Value) (K : Value → Hp → Prop) (tg : Tag K), y = .slice a (dg x).length c → (∀ oa' cap' h', Ow h' 1 oa' (dg x).length cap' (u3 (dg x)) → Wf h' → Fm No h h' → K (.slice oa' (dg x).length cap') h') →
      appV 1 4 (.slice (some ⟨h.size, 0, none⟩) 0 0) (dg x).length (u3 (dg x)) (h.new ⟨[], .own⟩) K tg := by
    intro x' K tg hx k
    have ow := Ow.new (h := h) (z := 1) (n := 0) (m := 0) (cs := []) rfl (Nat.le_refl _)
    have fm0 : Fm No h (h.new ⟨[], .own⟩) := Fm.new Fm.refl
    refine Ow.add (m := (dg x).length) w.new ow (by rw [u3_len]; omega) (by omega) fun oa' cap' h' o' w' f' n' => ?_
    obtain ⟨g1, g2⟩ := grown fm0 (Nw.new Fm.refl) f' n'
    rw [Nat.zero_add] at o' ⊢
    exact k oa' cap' h' (by simpa using o') w' g1
  have fm0 : Fm No h (h.new ⟨[], .own⟩) := Fm.new Fm.refl
  have hs := (l.rd.keep w fm0 (fun _ _ f => f)).src (c := c)
  rcases a with _ | ⟨b, off, sp⟩
  · have h0 := l.rd.nil rfl
    have hd : dg x = [] := List.length_eq_zero_iff.1 h0
    cases c with
    | zero =>
      rw [hd]
      simp +contextual only [↓AM, ↓AV, AP, isNilV, List.length_nil]
      refine ⟨⟨none, 0, by rw [hd]; rfl, ?_⟩, Fm.refl⟩
      rw [hd]
      exact ⟨Rd.mk0, Nat.le_refl _, fun d hd => by cases hd⟩
    | succ c =>
      rw [hd] at hs app ⊢
      simp +contextual only [↓AM, ↓AV, AP, isNilV, hs, List.length_nil] at hs ⊢
      refine app _ _ _ rfl fun oa' cap' h' o' w' f' => ?_
      simp +contextual only [↓AM, ↓AV, AP]
      rw [← hd] at o' ⊢
      exact ⟨⟨_, _, rfl, o'.rd, o'.le, dg_dl _⟩, f'⟩
  · simp +contextual only [↓AM, ↓AV, AP, isNilV, hs]
    refine app _ _ _ rfl fun oa' cap' h' o' w' f' => ?_
    simp +contextual only [↓AM, ↓AV, AP]
    exact ⟨⟨_, _, rfl, o'.rd, o'.le, dg_dl _⟩, f'⟩
theorem mul_step {x y c o : Nat} (hx : x < 4294967296) (hy : y < 4294967296) (hc : c < 4294967296) (ho : o < 4294967296) : c + (x * y + o) < 18446744073709551616 ∧ x * y + o < 18446744073709551616 ∧ x * y < 18446744073709551616 := by
  have : x * y ≤ 4294967295 * 4294967295 := Nat.mul_le_mul (by omega) (by omega)
  omega
theorem c_mul {h : Hp} {a b : Option Addr} {c d x y : Nat} (la : Lm h a (dg x).length c (dg x)) (lb : Lm h b (dg y).length d (dg y)) (hx : (dg x).length ≤ 400000) (hy : (dg y).length ≤ 400000) :
    ACalls Try.prog 126 [.slice a (dg x).length c, .slice b (dg y).length d] h fun v h' => LmV h' v (x * y) ∧ Fm No h h' := by
  refine num_mulMag_ok.snd hm rfl fun w => ?_
  rw [WF_eq, num_mulMag]
  simp +contextual (disch := omega) only [↓AM, ↓AV, AP, CQ, i64, rep_u3]
  refine ⟨by omega, ?_⟩
  have hval : vL B32 (dg x) * y = x * y := by rw [dg_val]
  generalize hX : dg x = X at *
  have yval : vL B32 (dg y) = y := dg_val y
  generalize hY : dg y = Y at *
  have zl : vL B32 (List.replicate (X.length + Y.length) 0) = 0 := vL_zeros _ _
  refine WL.mk (fun k t h' => ∃ O : List Nat, h' = h.new ⟨u3 O, .own⟩ ∧ O.length = X.length + Y.length ∧ Dl B32 O ∧ ∃ i : Nat, i ≤ X.length ∧ k = X.length - i ∧ vL B32 O = vL B32 (X.take i) * y ∧ (∀ j, i + Y.length ≤ j → j < O.length → O[j]? = some 0) ∧
      t = [(1, some (.slice b Y.length d)), (5, some (.slice (some ⟨h.size, 0, none⟩) (X.length + Y.length) (X.length + Y.length))), (17, some (.slice a X.length c)), (18, some (.int .i64 (X.length : Int))), (19, some (.int .i64 i))])
    ⟨X.length, _, rfl, by simp, Dl.zeros _, 0, by omega, rfl, by rw [zl]; simp [vL], fun j h1 h2 => by rw [List.getElem?_replicate, if_pos (by simpa using h2)], rfl⟩ ?_
  rintro k t _ ⟨O, rfl, hOl, hOd, i, hi, rfl, hv, hz, rfl⟩
  by_cases hin : i < X.length
  · obtain ⟨b1, o1, s1, p, rfl, f1, hp, r1⟩ := (la.rd.keepW w (Fm.new (o := ⟨u3 O, .own⟩) (Fm.refl (F := No))) nNo).nat hin
    have hpl : p < 4294967296 := la.dl.at hp
    simp +contextual (disch := omega) only [↓AM, ↓AV, AP, CQ, i64, hin, f1, r1]
    refine WL.mk (fun k t h' => ∃ O' : List Nat, h' = h.new ⟨u3 O', .own⟩ ∧ O'.length = X.length + Y.length ∧ Dl B32 O' ∧ ∃ j cy : Nat, j ≤ Y.length ∧ k = Y.length - j ∧ cy < 4294967296 ∧ vL B32 O' + B32 ^ (i + j) * cy = vL B32 (X.take i) * y + B32 ^ i * (p * vL B32 (Y.take j)) ∧ (∀ q, i + Y.length ≤ q → q < O'.length → O'[q]? = some 0) ∧
        t = [(1, some (.slice b Y.length d)), (5, some (.slice (some ⟨h.size, 0, none⟩) (X.length + Y.length) (X.length + Y.length))), (6, some (.int .i64 (i : Int))), (7, some (.int .u32 (p : Int))), (8, some (.int .u64 (cy : Int))), (17, some (.slice (some ⟨b1, o1, s1⟩) X.length c)), (18, some (.int .i64 (X.length : Int))), (19, some (.int .i64 i)), (24, some (.slice b Y.length d)), (25, some (.int .i64 (Y.length : Int))), (26, some (.int .i64 j))])
      ⟨Y.length, O, rfl, hOl, hOd, 0, 0, by omega, rfl, by decide, by rw [hv]; simp [vL], hz, rfl⟩ ?_
    clear r1 hv hz hOd hOl O
    rintro k t _ ⟨O, rfl, hOl, hOd, j, cy, hj, rfl, hcy, hv, hz, rfl⟩
    by_cases hjn : j < Y.length
    · obtain ⟨b2, o2, s2, q, rfl, f2, hq, r2⟩ := (lb.rd.keepW w (Fm.new (o := ⟨u3 O, .own⟩) (Fm.refl (F := No))) nNo).nat hjn
      have hql : q < 4294967296 := lb.dl.at hq
      have hij : i + j < O.length := by omega
      obtain ⟨e, he⟩ : ∃ e, O[i + j]? = some e := ⟨_, List.getElem?_eq_getElem hij⟩
      have hel : e < 4294967296 := hOd.at he
      obtain ⟨m1, m2, m3⟩ := mul_step hpl hql hcy hel
      have ue := u3_at he
      have hij2 : i + j < X.length + Y.length := by omega
      have ul : leIs (i + j + 1) (u3 O) = true := by rw [← leIs_p, u3_len]; omega
      have us : spl (u3 O) (i + j) [.int .u32 (((cy + (p * q + e)) % 4294967296 : Nat) : Int)] = u3 (O.set (i + j) ((cy + (p * q + e)) % 4294967296)) := spl_u3 hij
      simp +contextual (disch := omega) only [↓AM, ↓AV, AP, CQ, CN, i64, u64, hjn, f2, r2, ue, hij2, ul, us]
      generalize hs : cy + (p * q + e) = s at *
      refine ⟨_, ?_, _, rfl, ?_, ?_, j + 1, s / 4294967296, by omega, rfl, by omega, ?_, ?_, rfl⟩
      · omega
      · simp [hOl]
      · exact hOd.set (Nat.mod_lt _ (by decide))
      · have h0 := vL_set (B := B32) (d := s % 4294967296) he
        have h1 : B32 ^ (i + j) * (s % 4294967296) + B32 ^ (i + j) * (B32 * (s / 4294967296)) = B32 ^ (i + j) * s := by rw [← Nat.mul_add]; congr 1; exact Nat.mod_add_div s 4294967296
        have h2 : B32 ^ (i + j) * s = B32 ^ (i + j) * cy + (B32 ^ (i + j) * (p * q) + B32 ^ (i + j) * e) := by rw [← hs, Nat.mul_add, Nat.mul_add]
        have h3 : B32 ^ i * (p * (B32 ^ j * q)) = B32 ^ (i + j) * (p * q) := by rw [Nat.pow_add]; ac_rfl
        have h4 : vL B32 (Y.take (j + 1)) = vL B32 (Y.take j) + B32 ^ j * q := by
          rw [List.take_add_one, hq]
          show vL B32 (Y.take j ++ [q]) = _
          rw [vL_snoc, List.length_take, Nat.min_eq_left (by omega)]
        rw [h4, Nat.mul_add p, Nat.mul_add (B32 ^ i), h3, show i + (j + 1) = (i + j) + 1 by omega, Nat.pow_succ, Nat.mul_assoc]
        omega
      · intro k h1 h2
        rw [List.getElem?_set_ne (by omega)]
        exact hz k h1 (by simpa using h2)
    · have hjY : j = Y.length := by omega
      subst hjY
      have hiY : i + Y.length < O.length := by omega
      have hiY2 : i + Y.length < X.length + Y.length := by omega
      have ul : leIs (i + Y.length + 1) (u3 O) = true := by rw [← leIs_p, u3_len]; omega
      have us : spl (u3 O) (i + Y.length) [.int .u32 ((cy % 4294967296 : Nat) : Int)] = u3 (O.set (i + Y.length) (cy % 4294967296)) := spl_u3 hiY
      simp +contextual (disch := omega) only [↓AM, ↓AV, AP, CQ, CN, i64, u64, hjn, hiY2, ul, us]
      refine ⟨_, ?_, _, rfl, ?_, ?_, i + 1, by omega, rfl, ?_, ?_, rfl⟩
      · omega
      · simp [hOl]
      · exact hOd.set (Nat.mod_lt _ (by decide))
      · have h0 := vL_set (B := B32) (d := cy % 4294967296) (hz _ (Nat.le_refl _) hiY)
        rw [Nat.mod_eq_of_lt hcy] at h0 ⊢
        rw [List.take_of_length_le (Nat.le_refl Y.length), yval] at hv
        have h4 : vL B32 (X.take (i + 1)) = vL B32 (X.take i) + B32 ^ i * p := by
          rw [List.take_add_one, hp]
          show vL B32 (X.take i ++ [p]) = _
          rw [vL_snoc, List.length_take, Nat.min_eq_left (by omega)]
        rw [h4, Nat.add_mul, Nat.mul_assoc]
        omega
      · intro k h1 h2
        rw [List.getElem?_set_ne (by omega)]
        exact hz k (by omega) (by simpa using h2)
  · have hiX : i = X.length := by omega
    subst hiX
    simp +contextual (disch := omega) only [↓AM, ↓AV, AP, CQ, i64, hin]
    have lm := lm_new (h := h) hOd
    rw [hOl] at lm
    refine (c_trim lm (by omega)).use ?_
    rintro _ _ w1 ⟨l, rfl⟩
    rw [hv, List.take_of_length_le (Nat.le_refl _), hval] at l
    obtain ⟨oa, cc, rfl, l⟩ := l
    simp +contextual (disch := omega) only [↓AM, ↓AV, AP, CQ]
    exact ⟨⟨_, _, rfl, l⟩, Fm.new Fm.refl⟩
end Go.Proofs.Ytbfbgkhlngkifaa.Nu

/- Limbs divided by one limb. Plain theorems over the abstract machine.
   Conditions: none. -/
namespace Go.Proofs.Ytbfbgkhlngkifaa.Nu
open Go Go.RowKit Go.Proofs.Ytbfbgkhlngkifaa.Am Go.Proofs.Ytbfbgkhlngkifaa.Af Go.Proofs.Ytbfbgkhlngkifaa.Md
set_option linter.unusedVariables false
set_option linter.unusedSimpArgs false
set_option linter.defProp false
set_option maxRecDepth 20000
set_option maxHeartbeats 1000000

theorem dg_0 : dg 0 = [] := dig_0
theorem dg_1 {y : Nat} (h0 : 0 < y) (h1 : y < 4294967296) : dg y = [y] := by
  show dig B32 b32 y = [y]
  rw [dig_pos (by omega), show y / B32 = 0 from Nat.div_eq_of_lt h1, show dig B32 b32 0 = [] from dig_0, show y % B32 = y from Nat.mod_eq_of_lt h1]
theorem lmv0 {h : Hp} : LmV h (.slice none 0 0) 0 := ⟨none, 0, by rw [dg_0]; rfl, by rw [dg_0]; exact ⟨Rd.mk0, Nat.le_refl _, fun d hd => by cases hd⟩⟩
theorem LmV.keep {h h' : Hp} {v : Value} {x : Nat} (w : Wf h) (l : LmV h v x) (fm : Fm No h h') : LmV h' v x := by
  obtain ⟨oa, c, e, l⟩ := l
  exact ⟨oa, c, e, l.rd.keepW w fm nNo, l.le, l.dl⟩
theorem ntdiv (a b : Nat) : (a : Int).tdiv (b : Int) = ((a / b : Nat) : Int) := by rw [Int.tdiv_eq_ediv_of_nonneg (by omega)]; rfl
theorem ntmod (a b : Nat) : (a : Int).tmod (b : Int) = ((a % b : Nat) : Int) := by rw [Int.tmod_eq_emod_of_nonneg (by omega)]; rfl
theorem div_step {r a y : Nat} (hr : r < y) (ha : a < 4294967296) (hy : y < 4294967296) : (r * 4294967296 + a) / y < 4294967296 ∧ r * 4294967296 + a < 18446744073709551616 := by
  refine ⟨Nat.div_lt_of_lt_mul ?_, by omega⟩
  have : y * 4294967296 = 4294967296 * y := Nat.mul_comm _ _
  omega
theorem c_div {h : Hp} {a b : Option Addr} {c d x y : Nat} (la : Lm h a (dg x).length c (dg x)) (lb : Lm h b (dg y).length d (dg y)) (hx : (dg x).length ≤ 400000) (hy0 : 0 < y) (hy : y < 4294967296) :
    ACalls Try.prog 118 [.slice a (dg x).length c, .slice b (dg y).length d] h fun r h' => ∃ u v, r = .tuple #[u, v] ∧ LmV h' u (x / y) ∧ LmV h' v (x % y) ∧ Fm No h h' := by
  refine num_divMag_ok.snd hm rfl fun w => ?_
  rw [WF_eq, num_divMag]
  have hy1 := dg_1 hy0 hy
  have hyl : (dg y).length = 1 := by rw [hy1]; rfl
  simp +contextual (disch := omega) only [↓AM, ↓AV, AP, CQ, i64]
  refine (c_cmp la lb (by omega) (by omega)).use ?_
  rintro _ hA w1 ⟨⟨q, rfl, q1, q2, q3, q4⟩, rfl⟩
  by_cases hlt : x < y
  · have hq : q < 0 := q1.2 hlt
    simp +contextual (disch := omega) only [↓AM, ↓AV, AP, CQ, i64, hq]
    refine (c_clone la (by omega)).use ?_
    rintro _ h2 w2 ⟨l, fm⟩
    simp +contextual (disch := omega) only [↓AM, ↓AV, AP, CQ, i64]
    rw [Nat.div_eq_of_lt hlt, Nat.mod_eq_of_lt hlt]
    exact ⟨_, _, rfl, lmv0, l, fm⟩
  have hq : ¬ q < 0 := fun h => hlt (q1.1 h)
  obtain ⟨b2, o2, s2, y', rfl, f2, hy', r2⟩ := lb.rd.nat (i := 0) (by omega)
  have : y' = y := by rw [hy1] at hy'; simpa using hy'.symm
  subst this
  have e1 : EqI ((1 : Nat) : Int) 1 = True := eqI_self
  rw [hyl]
  have hval : vL B32 (dg x) = x := dg_val x
  generalize hX : dg x = X at *
  simp +contextual (disch := omega) only [↓AM, ↓AV, AP, CQ, i64, hq, e1, rep_u3]
  refine ⟨by omega, ?_⟩
  refine WL.mk (fun k t h' => ∃ O : List Nat, h' = hA.new ⟨u3 O, .own⟩ ∧ O.length = X.length ∧ Dl B32 O ∧ k ≤ X.length ∧ ∃ r : Nat, r < y' ∧ vL B32 (X.drop k) = vL B32 (O.drop k) * y' + r ∧
      t = [(0, some (.slice a X.length c)), (1, some (.slice (some ⟨b2, o2, s2⟩) 1 d)), (4, some (.slice (some ⟨hA.size, 0, none⟩) X.length X.length)), (6, some (.int .u64 (r : Int))), (7, some (.int .i64 ((k : Int) - 1)))])
    ⟨X.length, _, rfl, by simp, Dl.zeros _, Nat.le_refl _, 0, hy0, by rw [List.drop_eq_nil_of_le (Nat.le_refl _), List.drop_eq_nil_of_le (by simp)]; simp [vL], rfl⟩ ?_
  rintro k t _ ⟨O, rfl, hOl, hOd, hk, r, hr, hv, rfl⟩
  cases k with
  | zero =>
    have e2 : ((0 : Int) ≤ ((0 : Nat) : Int) - 1) = False := by simp
    simp +contextual (disch := omega) only [↓AM, ↓AV, AP, CQ, i64, e2]
    have hv : x = vL B32 O * y' + r := by rw [← hval]; exact hv
    have v1 : vL B32 O = x / y' := by rw [hv, Nat.mul_comm, Nat.mul_add_div hy0, Nat.div_eq_of_lt hr]; rfl
    have v2 : r = x % y' := by rw [hv, Nat.mul_comm, Nat.mul_add_mod, Nat.mod_eq_of_lt hr]
    have lm := lm_new (h := hA) hOd
    rw [hOl] at lm
    refine (c_trim lm (by omega)).use ?_
    rintro _ hB w2 ⟨l, rfl⟩
    rw [v1] at l
    simp +contextual (disch := omega) only [↓AM, ↓AV, AP, CQ, i64]
    refine (c_magOf (v := r) (by omega)).use ?_
    rintro _ h3 w3 ⟨l3, fm3⟩
    rw [v2] at l3
    simp +contextual (disch := omega) only [↓AM, ↓AV, AP, CQ, i64]
    exact ⟨_, _, rfl, l.keep w2 fm3, l3, (Fm.new Fm.refl).trans fm3 fun _ _ f => f⟩
  | succ k =>
    have fmO : Fm No hA (hA.new ⟨u3 O, .own⟩) := Fm.new Fm.refl
    obtain ⟨b1, o1, s1, p, rfl, f1, hp, r1⟩ := (la.rd.keepW w1 fmO nNo).nat (i := k) (by omega)
    have hpl : p < 4294967296 := la.dl.at hp
    obtain ⟨d1, d2⟩ := div_step hr hpl hy
    have r2n : ∀ o, (hA.new o).rd b2 o2 = some (.int .u32 (y' : Int)) := fun o => by
      obtain ⟨b2', o2', s2', z, e, f2', hz, rz⟩ := (lb.rd.keepW w1 (Fm.new (o := o) (Fm.refl (F := No))) nNo).nat (i := 0) (by omega)
      cases e
      rw [hy1] at hz
      cases hz
      exact rz
    have hk1 : k < X.length := by omega
    have hkO : k < O.length := by omega
    have rlt : r < 4294967296 := by omega
    have eor := or_32 rlt hpl
    have y0 : EqI (y' : Int) 0 = False := eq_false (by unfold EqI; omega)
    have y1 : ((y' : Int) = 0) = False := eq_false (by omega)
    have eq1 : IntKind.u64.wrap (((r * 4294967296 + p) / y' : Nat) : Int) = (((r * 4294967296 + p) / y' : Nat) : Int) := by
      generalize (r * 4294967296 + p) / y' = Q at *
      exact u64 (by omega)
    have p01 : ((0 : Int) < ((1 : Nat) : Int)) = True := by simp
    have ul : leIs (k + 1) (u3 O) = true := by rw [← leIs_p, u3_len]; omega
    have us : spl (u3 O) k [.int .u32 (((r * 4294967296 + p) / y' % 4294967296 : Nat) : Int)] = u3 (O.set k ((r * 4294967296 + p) / y' % 4294967296)) := spl_u3 hkO
    simp +contextual (disch := omega) only [↓AM, ↓AV, AP, CQ, CN, i64, u64, f1, f2, r1, r2n, hk1, eor, ntdiv, ntmod, y0, y1, ul, us, eq1, p01]
    refine ⟨k, by omega, _, rfl, by simp [hOl], hOd.set (Nat.mod_lt _ (by decide)), by omega, (r * 4294967296 + p) % y', Nat.mod_lt _ hy0, ?_, rfl⟩
    have e1 : vL B32 (X.drop k) = p + B32 * vL B32 (X.drop (k + 1)) := by
      rw [List.drop_eq_getElem_cons hk1]
      rw [List.getElem?_eq_getElem hk1] at hp
      rw [Option.some.inj hp]; rfl
    have e2 : vL B32 ((O.set k ((r * 4294967296 + p) / y' % 4294967296)).drop k) = (r * 4294967296 + p) / y' + B32 * vL B32 (O.drop (k + 1)) := by
      rw [List.drop_eq_getElem_cons (by simpa using hkO), List.getElem_set_self, Nat.mod_eq_of_lt d1]
      show _ + B32 * vL B32 ((O.set k _).drop (k + 1)) = _
      rw [List.drop_set_of_lt (by omega)]
    rw [e1, e2, hv, Nat.mul_add, Nat.add_mul]
    have e3 := Nat.mod_add_div (r * 4294967296 + p) y'
    rw [Nat.mul_comm y'] at e3
    have e4 : B32 * (vL B32 (O.drop (k + 1)) * y') = B32 * vL B32 (O.drop (k + 1)) * y' := (Nat.mul_assoc _ _ _).symm
    rw [e4]
    show p + (_ + 4294967296 * r) = _
    omega
end Go.Proofs.Ytbfbgkhlngkifaa.Nu

/- Whole numbers in memory. Plain theorems over the abstract machine.
   Conditions: none. -/
namespace Go.Proofs.Ytbfbgkhlngkifaa.Nu
open Go Go.RowKit Go.Proofs.Ytbfbgkhlngkifaa.Am Go.Proofs.Ytbfbgkhlngkifaa.Af Go.Proofs.Ytbfbgkhlngkifaa.Md
set_option linter.unusedVariables false
set_option linter.unusedSimpArgs false
set_option linter.defProp false
set_option maxRecDepth 20000
set_option maxHeartbeats 1000000

/-- Cells without whole numbers. -/
def St (cs : List Value) : Prop := ∀ (i : Nat) (k : IntKind) (a : Int), cs[i]? ≠ some (Value.int k a)
structure Wr (F : Nat → Prop) (h h' : Hp) : Prop where
  fm : Fm F h h'
  ln : ∀ b cs, F b → h.get b = some ⟨cs, .own⟩ → ∃ cs', h'.get b = some ⟨cs', .own⟩ ∧ cs'.length = cs.length ∧ (St cs → St cs')
def SF (h : Hp) (F : Nat → Prop) : Prop := ∀ b, F b → b < h.size → ∃ cs, h.get b = some ⟨cs, .own⟩ ∧ St cs
theorem Wr.of {F : Nat → Prop} {h h' : Hp} (w : Wf h) (fm : Fm No h h') : Wr F h h' :=
  ⟨fm.mono fun x _ f => f.elim, fun b cs _ hg => ⟨cs, fm.keep w hg (fun f => f), rfl, id⟩⟩
theorem Wr.trans {F G : Nat → Prop} {h h1 h2 : Hp} (w : Wf h) (w1 : Wf h1) (a : Wr F h h1) (b : Wr G h1 h2) (hg : ∀ x, x < h.size → G x → F x) : Wr F h h2 := by
  refine ⟨a.fm.trans b.fm hg, fun x cs hf hx => ?_⟩
  obtain ⟨cs1, h1, h2, h3⟩ := a.ln x cs hf hx
  rcases Classical.em (G x) with g | g
  · obtain ⟨cs2, h4, h5, h6⟩ := b.ln x cs1 g h1
    exact ⟨cs2, h4, by omega, fun s => h6 (h3 s)⟩
  · exact ⟨cs1, b.fm.keep w1 h1 g, h2, h3⟩
theorem SF.wr {F G : Nat → Prop} {h h' : Hp} (s : SF h F) (w : Wf h) (r : Wr G h h') (hlt : ∀ x, F x → x < h.size) : SF h' F := fun b hb _ => by
  obtain ⟨cs, h1, h2⟩ := s b hb (hlt b hb)
  rcases Classical.em (G b) with g | g
  · obtain ⟨cs', h3, _, h4⟩ := r.ln b cs g h1
    exact ⟨cs', h3, h4 h2⟩
  · exact ⟨cs, r.fm.keep w h1 g, h2⟩
theorem Lm.wr {F : Nat → Prop} {h h' : Hp} {oa : Option Addr} {n c : Nat} {M : List Nat} (l : Lm h oa n c M) (w : Wf h) (r : Wr F h h') (s : SF h F) : Lm h' oa n c M := by
  refine ⟨⟨l.rd.len, l.rd.nil, fun a ha => ?_⟩, l.le, l.dl⟩
  rcases l.rd.at_ a ha with ⟨h1, h2⟩ | h3
  · refine .inl ⟨h1, ?_⟩
    rcases Classical.em (F a.block) with f | f
    · obtain ⟨cs, hg, hs⟩ := s _ f (rdN_wf w h2)
      obtain ⟨ob, g1, g2, g3⟩ := rdN_of h2
      rw [hg] at g1
      cases g1
      obtain ⟨cs', hg', hl, _⟩ := r.ln _ cs f hg
      have hM : M = [] := by
        cases M with
        | nil => rfl
        | cons d M =>
          exfalso
          have hn : (d :: M).length = n := l.len
          have g2 : a.off + n * 1 ≤ cs.length := g2
          have hlen : 0 < n := by rw [← hn]; simp
          have := congrArg (·[0]?) g3
          have e : (u3 (d :: M))[0]? = some (.int .u32 (d : Int)) := rfl
          simp only [e, List.getElem?_take, List.getElem?_drop, Nat.mul_one, hlen, if_true, Nat.add_zero] at this
          exact hs _ _ _ this.symm
      have hn : n = 0 := by have := l.len; rw [hM] at this; simpa using this.symm
      subst hM hn
      have g2 : a.off + 0 * 1 ≤ cs.length := g2
      rw [rdN_mk hg' (by show a.off + 0 * 1 ≤ cs'.length; omega)]
      simp [u3]
    · rw [rdN_keep (r.fm.get _ (rdN_wf w h2) f)]; exact h2
  · exact .inr h3
/-- A place for a whole number. -/
def XAt (h : Hp) (b o : Nat) : Prop := ∃ cs, h.get b = some ⟨cs, .own⟩ ∧ St cs ∧ o + 1 < cs.length
/-- A natural number at a place. -/
def NatAt (h : Hp) (b o x : Nat) : Prop := ∃ cs oa c, h.get b = some ⟨cs, .own⟩ ∧ St cs ∧ cs[o]? = some (.bool false) ∧ cs[o + 1]? = some (.slice oa (dg x).length c) ∧ Lm h oa (dg x).length c (dg x)
theorem NatAt.x {h : Hp} {b o x : Nat} (n : NatAt h b o x) : XAt h b o := by
  obtain ⟨cs, oa, c, h1, h2, h3, h4, h5⟩ := n
  exact ⟨cs, h1, h2, (List.getElem?_eq_some_iff.1 h4).1⟩
theorem XAt.lt {h : Hp} {b o : Nat} (w : Wf h) (x : XAt h b o) : b < h.size := by obtain ⟨cs, h1, _⟩ := x; exact w.lt h1
theorem XAt.sf {h : Hp} {b o : Nat} (x : XAt h b o) : SF h (fun y => y = b) := by
  rintro y rfl _
  obtain ⟨cs, h1, h2, _⟩ := x
  exact ⟨cs, h1, h2⟩
theorem XAt.wr {F : Nat → Prop} {h h' : Hp} {b o : Nat} (w : Wf h) (x : XAt h b o) (r : Wr F h h') : XAt h' b o := by
  obtain ⟨cs, h1, h2, h3⟩ := x
  rcases Classical.em (F b) with f | f
  · obtain ⟨cs', g1, g2, g3⟩ := r.ln b cs f h1
    exact ⟨cs', g1, g3 h2, by omega⟩
  · exact ⟨cs, r.fm.keep w h1 f, h2, h3⟩
theorem NatAt.wr {F : Nat → Prop} {h h' : Hp} {b o x : Nat} (n : NatAt h b o x) (w : Wf h) (r : Wr F h h') (s : SF h F) (hb : ¬ F b) : NatAt h' b o x := by
  obtain ⟨cs, oa, c, h1, h2, h3, h4, h5⟩ := n
  exact ⟨cs, oa, c, r.fm.keep w h1 hb, h2, h3, h4, h5.wr w r s⟩
theorem NatAt.keep {h h' : Hp} {b o x : Nat} (n : NatAt h b o x) (w : Wf h) (fm : Fm No h h') : NatAt h' b o x :=
  n.wr w (Wr.of (F := No) w fm) (fun _ f => f.elim) (fun f => f)
theorem XAt.keep {h h' : Hp} {b o : Nat} (x : XAt h b o) (w : Wf h) (fm : Fm No h h') : XAt h' b o := x.wr w (Wr.of (F := No) w fm)
theorem LmV.wr {F : Nat → Prop} {h h' : Hp} {v : Value} {x : Nat} (l : LmV h v x) (w : Wf h) (r : Wr F h h') (s : SF h F) : LmV h' v x := by
  obtain ⟨oa, c, e, l⟩ := l
  exact ⟨oa, c, e, l.wr w r s⟩
theorem st_set {cs : List Value} {o : Nat} {v : Value} (s : St cs) (hv : ∀ k a, v ≠ .int k a) : St (cs.set o v) := by
  intro i k a
  rw [List.getElem?_set]
  split
  · split
    · intro h; cases h; exact hv k a rfl
    · simp
  · exact s i k a
theorem st2 {b : Bool} {oa : Option Addr} {n c : Nat} : St [.bool b, .slice oa n c] := by
  intro i k a
  rcases i with _ | _ | i <;> simp
theorem st4 {b b' : Bool} {oa oa' : Option Addr} {n c n' c' : Nat} : St [.bool b, .slice oa n c, .bool b', .slice oa' n' c'] := by
  intro i k a
  rcases i with _ | _ | _ | _ | i <;> simp
theorem c_set {h : Hp} {b o x : Nat} {v : Value} (xa : XAt h b o) (l : LmV h v x) :
    ACalls Try.prog 115 [.pointer (some ⟨b, o, none⟩), .bool false, v] h fun r h' => r = .pointer (some ⟨b, o, none⟩) ∧ Wr (fun y => y = b) h h' ∧ NatAt h' b o x ∧ (∀ i, i ≠ o → i ≠ o + 1 → h'.rd b i = h.rd b i) := by
  refine num_Int__set_ok.snd hm rfl fun w => ?_
  rw [WF_eq, num_Int__set]
  have hs := xa.sf
  obtain ⟨cs, hg, hst, hlen⟩ := xa
  obtain ⟨oa, c, rfl, l⟩ := l
  have l1 : leIs (o + 1) cs = true := by rw [← leIs_p]; omega
  have l2 : leIs (o + 1 + 1) (cs.set o (.bool false)) = true := by rw [← leIs_p, List.length_set]; omega
  have s1 : spl cs o [.bool false] = cs.set o (.bool false) := spl_one _ _ _ (by omega)
  have s2 : ∀ u, spl (cs.set o (.bool false)) (o + 1) [u] = (cs.set o (.bool false)).set (o + 1) u := fun u => spl_one _ _ _ (by rw [List.length_set]; omega)
  simp +contextual (disch := omega) only [↓AM, ↓AV, AP, CQ, hg, l1, l2, s1, s2, put_put]
  have wr : Wr (fun y => y = b) h (h.put b ⟨(cs.set o (.bool false)).set (o + 1) (.slice oa (dg x).length c), .own⟩) := by
    refine ⟨Fm.put Fm.refl fun _ => rfl, ?_⟩
    rintro _ cs' rfl hg'
    rw [hg] at hg'
    cases hg'
    exact ⟨_, gput, by simp, fun s => st_set (st_set s (by simp)) (by simp)⟩
  refine ⟨wr, ⟨_, oa, c, gput, st_set (st_set hst (by simp)) (by simp), ?_, ?_, l.wr w wr hs⟩, ?_⟩
  · rw [List.getElem?_set_ne (by omega), List.getElem?_set_self (by omega)]
  · rw [List.getElem?_set_self (by simp; omega)]
  · intro i h1 h2
    rw [rd_mk hg, List.getElem?_set_ne (by omega), List.getElem?_set_ne (by omega)]
theorem c_setI {h : Hp} {b o v : Nat} (xa : XAt h b o) (hv : (v : Int) ≤ 9223372036854775807) :
    ACalls Try.prog 90 [.pointer (some ⟨b, o, none⟩), .int .i64 (v : Int)] h fun r h' => r = .pointer (some ⟨b, o, none⟩) ∧ Wr (fun y => y = b) h h' ∧ NatAt h' b o v := by
  refine num_Int__SetInt64_ok.snd hm rfl fun w => ?_
  rw [WF_eq, num_Int__SetInt64]
  have e0 : ((v : Int) < 0) = False := by simp
  simp +contextual (disch := omega) only [↓AM, ↓AV, AP, CQ, u64, e0]
  refine (c_magOf (v := v) (by omega)).use ?_
  rintro _ h1 w1 ⟨l, fm⟩
  simp +contextual (disch := omega) only [↓AM, ↓AV, AP, CQ]
  refine (c_set (xa.keep w fm) l).use ?_
  rintro _ h2 w2 ⟨rfl, wr, n, -⟩
  simp +contextual (disch := omega) only [↓AM, ↓AV, AP, CQ]
  exact ⟨(Wr.of (F := fun y => y = b) w fm).trans w w1 wr fun _ _ f => f, n⟩
theorem wr_new {h h' : Hp} {o : Ob} (w : Wf h) (wr : Wr (fun y => y = h.size) (h.new o) h') : Fm No h h' :=
  (Fm.new Fm.refl).trans wr.fm fun x hx f => by subst f; omega
theorem x_new {h : Hp} {o : Nat} (ho : o + 1 < 2) : XAt (h.new ⟨[.bool false, .slice none 0 0], .own⟩) h.size o := ⟨_, gnew, st2, ho⟩
theorem c_newI {h : Hp} {v : Nat} (hv : (v : Int) ≤ 9223372036854775807) :
    ACalls Try.prog 56 [.int .i64 (v : Int)] h fun r h' => ∃ b, r = .pointer (some ⟨b, 0, none⟩) ∧ h.size ≤ b ∧ NatAt h' b 0 v ∧ Fm No h h' := by
  refine num_NewInt_ok.snd hm rfl fun w => ?_
  rw [WF_eq, num_NewInt]
  simp +contextual (disch := omega) only [↓AM, ↓AV, AP, CQ]
  refine (c_setI (x_new (by decide)) hv).use ?_
  rintro _ h2 w2 ⟨rfl, wr, n⟩
  simp +contextual (disch := omega) only [↓AM, ↓AV, AP, CQ]
  exact ⟨_, rfl, Nat.le_refl _, n, wr_new w wr⟩
theorem c_MulI {h : Hp} {bx ox ba oa bb ob x y : Nat} (xa : XAt h bx ox) (na : NatAt h ba oa x) (nb : NatAt h bb ob y) (hx : (dg x).length ≤ 400000) (hy : (dg y).length ≤ 400000) :
    ACalls Try.prog 108 [.pointer (some ⟨bx, ox, none⟩), .pointer (some ⟨ba, oa, none⟩), .pointer (some ⟨bb, ob, none⟩)] h fun r h' => r = .pointer (some ⟨bx, ox, none⟩) ∧ Wr (fun y => y = bx) h h' ∧ NatAt h' bx ox (x * y) := by
  refine num_Int__Mul_ok.snd hm rfl fun w => ?_
  rw [WF_eq, num_Int__Mul]
  obtain ⟨ca, a, c, ga, sa, a0, a1, la⟩ := na
  obtain ⟨cb, b, d, gb, sb, b0, b1, lb⟩ := nb
  have r0 := (rd_mk ga (i := oa)).trans a0
  have r1 := (rd_mk ga (i := oa + 1)).trans a1
  have q0 := (rd_mk gb (i := ob)).trans b0
  have q1 := (rd_mk gb (i := ob + 1)).trans b1
  simp +contextual (disch := omega) only [↓AM, ↓AV, AP, CQ, r0, r1, q0, q1]
  refine (c_mul la lb hx hy).use ?_
  rintro _ h1 w1 ⟨l, fm⟩
  have r0 := (rd_mk (fm.keep w ga (fun f => f)) (i := oa)).trans a0
  have r1 := (rd_mk (fm.keep w ga (fun f => f)) (i := oa + 1)).trans a1
  have q0 := (rd_mk (fm.keep w gb (fun f => f)) (i := ob)).trans b0
  have q1 := (rd_mk (fm.keep w gb (fun f => f)) (i := ob + 1)).trans b1
  have bne : (false != false) = false := rfl
  simp +contextual (disch := omega) only [↓AM, ↓AV, AP, CQ, r0, r1, q0, q1, bne]
  refine (c_set (xa.keep w fm) l).use ?_
  rintro _ h2 w2 ⟨rfl, wr, n, -⟩
  simp +contextual (disch := omega) only [↓AM, ↓AV, AP, CQ]
  exact ⟨(Wr.of (F := fun y => y = bx) w fm).trans w w1 wr fun _ _ f => f, n⟩
theorem c_prod {h : Hp} {ba oa bb ob x y : Nat} (na : NatAt h ba oa x) (nb : NatAt h bb ob y) (hx : (dg x).length ≤ 400000) (hy : (dg y).length ≤ 400000) :
    ACalls Try.prog 95 [.pointer (some ⟨ba, oa, none⟩), .pointer (some ⟨bb, ob, none⟩)] h fun r h' => ∃ b, r = .pointer (some ⟨b, 0, none⟩) ∧ h.size ≤ b ∧ NatAt h' b 0 (x * y) ∧ Fm No h h' := by
  refine num_product_ok.snd hm rfl fun w => ?_
  rw [WF_eq, num_product]
  simp +contextual (disch := omega) only [↓AM, ↓AV, AP, CQ]
  have fm : Fm No h (h.new ⟨[.bool false, .slice none 0 0], .own⟩) := Fm.new Fm.refl
  refine (c_MulI (x_new (by decide)) (na.keep w fm) (nb.keep w fm) hx hy).use ?_
  rintro _ h2 w2 ⟨rfl, wr, n⟩
  simp +contextual (disch := omega) only [↓AM, ↓AV, AP, CQ]
  exact ⟨_, rfl, Nat.le_refl _, n, wr_new w wr⟩
theorem c_QuoRem {h : Hp} {bx ox ba oa bb ob br or' x y : Nat} (xa : XAt h bx ox) (ra : XAt h br or') (hne : bx ≠ br) (na : NatAt h ba oa x) (nb : NatAt h bb ob y) (hx : (dg x).length ≤ 400000) (hy0 : 0 < y) (hy : y < 4294967296) :
    ACalls Try.prog 120 [.pointer (some ⟨bx, ox, none⟩), .pointer (some ⟨ba, oa, none⟩), .pointer (some ⟨bb, ob, none⟩), .pointer (some ⟨br, or', none⟩)] h fun r h' =>
      r = .tuple #[.pointer (some ⟨bx, ox, none⟩), .pointer (some ⟨br, or', none⟩)] ∧ Wr (fun y => y = bx ∨ y = br) h h' ∧ NatAt h' bx ox (x / y) ∧ NatAt h' br or' (x % y) := by
  refine num_Int__QuoRem_ok.snd hm rfl fun w => ?_
  rw [WF_eq, num_Int__QuoRem]
  obtain ⟨ca, a, c, ga, sa, a0, a1, la⟩ := na
  obtain ⟨cb, b, d, gb, sb, b0, b1, lb⟩ := nb
  have r0 := (rd_mk ga (i := oa)).trans a0
  have r1 := (rd_mk ga (i := oa + 1)).trans a1
  have q0 := (rd_mk gb (i := ob)).trans b0
  have q1 := (rd_mk gb (i := ob + 1)).trans b1
  have bne : (false != false) = false := rfl
  simp +contextual (disch := omega) only [↓AM, ↓AV, AP, CQ, r0, r1, q0, q1, bne]
  refine (c_div la lb hx hy0 hy).use ?_
  rintro _ h1 w1 ⟨u, v, rfl, lu, lv, fm⟩
  have r1 := (rd_mk (fm.keep w ga (fun f => f)) (i := oa + 1)).trans a1
  have q1 := (rd_mk (fm.keep w gb (fun f => f)) (i := ob + 1)).trans b1
  simp +contextual (disch := omega) only [↓AM, ↓AV, AP, CQ, r1, q1]
  have ra1 := ra.keep w fm
  have xa1 := xa.keep w fm
  refine (c_set ra1 lv).use ?_
  rintro _ h2 w2 ⟨rfl, wr, n, -⟩
  simp +contextual (disch := omega) only [↓AM, ↓AV, AP, CQ]
  have xa2 := xa1.wr w1 wr
  refine (c_set xa2 (lu.wr w1 wr ra1.sf)).use ?_
  rintro _ h3 w3 ⟨rfl, wr3, n3, -⟩
  simp +contextual (disch := omega) only [↓AM, ↓AV, AP, CQ]
  refine ⟨((Wr.of (F := fun y => y = bx ∨ y = br) w fm).trans w w1 wr fun _ _ f => .inr f).trans w w2 wr3 fun _ _ f => .inl f, n3, n.wr w2 wr3 xa2.sf (fun e => hne e.symm)⟩
theorem c_low {h : Hp} {b o x : Nat} (n : NatAt h b o x) (hx : x < 18446744073709551616) :
    ACalls Try.prog 119 [.pointer (some ⟨b, o, none⟩)] h fun r h' => r = .int .u64 (x : Int) ∧ h' = h := by
  refine num_Int__low_ok.snd hm rfl fun w => ?_
  rw [WF_eq, num_Int__low]
  obtain ⟨ca, a, c, ga, sa, a0, a1, la⟩ := n
  have r1 := (rd_mk ga (i := o + 1)).trans a1
  have hlen : (dg x).length ≤ 2 := by
    rcases Nat.lt_or_ge 2 (dg x).length with h | h
    · exfalso
      have h1 := vL_ge b32 (dig_nz (hB := b32) x) (by intro e; rw [show dg x = [] from e] at h; simp at h)
      rw [show vL B32 (dig B32 b32 x) = x from dg_val x] at h1
      have h2 : B32 ^ 2 ≤ B32 ^ ((dig B32 b32 x).length - 1) := Nat.pow_le_pow_right (by decide) (by show 2 ≤ (dg x).length - 1; omega)
      have : B32 ^ 2 = 18446744073709551616 := by decide
      omega
    · exact h
  have emn : intMin [.int .i64 2, .int .i64 ((dg x).length : Int)] = some (.int .i64 ((dg x).length : Int)) := by
    have : (dg x).length = 0 ∨ (dg x).length = 1 ∨ (dg x).length = 2 := by omega
    rcases this with e | e | e <;> rw [e] <;> rfl
  simp +contextual (disch := omega) only [↓AM, ↓AV, AP, CQ, i64, r1, emn]
  refine WL.mk (fun k t h' => h' = h ∧ k ≤ (dg x).length ∧ t = [(0, some (.pointer (some ⟨b, o, none⟩))), (3, some (.int .u64 ((vL B32 ((dg x).drop k) : Nat) : Int))), (4, some (.int .i64 ((k : Int) - 1)))]) ⟨(dg x).length, rfl, Nat.le_refl _, by rw [List.drop_eq_nil_of_le (Nat.le_refl _)]; rfl⟩ ?_
  rintro k t hh ⟨rfl, hk, rfl⟩
  cases k with
  | zero =>
    have e2 : ((0 : Int) ≤ ((0 : Nat) : Int) - 1) = False := by simp
    simp +contextual (disch := omega) only [↓AM, ↓AV, AP, CQ, i64, e2, List.drop_zero]
    rw [dg_val]
  | succ k =>
    have hk1 : k < (dg x).length := by omega
    obtain ⟨b1, o1, s1, p, rfl, f1, hp, r2⟩ := la.rd.nat hk1
    have hpl : p < 4294967296 := la.dl.at hp
    have hvl : vL B32 ((dg x).drop (k + 1)) < 4294967296 := by
      have h1 := vL_lt (B := B32) (l := (dg x).drop (k + 1)) fun d hd => dg_dl x d (List.mem_of_mem_drop hd)
      rw [List.length_drop] at h1
      have h2 : B32 ^ ((dg x).length - (k + 1)) ≤ B32 ^ 1 := Nat.pow_le_pow_right (by decide) (by omega)
      have : B32 ^ 1 = 4294967296 := by decide
      omega
    have ed : vL B32 ((dg x).drop k) = vL B32 ((dg x).drop (k + 1)) * 4294967296 + p := by
      rw [List.drop_eq_getElem_cons hk1]
      rw [List.getElem?_eq_getElem hk1] at hp
      rw [Option.some.inj hp, vL]
      show p + 4294967296 * _ = _
      omega
    generalize vL B32 ((dg x).drop (k + 1)) = v at *
    have eor := or_32 hvl hpl
    simp +contextual (disch := omega) only [↓AM, ↓AV, AP, CQ, CN, i64, u64, f1, r1, r2, hk1, eor]
    exact ⟨k, by omega, by omega, by rw [ed]⟩
theorem c_Int64 {h : Hp} {b o x : Nat} (n : NatAt h b o x) (hx : x ≤ 9223372036854775807) :
    ACalls Try.prog 97 [.pointer (some ⟨b, o, none⟩)] h fun r h' => r = .int .i64 (x : Int) ∧ h' = h := by
  refine num_Int__Int64_ok.snd hm rfl fun w => ?_
  rw [WF_eq, num_Int__Int64]
  have n0 := n
  obtain ⟨ca, a, c, ga, sa, a0, a1, la⟩ := n
  have r0 := (rd_mk ga (i := o)).trans a0
  simp +contextual (disch := omega) only [↓AM, ↓AV, AP, CQ, r0]
  refine (c_low n0 (by omega)).use ?_
  rintro _ _ w2 ⟨rfl, rfl⟩
  simp +contextual (disch := omega) only [↓AM, ↓AV, AP, CQ, i64]
end Go.Proofs.Ytbfbgkhlngkifaa.Nu

/- Fractions in memory. Plain theorems over the abstract machine.
   Conditions: none. -/
namespace Go.Proofs.Ytbfbgkhlngkifaa.Nu
open Go Go.RowKit Go.Proofs.Ytbfbgkhlngkifaa.Am Go.Proofs.Ytbfbgkhlngkifaa.Af Go.Proofs.Ytbfbgkhlngkifaa.Md
set_option linter.unusedVariables false
set_option linter.unusedSimpArgs false
set_option linter.defProp false
set_option maxRecDepth 20000
set_option maxHeartbeats 1000000

theorem dg_len {x k : Nat} (h : x < B32 ^ k) : (dg x).length ≤ k := by
  rcases Nat.lt_or_ge k (dg x).length with hk | hk
  · exfalso
    have h1 := vL_ge b32 (dig_nz (hB := b32) x) (by intro e; rw [show dg x = [] from e] at hk; simp at hk)
    rw [show vL B32 (dig B32 b32 x) = x from dg_val x] at h1
    have h2 : B32 ^ k ≤ B32 ^ ((dig B32 b32 x).length - 1) := Nat.pow_le_pow_right (by decide) (by show k ≤ (dg x).length - 1; omega)
    omega
  · exact hk
theorem dg_len4 {x : Nat} (h : x < B32 ^ 4) : (dg x).length ≤ 400000 := Nat.le_trans (dg_len h) (by decide)
theorem dg_pos {x : Nat} : 0 < (dg x).length ↔ 0 < x := by
  constructor
  · intro h
    rcases Nat.eq_zero_or_pos x with rfl | h0
    · rw [dg_0] at h; simp at h
    · exact h0
  · intro h
    rcases Nat.eq_zero_or_pos (dg x).length with h0 | h0
    · have : dig B32 b32 x = [] := List.length_eq_zero_iff.1 h0
      rw [dig_nil] at this
      omega
    · exact h0
/-- A fraction at a place. -/
def RatAt (h : Hp) (b p q : Nat) : Prop := NatAt h b 0 p ∧ NatAt h b 2 q
theorem XAt.le {h : Hp} {b o o' : Nat} (x : XAt h b o) (ho : o' ≤ o) : XAt h b o' := by
  obtain ⟨cs, h1, h2, h3⟩ := x
  exact ⟨cs, h1, h2, by omega⟩
theorem NatAt.same {h h' : Hp} {b o x : Nat} (n : NatAt h b o x) (w : Wf h) (wr : Wr (fun y => y = b) h h') (e0 : h'.rd b o = h.rd b o) (e1 : h'.rd b (o + 1) = h.rd b (o + 1)) : NatAt h' b o x := by
  have sf := n.x.sf
  obtain ⟨cs, oa, c, h1, h2, h3, h4, h5⟩ := n
  obtain ⟨cs', g1, g2, g3⟩ := wr.ln b cs rfl h1
  rw [rd_mk g1, rd_mk h1] at e0 e1
  exact ⟨cs', oa, c, g1, g3 h2, e0.trans h3, e1.trans h4, h5.wr w wr sf⟩
theorem c_SetFrac {h : Hp} {bx ba oa bb ob p q : Nat} (xa : XAt h bx 2) (na : NatAt h ba oa p) (nb : NatAt h bb ob q) (hp : p < B32 ^ 4) (hq0 : 0 < q) (hq : q < 4294967296) :
    ACalls Try.prog 94 [.pointer (some ⟨bx, 0, none⟩), .pointer (some ⟨ba, oa, none⟩), .pointer (some ⟨bb, ob, none⟩)] h fun r h' => r = .pointer (some ⟨bx, 0, none⟩) ∧ Wr (fun y => y = bx) h h' ∧ RatAt h' bx (p / Nat.gcd p q) (q / Nat.gcd p q) := by
  refine num_Rat__SetFrac_ok.snd hm rfl fun w => ?_
  rw [WF_eq, num_Rat__SetFrac]
  obtain ⟨ca, a, c, ga, sa, a0, a1, la⟩ := na
  obtain ⟨cb, b, d, gb, sb, b0, b1, lb⟩ := nb
  have r0 := (rd_mk ga (i := oa)).trans a0
  have r1 := (rd_mk ga (i := oa + 1)).trans a1
  have q0 := (rd_mk gb (i := ob)).trans b0
  have q1 := (rd_mk gb (i := ob + 1)).trans b1
  have hpl := dg_len4 hp
  have hqB : q < B32 ^ 4 := Nat.lt_trans hq (by decide)
  have hql := dg_len4 hqB
  have hg0 : 0 < Nat.gcd p q := Nat.gcd_pos_of_pos_right _ hq0
  have hg : Nat.gcd p q < 4294967296 := Nat.lt_of_le_of_lt (Nat.gcd_le_right _ hq0) hq
  have bne : (false != false) = false := rfl
  simp +contextual (disch := omega) only [↓AM, ↓AV, AP, CQ, r0, r1, q0, q1, bne]
  refine (c_clone la (by omega)).use ?_
  rintro _ h1 w1 ⟨l, fm⟩
  have r1 := (rd_mk (fm.keep w ga (fun f => f)) (i := oa + 1)).trans a1
  have q1 := (rd_mk (fm.keep w gb (fun f => f)) (i := ob + 1)).trans b1
  simp +contextual (disch := omega) only [↓AM, ↓AV, AP, CQ, r1, q1]
  refine WL.mk (fun k t h' => Wf h' ∧ Fm No h h' ∧ ∃ x u v, k < 4294967296 ∧ x < B32 ^ 4 ∧ Nat.gcd x k = Nat.gcd p q ∧ LmV h' u x ∧ LmV h' v k ∧
      t = [(0, some (.pointer (some ⟨bx, 0, none⟩))), (1, some (.pointer (some ⟨ba, oa, none⟩))), (2, some (.pointer (some ⟨bb, ob, none⟩))), (7, some u), (8, some v)])
    ⟨q, w1, fm, p, _, _, hq, hp, rfl, l, ⟨b, d, rfl, lb.rd.keepW w fm nNo, lb.le, lb.dl⟩, rfl⟩ ?_
  rintro k t h2 ⟨w2, fm2, x, u, v, hk, hx, hgc, ⟨au, cu, rfl, lu⟩, ⟨av, cv, rfl, lv⟩, rfl⟩
  rcases Nat.eq_zero_or_pos k with rfl | hk0
  · have e0 : ((0 : Int) < ((dg 0).length : Int)) = False := by rw [dg_0]; simp
    simp +contextual (disch := omega) only [↓AM, ↓AV, AP, CQ, e0]
    rw [Nat.gcd_zero_right] at hgc
    have r1 := (rd_mk (fm2.keep w ga (fun f => f)) (i := oa + 1)).trans a1
    have la2 := la.rd.keepW w fm2 nNo
    have lb2 := lb.rd.keepW w fm2 nNo
    simp +contextual (disch := omega) only [↓AM, ↓AV, AP, CQ, r1]
    rw [hgc] at lu ⊢
    refine (c_div ⟨la2, la.le, la.dl⟩ lu hpl hg0 hg).use ?_
    rintro _ h3 w3 ⟨up, _, rfl, lup, -, fm3⟩
    have fm3h := fm2.trans fm3 fun _ _ f => f
    have q1 := (rd_mk (fm3h.keep w gb (fun f => f)) (i := ob + 1)).trans b1
    simp +contextual (disch := omega) only [↓AM, ↓AV, AP, CQ, q1]
    refine (c_div ⟨lb2.keepW w2 fm3 nNo, lb.le, lb.dl⟩ ⟨lu.rd.keepW w2 fm3 nNo, lu.le, lu.dl⟩ hql hg0 hg).use ?_
    rintro _ h4 w4 ⟨dn, _, rfl, ldn, -, fm4⟩
    have fm4h := fm3h.trans fm4 fun _ _ f => f
    have r0 := (rd_mk (fm4h.keep w ga (fun f => f)) (i := oa)).trans a0
    have q0 := (rd_mk (fm4h.keep w gb (fun f => f)) (i := ob)).trans b0
    simp +contextual (disch := omega) only [↓AM, ↓AV, AP, CQ, r0, q0, bne]
    have xa4 := xa.keep w fm4h
    refine (c_set (xa4.le (o' := 0) (by omega)) (lup.keep w3 fm4)).use ?_
    rintro _ h5 w5 ⟨rfl, wr5, n5, -⟩
    simp +contextual (disch := omega) only [↓AM, ↓AV, AP, CQ]
    have xa5 := xa4.wr w4 wr5
    refine (c_set xa5 (ldn.wr w4 wr5 xa4.sf)).use ?_
    rintro _ h6 w6 ⟨rfl, wr6, n6, sm⟩
    simp +contextual (disch := omega) only [↓AM, ↓AV, AP, CQ]
    refine ⟨((Wr.of (F := fun y => y = bx) w fm4h).trans w w4 wr5 fun _ _ f => f).trans w w5 wr6 fun _ _ f => f, n5.same w5 wr6 (sm 0 (by omega) (by omega)) (sm 1 (by omega) (by omega)), n6⟩
  · have e0 : ((0 : Int) < ((dg k).length : Int)) = True := eq_true (by have := dg_pos.2 hk0; omega)
    simp +contextual (disch := omega) only [↓AM, ↓AV, AP, CQ, e0]
    refine (c_div lu lv (dg_len4 hx) hk0 hk).use ?_
    rintro _ h3 w3 ⟨qu, rm, rfl, -, lrm, fm3⟩
    simp +contextual (disch := omega) only [↓AM, ↓AV, AP, CQ]
    refine ⟨x % k, Nat.mod_lt _ hk0, w3, fm2.trans fm3 fun _ _ f => f, k, _, _, Nat.lt_trans (Nat.mod_lt _ hk0) hk, Nat.lt_trans hk (by decide), ?_, ⟨av, cv, rfl, lv.rd.keepW w2 fm3 nNo, lv.le, lv.dl⟩, lrm, rfl⟩
    rw [← hgc, Nat.gcd_comm x k, Nat.gcd_rec k x, Nat.gcd_comm]
theorem x_new4 {h : Hp} : XAt (h.new ⟨[.bool false, .slice none 0 0, .bool false, .slice none 0 0], .own⟩) h.size 2 := ⟨_, gnew, st4, by decide⟩
theorem c_NewRat {h : Hp} {p q : Nat} (hp : (p : Int) ≤ 9223372036854775807) (hq0 : 0 < q) (hq : q < 4294967296) :
    ACalls Try.prog 68 [.int .i64 (p : Int), .int .i64 (q : Int)] h fun r h' => ∃ b, r = .pointer (some ⟨b, 0, none⟩) ∧ h.size ≤ b ∧ RatAt h' b (p / Nat.gcd p q) (q / Nat.gcd p q) ∧ Fm No h h' := by
  refine num_NewRat_ok.snd hm rfl fun w => ?_
  rw [WF_eq, num_NewRat]
  simp +contextual (disch := omega) only [↓AM, ↓AV, AP, CQ]
  refine (c_newI hp).use ?_
  rintro _ h1 w1 ⟨b1, rfl, hb1, n1, fm1⟩
  simp +contextual (disch := omega) only [↓AM, ↓AV, AP, CQ]
  refine (c_newI (v := q) (by omega)).use ?_
  rintro _ h2 w2 ⟨b2, rfl, hb2, n2, fm2⟩
  simp +contextual (disch := omega) only [↓AM, ↓AV, AP, CQ]
  have fm12 := fm1.trans fm2 fun _ _ f => f
  refine (c_SetFrac (x_new4.keep w.new fm12) (n1.keep w1 fm2) n2 (Nat.lt_trans (show p < 18446744073709551616 by omega) (by decide)) hq0 hq).use ?_
  rintro _ h3 w3 ⟨rfl, wr, rt⟩
  simp +contextual (disch := omega) only [↓AM, ↓AV, AP, CQ]
  exact ⟨_, rfl, Nat.le_refl _, rt, ((Fm.new Fm.refl).trans fm12 fun _ _ f => f).trans wr.fm fun x hx f => by subst f; omega⟩
theorem c_down {h : Hp} {b p q : Nat} (r : RatAt h b p q) (hq : 0 < q) :
    ACalls Try.prog 93 [.pointer (some ⟨b, 0, none⟩)] h fun r h' => r = .pointer (some ⟨b, 2, none⟩) ∧ h' = h := by
  refine num_Rat__down_ok.snd hm rfl fun w => ?_
  rw [WF_eq, num_Rat__down]
  obtain ⟨cb, a, d, gb, sb, b0, b1, lb⟩ := r.2
  have q1 := (rd_mk gb (i := 3)).trans b1
  have e0 : EqI ((dg q).length : Int) 0 = False := eq_false (by have := dg_pos.2 hq; unfold EqI; omega)
  simp +contextual (disch := omega) only [↓AM, ↓AV, AP, CQ, q1, e0]
theorem c_Num {h : Hp} {b : Nat} : ACalls Try.prog 57 [.pointer (some ⟨b, 0, none⟩)] h fun r h' => r = .pointer (some ⟨b, 0, none⟩) ∧ h' = h := by
  refine num_Rat__Num_ok.snd hm rfl fun w => ?_
  rw [WF_eq, num_Rat__Num]
  simp +contextual (disch := omega) only [↓AM, ↓AV, AP, CQ]
theorem c_Denom {h : Hp} {b p q : Nat} (r : RatAt h b p q) (hq : 0 < q) :
    ACalls Try.prog 59 [.pointer (some ⟨b, 0, none⟩)] h fun r h' => r = .pointer (some ⟨b, 2, none⟩) ∧ h' = h := by
  refine num_Rat__Denom_ok.snd hm rfl fun w => ?_
  rw [WF_eq, num_Rat__Denom]
  simp +contextual (disch := omega) only [↓AM, ↓AV, AP, CQ]
  refine (c_down r hq).use ?_
  rintro _ _ w1 ⟨rfl, rfl⟩
  simp +contextual (disch := omega) only [↓AM, ↓AV, AP, CQ]
end Go.Proofs.Ytbfbgkhlngkifaa.Nu

/- Nothing of its own: the functions stand in one text. -/

/- Whole numbers with signs in memory. Plain theorems over the abstract machine.
   Conditions: none. -/
namespace Go.Proofs.Ytbfbgkhlngkifaa.Nu
open Go Go.RowKit Go.Proofs.Ytbfbgkhlngkifaa.Am Go.Proofs.Ytbfbgkhlngkifaa.Af Go.Proofs.Ytbfbgkhlngkifaa.Md
set_option linter.unusedVariables false
set_option linter.unusedSimpArgs false
set_option linter.defProp false
set_option maxRecDepth 20000
set_option maxHeartbeats 1000000

/-- A whole number at a place. -/
def IntAt (h : Hp) (b o : Nat) (z : Int) : Prop := ∃ cs oa c, h.get b = some ⟨cs, .own⟩ ∧ St cs ∧ cs[o]? = some (.bool (decide (z < 0))) ∧ cs[o + 1]? = some (.slice oa (dg z.natAbs).length c) ∧ Lm h oa (dg z.natAbs).length c (dg z.natAbs)
theorem IntAt.x {h : Hp} {b o : Nat} {z : Int} (n : IntAt h b o z) : XAt h b o := by
  obtain ⟨cs, oa, c, h1, h2, h3, h4, h5⟩ := n
  exact ⟨cs, h1, h2, (List.getElem?_eq_some_iff.1 h4).1⟩
theorem IntAt.nat {h : Hp} {b o x : Nat} (n : IntAt h b o (x : Int)) : NatAt h b o x := by
  obtain ⟨cs, oa, c, h1, h2, h3, h4, h5⟩ := n
  have e : decide ((x : Int) < 0) = false := by simp
  rw [e] at h3
  exact ⟨cs, oa, c, h1, h2, h3, h4, h5⟩
theorem NatAt.int {h : Hp} {b o x : Nat} (n : NatAt h b o x) : IntAt h b o (x : Int) := by
  obtain ⟨cs, oa, c, h1, h2, h3, h4, h5⟩ := n
  have e : decide ((x : Int) < 0) = false := by simp
  exact ⟨cs, oa, c, h1, h2, by rw [e]; exact h3, h4, h5⟩
theorem IntAt.wr {F : Nat → Prop} {h h' : Hp} {b o : Nat} {z : Int} (n : IntAt h b o z) (w : Wf h) (r : Wr F h h') (s : SF h F) (hb : ¬ F b) : IntAt h' b o z := by
  obtain ⟨cs, oa, c, h1, h2, h3, h4, h5⟩ := n
  exact ⟨cs, oa, c, r.fm.keep w h1 hb, h2, h3, h4, h5.wr w r s⟩
theorem IntAt.keep {h h' : Hp} {b o : Nat} {z : Int} (n : IntAt h b o z) (w : Wf h) (fm : Fm No h h') : IntAt h' b o z :=
  n.wr w (Wr.of (F := No) w fm) (fun _ f => f.elim) (fun f => f)
theorem IntAt.r0 {h : Hp} {b o : Nat} {z : Int} (n : IntAt h b o z) : h.rd b o = some (.bool (decide (z < 0))) := by
  obtain ⟨cs, oa, c, h1, h2, h3, h4, h5⟩ := n
  exact (rd_mk h1).trans h3
theorem IntAt.r1 {h : Hp} {b o : Nat} {z : Int} (n : IntAt h b o z) : ∃ oa c, h.rd b (o + 1) = some (.slice oa (dg z.natAbs).length c) ∧ Lm h oa (dg z.natAbs).length c (dg z.natAbs) := by
  obtain ⟨cs, oa, c, h1, h2, h3, h4, h5⟩ := n
  exact ⟨oa, c, (rd_mk h1).trans h4, h5⟩
theorem c_setS {h : Hp} {b o x : Nat} {v : Value} (neg : Bool) (xa : XAt h b o) (l : LmV h v x) :
    ACalls Try.prog 115 [.pointer (some ⟨b, o, none⟩), .bool neg, v] h fun r h' => r = .pointer (some ⟨b, o, none⟩) ∧ Wr (fun y => y = b) h h' ∧ IntAt h' b o (if neg then -(x : Int) else x) ∧ (∀ i, i ≠ o → i ≠ o + 1 → h'.rd b i = h.rd b i) := by
  cases neg with
  | false =>
    refine (c_set xa l).mono ?_
    rintro r h' ⟨h1, h2, h3, h4⟩
    exact ⟨h1, h2, h3.int, h4⟩
  | true =>
    rcases Nat.eq_zero_or_pos x with rfl | hx
    · refine num_Int__set_ok.snd hm rfl fun w => ?_
      rw [WF_eq, num_Int__set]
      have hs := xa.sf
      obtain ⟨cs, hg, hst, hlen⟩ := xa
      obtain ⟨oa, c, rfl, l⟩ := l
      have e0 : ((0 : Int) < ((dg 0).length : Int)) = False := by rw [dg_0]; simp
      have l1 : leIs (o + 1) cs = true := by rw [← leIs_p]; omega
      have l2 : leIs (o + 1 + 1) (cs.set o (.bool false)) = true := by rw [← leIs_p, List.length_set]; omega
      have s1 : spl cs o [.bool false] = cs.set o (.bool false) := spl_one _ _ _ (by omega)
      have s2 : ∀ u, spl (cs.set o (.bool false)) (o + 1) [u] = (cs.set o (.bool false)).set (o + 1) u := fun u => spl_one _ _ _ (by rw [List.length_set]; omega)
      simp +contextual (disch := omega) only [↓AM, ↓AV, AP, CQ, e0, hg, l1, l2, s1, s2, put_put]
      have wr : Wr (fun y => y = b) h (h.put b ⟨(cs.set o (.bool false)).set (o + 1) (.slice oa (dg 0).length c), .own⟩) := by
        refine ⟨Fm.put Fm.refl fun _ => rfl, ?_⟩
        rintro _ cs' rfl hg'
        rw [hg] at hg'
        cases hg'
        exact ⟨_, gput, by simp, fun s => st_set (st_set s (by simp)) (by simp)⟩
      refine ⟨wr, ⟨_, oa, c, gput, st_set (st_set hst (by simp)) (by simp), ?_, ?_, l.wr w wr hs⟩, ?_⟩
      · rw [List.getElem?_set_ne (by omega), List.getElem?_set_self (by omega)]; rfl
      · rw [List.getElem?_set_self (by simp; omega)]; rfl
      · intro i h1 h2
        rw [rd_mk hg, List.getElem?_set_ne (by omega), List.getElem?_set_ne (by omega)]
    · refine num_Int__set_ok.snd hm rfl fun w => ?_
      rw [WF_eq, num_Int__set]
      have hs := xa.sf
      obtain ⟨cs, hg, hst, hlen⟩ := xa
      obtain ⟨oa, c, rfl, l⟩ := l
      have e0 : ((0 : Int) < ((dg x).length : Int)) = True := eq_true (by have := dg_pos.2 hx; omega)
      have l1 : leIs (o + 1) cs = true := by rw [← leIs_p]; omega
      have l2 : leIs (o + 1 + 1) (cs.set o (.bool true)) = true := by rw [← leIs_p, List.length_set]; omega
      have s1 : spl cs o [.bool true] = cs.set o (.bool true) := spl_one _ _ _ (by omega)
      have s2 : ∀ u, spl (cs.set o (.bool true)) (o + 1) [u] = (cs.set o (.bool true)).set (o + 1) u := fun u => spl_one _ _ _ (by rw [List.length_set]; omega)
      simp +contextual (disch := omega) only [↓AM, ↓AV, AP, CQ, e0, hg, l1, l2, s1, s2, put_put]
      have wr : Wr (fun y => y = b) h (h.put b ⟨(cs.set o (.bool true)).set (o + 1) (.slice oa (dg x).length c), .own⟩) := by
        refine ⟨Fm.put Fm.refl fun _ => rfl, ?_⟩
        rintro _ cs' rfl hg'
        rw [hg] at hg'
        cases hg'
        exact ⟨_, gput, by simp, fun s => st_set (st_set s (by simp)) (by simp)⟩
      have en : decide (-(x : Int) < 0) = true := by simp; omega
      have ea : (-(x : Int)).natAbs = x := by omega
      refine ⟨wr, ⟨_, oa, c, gput, st_set (st_set hst (by simp)) (by simp), ?_, ?_, ?_⟩, ?_⟩
      · rw [List.getElem?_set_ne (by omega), List.getElem?_set_self (by omega), en]
      · rw [List.getElem?_set_self (by simp; omega), ea]
      · rw [ea]; exact l.wr w wr hs
      · intro i h1 h2
        rw [rd_mk hg, List.getElem?_set_ne (by omega), List.getElem?_set_ne (by omega)]
theorem mul_sign (a b : Int) : (if (decide (a < 0) != decide (b < 0)) then -((a.natAbs * b.natAbs : Nat) : Int) else ((a.natAbs * b.natAbs : Nat) : Int)) = a * b := by
  have e : ((a.natAbs * b.natAbs : Nat) : Int) = (a.natAbs : Int) * (b.natAbs : Int) := Int.natCast_mul _ _
  rw [e]
  by_cases ha : a < 0 <;> by_cases hb : b < 0
  · have e1 : (a.natAbs : Int) = -a := by omega
    have e2 : (b.natAbs : Int) = -b := by omega
    rw [e1, e2, Int.neg_mul_neg]; simp [ha, hb]
  · have e1 : (a.natAbs : Int) = -a := by omega
    have e2 : (b.natAbs : Int) = b := by omega
    rw [e1, e2, Int.neg_mul, Int.neg_neg]; simp [ha, hb]
  · have e1 : (a.natAbs : Int) = a := by omega
    have e2 : (b.natAbs : Int) = -b := by omega
    rw [e1, e2, Int.mul_neg, Int.neg_neg]; simp [ha, hb]
  · have e1 : (a.natAbs : Int) = a := by omega
    have e2 : (b.natAbs : Int) = b := by omega
    rw [e1, e2]; simp [ha, hb]
theorem c_MulS {h : Hp} {bx ox ba oa bb ob : Nat} {x y : Int} (xa : XAt h bx ox) (na : IntAt h ba oa x) (nb : IntAt h bb ob y) (hx : (dg x.natAbs).length ≤ 400000) (hy : (dg y.natAbs).length ≤ 400000) :
    ACalls Try.prog 108 [.pointer (some ⟨bx, ox, none⟩), .pointer (some ⟨ba, oa, none⟩), .pointer (some ⟨bb, ob, none⟩)] h fun r h' => r = .pointer (some ⟨bx, ox, none⟩) ∧ Wr (fun y => y = bx) h h' ∧ IntAt h' bx ox (x * y) := by
  refine num_Int__Mul_ok.snd hm rfl fun w => ?_
  rw [WF_eq, num_Int__Mul]
  obtain ⟨ca, a, c, ga, sa, a0, a1, la⟩ := na
  obtain ⟨cb, b, d, gb, sb, b0, b1, lb⟩ := nb
  have r0 := (rd_mk ga (i := oa)).trans a0
  have r1 := (rd_mk ga (i := oa + 1)).trans a1
  have q0 := (rd_mk gb (i := ob)).trans b0
  have q1 := (rd_mk gb (i := ob + 1)).trans b1
  simp +contextual (disch := omega) only [↓AM, ↓AV, AP, CQ, r0, r1, q0, q1]
  refine (c_mul la lb hx hy).use ?_
  rintro _ h1 w1 ⟨l, fm⟩
  have r0 := (rd_mk (fm.keep w ga (fun f => f)) (i := oa)).trans a0
  have r1 := (rd_mk (fm.keep w ga (fun f => f)) (i := oa + 1)).trans a1
  have q0 := (rd_mk (fm.keep w gb (fun f => f)) (i := ob)).trans b0
  have q1 := (rd_mk (fm.keep w gb (fun f => f)) (i := ob + 1)).trans b1
  obtain ⟨ng, hng⟩ : ∃ g, (decide (x < 0) != decide (y < 0)) = g := ⟨_, rfl⟩
  simp +contextual (disch := omega) only [↓AM, ↓AV, AP, CQ, r0, r1, q0, q1, hng]
  refine (c_setS ng (xa.keep w fm) l).use ?_
  rintro _ h2 w2 ⟨rfl, wr, n, -⟩
  simp +contextual (disch := omega) only [↓AM, ↓AV, AP, CQ]
  rw [← hng, mul_sign] at n
  exact ⟨(Wr.of (F := fun y => y = bx) w fm).trans w w1 wr fun _ _ f => f, n⟩
def sgnZ (r : Int) : Int := if r < 0 then -1 else if r = 0 then 0 else 1
theorem c_sign {h : Hp} {r : Int} (hr : -1000000 ≤ r ∧ r ≤ 1000000) : ACalls Try.prog 91 [.int .i64 r] h fun v h' => v = .int .i64 (sgnZ r) ∧ h' = h := by
  refine num_sign_ok.snd hm rfl fun w => ?_
  rw [WF_eq, num_sign]
  have e1 : intMin [.int .i64 1, .int .i64 r] = some (.int .i64 (if r < 1 then r else 1)) := by simp [intMin]
  have e2 : ∀ z, intMax [.int .i64 (-1), .int .i64 z] = some (.int .i64 (if z > -1 then z else -1)) := fun z => by simp [intMax]
  simp +contextual (disch := omega) only [↓AM, ↓AV, AP, CQ, e1, e2]
  congr 1
  have key : ∀ u : Int, (if u > -1 then u else -1) = max u (-1) := fun u => by split <;> omega
  have key2 : (if r < 1 then r else 1) = min r 1 := by split <;> omega
  rw [key, key2]
  unfold sgnZ
  split
  · omega
  · split <;> omega
def cmpN (a b : Nat) : Int := if a < b then -1 else if a = b then 0 else 1
def cmpZ (a b : Int) : Int := if a < b then -1 else if a = b then 0 else 1
theorem c_CmpAbs {h : Hp} {ba oa bb ob : Nat} {x y : Int} (na : IntAt h ba oa x) (nb : IntAt h bb ob y) (hx : (dg x.natAbs).length ≤ 1000000) (hy : (dg y.natAbs).length ≤ 1000000) :
    ACalls Try.prog 58 [.pointer (some ⟨ba, oa, none⟩), .pointer (some ⟨bb, ob, none⟩)] h fun v h' => v = .int .i64 (cmpN x.natAbs y.natAbs) ∧ h' = h := by
  refine num_Int__CmpAbs_ok.snd hm rfl fun w => ?_
  rw [WF_eq, num_Int__CmpAbs]
  obtain ⟨a, c, r1, la⟩ := na.r1
  obtain ⟨b, d, q1, lb⟩ := nb.r1
  simp +contextual (disch := omega) only [↓AM, ↓AV, AP, CQ, r1, q1]
  refine (c_cmp la lb hx hy).use ?_
  rintro _ h1 w1 ⟨⟨r, rfl, c1, c2, c3, c4⟩, e⟩
  subst e
  simp +contextual (disch := omega) only [↓AM, ↓AV, AP, CQ, r1, q1]
  refine (c_sign ⟨c3, c4⟩).use ?_
  rintro _ h2 w2 ⟨rfl, e⟩
  subst e
  simp +contextual (disch := omega) only [↓AM, ↓AV, AP, CQ]
  congr 1
  unfold sgnZ cmpN
  by_cases h1 : r < 0
  · rw [if_pos h1, if_pos (c1.1 h1)]
  · rw [if_neg h1, if_neg (fun q => h1 (c1.2 q))]
    by_cases h2 : r = 0
    · rw [if_pos h2, if_pos (c2.1 h2)]
    · rw [if_neg h2, if_neg (fun q => h2 (c2.2 q))]
theorem c_CmpS {h : Hp} {ba oa bb ob : Nat} {x y : Int} (na : IntAt h ba oa x) (nb : IntAt h bb ob y) (hx : (dg x.natAbs).length ≤ 1000000) (hy : (dg y.natAbs).length ≤ 1000000) :
    ACalls Try.prog 60 [.pointer (some ⟨ba, oa, none⟩), .pointer (some ⟨bb, ob, none⟩)] h fun v h' => v = .int .i64 (cmpZ x y) ∧ h' = h := by
  refine num_Int__Cmp_ok.snd hm rfl fun w => ?_
  rw [WF_eq, num_Int__Cmp]
  have r0 := na.r0
  have q0 := nb.r0
  by_cases h1 : x < 0 <;> by_cases h2 : y < 0
  · have e1 : decide (x < 0) = true := by simp [h1]
    have e2 : decide (y < 0) = true := by simp [h2]
    rw [e1] at r0
    rw [e2] at q0
    simp +contextual (disch := omega) only [↓AM, ↓AV, AP, CQ, r0, q0]
    refine (c_CmpAbs na nb hx hy).use ?_
    rintro _ h3 w3 ⟨rfl, e⟩
    subst e
    have eb : -1 ≤ cmpN x.natAbs y.natAbs ∧ cmpN x.natAbs y.natAbs ≤ 1 := by unfold cmpN; split <;> (try split) <;> omega
    have ew : IntKind.i64.wrap (0 - cmpN x.natAbs y.natAbs) = -cmpN x.natAbs y.natAbs := by rw [i64 (by omega)]; omega
    simp +contextual (disch := omega) only [↓AM, ↓AV, AP, CQ, ew]
    congr 1
    unfold cmpN cmpZ
    by_cases h4 : x < y
    · rw [if_pos h4, if_neg (by omega), if_neg (by omega)]
    · rw [if_neg h4]
      by_cases h5 : x = y
      · rw [if_pos h5, if_neg (by omega), if_pos (by omega)]; rfl
      · rw [if_neg h5, if_pos (by omega)]; rfl
  · have e1 : decide (x < 0) = true := by simp [h1]
    have e2 : decide (y < 0) = false := by simp [h2]
    rw [e1] at r0
    rw [e2] at q0
    simp +contextual (disch := omega) only [↓AM, ↓AV, AP, CQ, r0, q0]
    rw [cmpZ, if_pos (by omega)]
  · have e1 : decide (x < 0) = false := by simp [h1]
    have e2 : decide (y < 0) = true := by simp [h2]
    rw [e1] at r0
    rw [e2] at q0
    simp +contextual (disch := omega) only [↓AM, ↓AV, AP, CQ, r0, q0]
    rw [cmpZ, if_neg (by omega), if_neg (by omega)]
  · have e1 : decide (x < 0) = false := by simp [h1]
    have e2 : decide (y < 0) = false := by simp [h2]
    rw [e1] at r0
    rw [e2] at q0
    simp +contextual (disch := omega) only [↓AM, ↓AV, AP, CQ, r0, q0]
    refine (c_CmpAbs na nb hx hy).use ?_
    rintro _ h3 w3 ⟨rfl, e⟩
    subst e
    simp +contextual (disch := omega) only [↓AM, ↓AV, AP, CQ]
    congr 1
    unfold cmpN cmpZ
    by_cases h4 : x < y
    · rw [if_pos h4, if_pos (by omega)]
    · rw [if_neg h4, if_neg (by omega)]
      by_cases h5 : x = y
      · rw [if_pos h5, if_pos (by omega)]
      · rw [if_neg h5, if_neg (by omega)]
end Go.Proofs.Ytbfbgkhlngkifaa.Nu

/- Limbs added and taken away. Plain theorems over the abstract machine.
   Conditions: none. -/
namespace Go.Proofs.Ytbfbgkhlngkifaa.Nu
open Go Go.RowKit Go.Proofs.Ytbfbgkhlngkifaa.Am Go.Proofs.Ytbfbgkhlngkifaa.Af Go.Proofs.Ytbfbgkhlngkifaa.Md
set_option linter.unusedVariables false
set_option linter.unusedSimpArgs false
set_option linter.defProp false
set_option maxRecDepth 20000
set_option maxHeartbeats 1000000

theorem take_getN {Y : List Nat} (j : Nat) : vL B32 (Y.take (j + 1)) = vL B32 (Y.take j) + B32 ^ j * Y.getD j 0 := by
  rw [List.take_add_one, List.getD_eq_getElem?_getD]
  cases e : Y[j]? with
  | none => simp
  | some d =>
    have : j < Y.length := (List.getElem?_eq_some_iff.1 e).1
    show vL B32 (Y.take j ++ [d]) = _
    rw [vL_snoc, List.length_take, Nat.min_eq_left (by omega)]
    rfl
theorem add_val {O X Y : List Nat} {i cy p q : Nat} (he : O[i]? = some 0) (hp : X.getD i 0 = p) (hq : Y.getD i 0 = q) (hv : vL B32 O + B32 ^ i * cy = vL B32 (X.take i) + vL B32 (Y.take i)) :
    vL B32 (O.set i ((cy + p + q) % 4294967296)) + B32 ^ (i + 1) * ((cy + p + q) / 4294967296) = vL B32 (X.take (i + 1)) + vL B32 (Y.take (i + 1)) := by
  have h0 := vL_set (B := B32) (d := (cy + p + q) % 4294967296) he
  have h1 : B32 ^ i * ((cy + p + q) % 4294967296) + B32 ^ i * (B32 * ((cy + p + q) / 4294967296)) = B32 ^ i * (cy + p + q) := by rw [← Nat.mul_add]; congr 1; exact Nat.mod_add_div _ 4294967296
  rw [Nat.mul_add, Nat.mul_add] at h1
  rw [take_getN, take_getN, hp, hq, Nat.pow_succ, Nat.mul_assoc]
  omega
theorem c_add {h : Hp} {a b : Option Addr} {c d x y : Nat} (la : Lm h a (dg x).length c (dg x)) (lb : Lm h b (dg y).length d (dg y)) (hx : (dg x).length ≤ 400000) (hy : (dg y).length ≤ 400000) :
    ACalls Try.prog 121 [.slice a (dg x).length c, .slice b (dg y).length d] h fun v h' => LmV h' v (x + y) ∧ Fm No h h' := by
  refine num_addMag_ok.snd hm rfl fun w => ?_
  rw [WF_eq, num_addMag]
  have xval : vL B32 (dg x) = x := dg_val x
  have yval : vL B32 (dg y) = y := dg_val y
  generalize dg x = X at *
  generalize dg y = Y at *
  by_cases hlt : X.length < Y.length
  · simp +contextual (disch := omega) only [↓AM, ↓AV, AP, CQ, i64, hlt, rep_u3]
    refine ⟨by omega, ?_⟩
    refine WL.mk (fun k t h' => ∃ O : List Nat, h' = h.new ⟨u3 O, .own⟩ ∧ O.length = Y.length + 1 ∧ Dl B32 O ∧ ∃ i cy : Nat, i ≤ Y.length ∧ k = Y.length - i ∧ cy ≤ 1 ∧ vL B32 O + B32 ^ i * cy = vL B32 (Y.take i) + vL B32 (X.take i) ∧ (∀ j, i ≤ j → j < O.length → O[j]? = some 0) ∧
        t = [(0, some (.slice b Y.length d)), (1, some (.slice a X.length c)), (5, some (.slice (some ⟨h.size, 0, none⟩) (Y.length + 1) (Y.length + 1))), (6, some (.int .u64 (cy : Int))), (20, some (.slice b Y.length d)), (21, some (.int .i64 (Y.length : Int))), (22, some (.int .i64 (i : Int)))])
      ⟨Y.length, _, rfl, by simp, Dl.zeros _, 0, 0, by omega, rfl, by decide, by rw [vL_zeros]; simp [vL], fun j h1 h2 => by rw [List.getElem?_replicate, if_pos (by simpa using h2)], rfl⟩ ?_
    rintro k t _ ⟨O, rfl, hOl, hOd, i, cy, hi, rfl, hcy, hv, hz, rfl⟩
    have fmO : Fm No h (h.new ⟨u3 O, .own⟩) := Fm.new Fm.refl
    by_cases hin : i < Y.length
    · obtain ⟨b1, o1, s1, p, rfl, f1, hp, r1⟩ := (lb.rd.keepW w fmO nNo).nat hin
      have hpl : p < 4294967296 := lb.dl.at hp
      have hpD : Y.getD i 0 = p := by rw [List.getD_eq_getElem?_getD, hp]; rfl
      have hiO : i < O.length := by omega
      have hi1 : i < Y.length + 1 := by omega
      have he := hz i (Nat.le_refl _) hiO
      have ul : leIs (i + 1) (u3 O) = true := by rw [← leIs_p, u3_len]; omega
      have us : ∀ z : Nat, spl (u3 O) i [.int .u32 ((z % 4294967296 : Nat) : Int)] = u3 (O.set i (z % 4294967296)) := fun z => spl_u3 hiO
      by_cases hiq : i < X.length
      · obtain ⟨b2, o2, s2, q, rfl, f2, hq, r2⟩ := (la.rd.keepW w fmO nNo).nat hiq
        have hql : q < 4294967296 := la.dl.at hq
        have hqD : X.getD i 0 = q := by rw [List.getD_eq_getElem?_getD, hq]; rfl
        simp +contextual (disch := omega) only [↓AM, ↓AV, AP, CQ, CN, i64, u64, hin, hi1, f1, r1, hiq, f2, r2, ul, us]
        refine ⟨_, ?_, _, rfl, by simp [hOl], hOd.set (Nat.mod_lt _ (by decide)), i + 1, (cy + p + q) / 4294967296, by omega, rfl, by omega, add_val he hpD hqD hv, ?_, rfl⟩
        · omega
        · intro j h1 h2
          rw [List.getElem?_set_ne (by omega)]
          exact hz j (by omega) (by simpa using h2)
      · have hqD : X.getD i 0 = 0 := by rw [List.getD_eq_getElem?_getD, List.getElem?_eq_none (by omega)]; rfl
        simp +contextual (disch := omega) only [↓AM, ↓AV, AP, CQ, CN, i64, u64, hin, hi1, f1, r1, hiq, ul, us]
        have hav := add_val he hpD hqD hv
        rw [Nat.add_zero] at hav
        refine ⟨_, ?_, _, rfl, by simp [hOl], hOd.set (Nat.mod_lt _ (by decide)), i + 1, (cy + p) / 4294967296, by omega, rfl, by omega, hav, ?_, rfl⟩
        · omega
        · intro j h1 h2
          rw [List.getElem?_set_ne (by omega)]
          exact hz j (by omega) (by simpa using h2)
    · have hiX : i = Y.length := by omega
      subst hiX
      have hiO : Y.length < O.length := by omega
      have hi1 : Y.length < Y.length + 1 := by omega
      have he := hz _ (Nat.le_refl _) hiO
      have ul : leIs (Y.length + 1) (u3 O) = true := by rw [← leIs_p, u3_len]; omega
      have us : ∀ z : Nat, spl (u3 O) Y.length [.int .u32 ((z % 4294967296 : Nat) : Int)] = u3 (O.set Y.length (z % 4294967296)) := fun z => spl_u3 hiO
      simp +contextual (disch := omega) only [↓AM, ↓AV, AP, CQ, CN, i64, u64, hin, hi1, ul, us]
      have h0 := vL_set (B := B32) (d := cy % 4294967296) he
      rw [Nat.mod_eq_of_lt (show cy < 4294967296 by omega)] at h0 ⊢
      rw [List.take_of_length_le (Nat.le_refl _), List.take_of_length_le (l := X) (by omega), xval, yval] at hv
      have lm := lm_new (h := h) (hOd.set (j := Y.length) (show cy < B32 by show cy < 4294967296; omega))
      rw [List.length_set, hOl] at lm
      refine (c_trim lm (by omega)).use ?_
      rintro _ _ w1 ⟨l, rfl⟩
      rw [show vL B32 (O.set Y.length cy) = x + y by omega] at l
      obtain ⟨oa, cc, rfl, l⟩ := l
      simp +contextual (disch := omega) only [↓AM, ↓AV, AP, CQ]
      exact ⟨⟨_, _, rfl, l⟩, Fm.new Fm.refl⟩
  · simp +contextual (disch := omega) only [↓AM, ↓AV, AP, CQ, i64, hlt, rep_u3]
    refine ⟨by omega, ?_⟩
    refine WL.mk (fun k t h' => ∃ O : List Nat, h' = h.new ⟨u3 O, .own⟩ ∧ O.length = X.length + 1 ∧ Dl B32 O ∧ ∃ i cy : Nat, i ≤ X.length ∧ k = X.length - i ∧ cy ≤ 1 ∧ vL B32 O + B32 ^ i * cy = vL B32 (X.take i) + vL B32 (Y.take i) ∧ (∀ j, i ≤ j → j < O.length → O[j]? = some 0) ∧
        t = [(0, some (.slice a X.length c)), (1, some (.slice b Y.length d)), (5, some (.slice (some ⟨h.size, 0, none⟩) (X.length + 1) (X.length + 1))), (6, some (.int .u64 (cy : Int))), (20, some (.slice a X.length c)), (21, some (.int .i64 (X.length : Int))), (22, some (.int .i64 (i : Int)))])
      ⟨X.length, _, rfl, by simp, Dl.zeros _, 0, 0, by omega, rfl, by decide, by rw [vL_zeros]; simp [vL], fun j h1 h2 => by rw [List.getElem?_replicate, if_pos (by simpa using h2)], rfl⟩ ?_
    rintro k t _ ⟨O, rfl, hOl, hOd, i, cy, hi, rfl, hcy, hv, hz, rfl⟩
    have fmO : Fm No h (h.new ⟨u3 O, .own⟩) := Fm.new Fm.refl
    by_cases hin : i < X.length
    · obtain ⟨b1, o1, s1, p, rfl, f1, hp, r1⟩ := (la.rd.keepW w fmO nNo).nat hin
      have hpl : p < 4294967296 := la.dl.at hp
      have hpD : X.getD i 0 = p := by rw [List.getD_eq_getElem?_getD, hp]; rfl
      have hiO : i < O.length := by omega
      have hi1 : i < X.length + 1 := by omega
      have he := hz i (Nat.le_refl _) hiO
      have ul : leIs (i + 1) (u3 O) = true := by rw [← leIs_p, u3_len]; omega
      have us : ∀ z : Nat, spl (u3 O) i [.int .u32 ((z % 4294967296 : Nat) : Int)] = u3 (O.set i (z % 4294967296)) := fun z => spl_u3 hiO
      by_cases hiq : i < Y.length
      · obtain ⟨b2, o2, s2, q, rfl, f2, hq, r2⟩ := (lb.rd.keepW w fmO nNo).nat hiq
        have hql : q < 4294967296 := lb.dl.at hq
        have hqD : Y.getD i 0 = q := by rw [List.getD_eq_getElem?_getD, hq]; rfl
        simp +contextual (disch := omega) only [↓AM, ↓AV, AP, CQ, CN, i64, u64, hin, hi1, f1, r1, hiq, f2, r2, ul, us]
        refine ⟨_, ?_, _, rfl, by simp [hOl], hOd.set (Nat.mod_lt _ (by decide)), i + 1, (cy + p + q) / 4294967296, by omega, rfl, by omega, add_val he hpD hqD hv, ?_, rfl⟩
        · omega
        · intro j h1 h2
          rw [List.getElem?_set_ne (by omega)]
          exact hz j (by omega) (by simpa using h2)
      · have hqD : Y.getD i 0 = 0 := by rw [List.getD_eq_getElem?_getD, List.getElem?_eq_none (by omega)]; rfl
        simp +contextual (disch := omega) only [↓AM, ↓AV, AP, CQ, CN, i64, u64, hin, hi1, f1, r1, hiq, ul, us]
        have hav := add_val he hpD hqD hv
        rw [Nat.add_zero] at hav
        refine ⟨_, ?_, _, rfl, by simp [hOl], hOd.set (Nat.mod_lt _ (by decide)), i + 1, (cy + p) / 4294967296, by omega, rfl, by omega, hav, ?_, rfl⟩
        · omega
        · intro j h1 h2
          rw [List.getElem?_set_ne (by omega)]
          exact hz j (by omega) (by simpa using h2)
    · have hiX : i = X.length := by omega
      subst hiX
      have hiO : X.length < O.length := by omega
      have hi1 : X.length < X.length + 1 := by omega
      have he := hz _ (Nat.le_refl _) hiO
      have ul : leIs (X.length + 1) (u3 O) = true := by rw [← leIs_p, u3_len]; omega
      have us : ∀ z : Nat, spl (u3 O) X.length [.int .u32 ((z % 4294967296 : Nat) : Int)] = u3 (O.set X.length (z % 4294967296)) := fun z => spl_u3 hiO
      simp +contextual (disch := omega) only [↓AM, ↓AV, AP, CQ, CN, i64, u64, hin, hi1, ul, us]
      have h0 := vL_set (B := B32) (d := cy % 4294967296) he
      rw [Nat.mod_eq_of_lt (show cy < 4294967296 by omega)] at h0 ⊢
      rw [List.take_of_length_le (Nat.le_refl _), List.take_of_length_le (l := Y) (by omega), xval, yval] at hv
      have lm := lm_new (h := h) (hOd.set (j := X.length) (show cy < B32 by show cy < 4294967296; omega))
      rw [List.length_set, hOl] at lm
      refine (c_trim lm (by omega)).use ?_
      rintro _ _ w1 ⟨l, rfl⟩
      rw [show vL B32 (O.set X.length cy) = x + y by omega] at l
      obtain ⟨oa, cc, rfl, l⟩ := l
      simp +contextual (disch := omega) only [↓AM, ↓AV, AP, CQ]
      exact ⟨⟨_, _, rfl, l⟩, Fm.new Fm.refl⟩
theorem sub_val {L X Y : List Nat} {i bor p q dd bo : Nat} (he : L[i]? = some 0) (hp : X.getD i 0 = p) (hq : Y.getD i 0 = q) (hdd : dd + q + bor = p + 4294967296 * bo) (hv : vL B32 L + vL B32 (Y.take i) = vL B32 (X.take i) + B32 ^ i * bor) :
    vL B32 (L.set i dd) + vL B32 (Y.take (i + 1)) = vL B32 (X.take (i + 1)) + B32 ^ (i + 1) * bo := by
  have h0 := vL_set (B := B32) (d := dd) he
  have e1 : B32 ^ i * (dd + q + bor) = B32 ^ i * (p + 4294967296 * bo) := by rw [hdd]
  rw [Nat.mul_add, Nat.mul_add, Nat.mul_add] at e1
  rw [take_getN, take_getN, hp, hq, Nat.pow_succ, Nat.mul_assoc]
  show _ + (_ + B32 ^ i * q) = _ + B32 ^ i * p + B32 ^ i * (4294967296 * bo)
  omega
theorem shr_63 {n : Nat} : (n : Int).fdiv (2 ^ min 63 IntKind.u64.bits) = ((n / 9223372036854775808 : Nat) : Int) := by
  show (n : Int).fdiv 9223372036854775808 = _
  rw [Int.fdiv_eq_ediv_of_nonneg _ (by omega)]; rfl
theorem bor_end32 {X Y : List Nat} {L : List Nat} {n bor : Nat} (hL : L.length = n) (hd : Dl B32 L) (hb : bor ≤ 1) (hv : vL B32 L + vL B32 Y = vL B32 X + B32 ^ n * bor) (hle : vL B32 Y ≤ vL B32 X) : vL B32 L = vL B32 X - vL B32 Y := by
  have h1 := vL_lt hd
  rw [hL] at h1
  rcases (show bor = 0 ∨ bor = 1 by omega) with rfl | rfl
  · omega
  · rw [Nat.mul_one] at hv; omega
theorem c_sub {h : Hp} {a b : Option Addr} {c d x y : Nat} (la : Lm h a (dg x).length c (dg x)) (lb : Lm h b (dg y).length d (dg y)) (hx : (dg x).length ≤ 400000) (hy : (dg y).length ≤ 400000) (hle : y ≤ x) :
    ACalls Try.prog 122 [.slice a (dg x).length c, .slice b (dg y).length d] h fun v h' => LmV h' v (x - y) ∧ Fm No h h' := by
  refine num_subMag_ok.snd hm rfl fun w => ?_
  rw [WF_eq, num_subMag]
  have xval : vL B32 (dg x) = x := dg_val x
  have yval : vL B32 (dg y) = y := dg_val y
  have hll : (dg y).length ≤ (dg x).length := by
    rcases Nat.lt_or_ge (dg x).length (dg y).length with h | h
    · have := len_lt b32 (dg_dl x) (dig_nz (hB := b32) y) h
      rw [dg_val, show vL B32 (dig B32 b32 y) = y from dg_val y] at this
      omega
    · exact h
  generalize dg x = X at *
  generalize dg y = Y at *
  simp +contextual (disch := omega) only [↓AM, ↓AV, AP, CQ, i64, rep_u3]
  refine ⟨by omega, ?_⟩
  refine WL.mk (fun k t h' => ∃ O : List Nat, h' = h.new ⟨u3 O, .own⟩ ∧ O.length = X.length ∧ Dl B32 O ∧ ∃ i bor : Nat, i ≤ X.length ∧ k = X.length - i ∧ bor ≤ 1 ∧ vL B32 O + vL B32 (Y.take i) = vL B32 (X.take i) + B32 ^ i * bor ∧ (∀ j, i ≤ j → j < O.length → O[j]? = some 0) ∧
      t = [(1, some (.slice b Y.length d)), (5, some (.slice (some ⟨h.size, 0, none⟩) X.length X.length)), (6, some (.int .u64 (bor : Int))), (14, some (.slice a X.length c)), (15, some (.int .i64 (X.length : Int))), (16, some (.int .i64 (i : Int)))])
    ⟨X.length, _, rfl, by simp, Dl.zeros _, 0, 0, by omega, rfl, by decide, by rw [vL_zeros]; simp [vL], fun j h1 h2 => by rw [List.getElem?_replicate, if_pos (by simpa using h2)], rfl⟩ ?_
  rintro k t _ ⟨O, rfl, hOl, hOd, i, bor, hi, rfl, hb, hv, hz, rfl⟩
  have fmO : Fm No h (h.new ⟨u3 O, .own⟩) := Fm.new Fm.refl
  by_cases hin : i < X.length
  · obtain ⟨b1, o1, s1, p, rfl, f1, hp, r1⟩ := (la.rd.keepW w fmO nNo).nat hin
    have hpl : p < 4294967296 := la.dl.at hp
    have hpD : X.getD i 0 = p := by rw [List.getD_eq_getElem?_getD, hp]; rfl
    have hiO : i < O.length := by omega
    have he := hz i (Nat.le_refl _) hiO
    have ul : leIs (i + 1) (u3 O) = true := by rw [← leIs_p, u3_len]; omega
    have us : ∀ z : Nat, spl (u3 O) i [.int .u32 ((z % 4294967296 : Nat) : Int)] = u3 (O.set i (z % 4294967296)) := fun z => spl_u3 hiO
    have key : ∀ q : Nat, q < 4294967296 → ∃ D : Nat, IntKind.u64.wrap (IntKind.u64.wrap ((p : Int) - (q : Int)) - (bor : Int)) = (D : Int) ∧ D / 9223372036854775808 ≤ 1 ∧ D % 4294967296 + q + bor = p + 4294967296 * (D / 9223372036854775808) := by
      intro q hq
      refine ⟨(IntKind.u64.wrap (IntKind.u64.wrap ((p : Int) - (q : Int)) - (bor : Int))).toNat, ?_, ?_, ?_⟩
      · rw [IntKind.wrap_u64, IntKind.wrap_u64]; omega
      · rw [IntKind.wrap_u64, IntKind.wrap_u64]; omega
      · rw [IntKind.wrap_u64, IntKind.wrap_u64]; omega
    have fin : ∀ q D : Nat, Y.getD i 0 = q → D / 9223372036854775808 ≤ 1 → D % 4294967296 + q + bor = p + 4294967296 * (D / 9223372036854775808) →
        vL B32 (O.set i (D % 4294967296)) + vL B32 (Y.take (i + 1)) = vL B32 (X.take (i + 1)) + B32 ^ (i + 1) * (D / 9223372036854775808) := fun q D h1 _ h3 => sub_val he hpD h1 h3 hv
    by_cases hiq : i < Y.length
    · obtain ⟨b2, o2, s2, q, rfl, f2, hq, r2⟩ := (lb.rd.keepW w fmO nNo).nat hiq
      have hql : q < 4294967296 := lb.dl.at hq
      have hqD : Y.getD i 0 = q := by rw [List.getD_eq_getElem?_getD, hq]; rfl
      obtain ⟨D, k1, k2, k3⟩ := key q hql
      simp +contextual (disch := omega) only [↓AM, ↓AV, AP, CQ, CN, i64, u64, hin, f1, r1, hiq, f2, r2, ul, us, k1, shr_63]
      refine ⟨_, ?_, _, rfl, by simp [hOl], hOd.set (Nat.mod_lt _ (by decide)), i + 1, D / 9223372036854775808, by omega, rfl, k2, fin q D hqD k2 k3, ?_, rfl⟩
      · omega
      · intro j h1 h2
        rw [List.getElem?_set_ne (by omega)]
        exact hz j (by omega) (by simpa using h2)
    · have hqD : Y.getD i 0 = 0 := by rw [List.getD_eq_getElem?_getD, List.getElem?_eq_none (by omega)]; rfl
      obtain ⟨D, k1, k2, k3⟩ := key 0 (by decide)
      have k1 : IntKind.u64.wrap (IntKind.u64.wrap ((p : Int) - 0) - (bor : Int)) = (D : Int) := k1
      rw [u64 (n := (p : Int) - 0) (by omega)] at k1
      simp +contextual (disch := omega) only [↓AM, ↓AV, AP, CQ, CN, i64, u64, hin, f1, r1, hiq, ul, us, k1, shr_63]
      refine ⟨_, ?_, _, rfl, by simp [hOl], hOd.set (Nat.mod_lt _ (by decide)), i + 1, D / 9223372036854775808, by omega, rfl, k2, fin 0 D hqD k2 k3, ?_, rfl⟩
      · omega
      · intro j h1 h2
        rw [List.getElem?_set_ne (by omega)]
        exact hz j (by omega) (by simpa using h2)
  · have hiX : i = X.length := by omega
    subst hiX
    simp +contextual (disch := omega) only [↓AM, ↓AV, AP, CQ, CN, i64, hin]
    rw [List.take_of_length_le (Nat.le_refl X.length), List.take_of_length_le (l := Y) (by omega)] at hv
    have hval := bor_end32 hOl hOd hb hv (by omega)
    rw [xval, yval] at hval
    have lm := lm_new (h := h) hOd
    rw [hOl] at lm
    refine (c_trim lm (by omega)).use ?_
    rintro _ _ w1 ⟨l, rfl⟩
    rw [hval] at l
    obtain ⟨oa, cc, rfl, l⟩ := l
    simp +contextual (disch := omega) only [↓AM, ↓AV, AP, CQ]
    exact ⟨⟨_, _, rfl, l⟩, Fm.new Fm.refl⟩
end Go.Proofs.Ytbfbgkhlngkifaa.Nu

/- Whole numbers added. Plain theorems over the abstract machine.
   Conditions: none. -/
namespace Go.Proofs.Ytbfbgkhlngkifaa.Nu
open Go Go.RowKit Go.Proofs.Ytbfbgkhlngkifaa.Am Go.Proofs.Ytbfbgkhlngkifaa.Af Go.Proofs.Ytbfbgkhlngkifaa.Md
set_option linter.unusedVariables false
set_option linter.unusedSimpArgs false
set_option linter.defProp false
set_option maxRecDepth 20000
set_option maxHeartbeats 1000000

/-- A sign and a size at a place: the sign of nothing is open. -/
def SgnAt (h : Hp) (b o : Nat) (neg : Bool) (x : Nat) : Prop := ∃ cs oa c, h.get b = some ⟨cs, .own⟩ ∧ St cs ∧ cs[o]? = some (.bool neg) ∧ cs[o + 1]? = some (.slice oa (dg x).length c) ∧ Lm h oa (dg x).length c (dg x)
def valS (neg : Bool) (x : Nat) : Int := if neg then -(x : Int) else x
theorem IntAt.sgn {h : Hp} {b o : Nat} {z : Int} (n : IntAt h b o z) : SgnAt h b o (decide (z < 0)) z.natAbs := n
theorem valS_int (z : Int) : valS (decide (z < 0)) z.natAbs = z := by
  unfold valS
  by_cases h : z < 0
  · simp [h]; omega
  · simp [h]; omega
theorem c_AddS {h : Hp} {bx ox ba oa bb ob x y : Nat} {n1 n2 : Bool} (xa : XAt h bx ox) (na : SgnAt h ba oa n1 x) (nb : SgnAt h bb ob n2 y) (hx : (dg x).length ≤ 400000) (hy : (dg y).length ≤ 400000) :
    ACalls Try.prog 100 [.pointer (some ⟨bx, ox, none⟩), .pointer (some ⟨ba, oa, none⟩), .pointer (some ⟨bb, ob, none⟩)] h fun r h' => r = .pointer (some ⟨bx, ox, none⟩) ∧ Wr (fun y => y = bx) h h' ∧ IntAt h' bx ox (valS n1 x + valS n2 y) := by
  refine num_Int__Add_ok.snd hm rfl fun w => ?_
  rw [WF_eq, num_Int__Add]
  obtain ⟨ca, a, c, ga, sa, a0, a1, la⟩ := na
  obtain ⟨cb, b, d, gb, sb, b0, b1, lb⟩ := nb
  have rds : ∀ g : Hp, Fm No h g → (g.rd ba oa = some (.bool n1) ∧ g.rd ba (oa + 1) = some (.slice a (dg x).length c)) ∧ (g.rd bb ob = some (.bool n2) ∧ g.rd bb (ob + 1) = some (.slice b (dg y).length d)) := fun g fg =>
    ⟨⟨(rd_mk (fg.keep w ga (fun f => f)) (i := oa)).trans a0, (rd_mk (fg.keep w ga (fun f => f)) (i := oa + 1)).trans a1⟩, (rd_mk (fg.keep w gb (fun f => f)) (i := ob)).trans b0, (rd_mk (fg.keep w gb (fun f => f)) (i := ob + 1)).trans b1⟩
  have e_t : (true == true) = true := rfl
  have e_f : (false == false) = true := rfl
  have e_tf : (true == false) = false := rfl
  have e_ft : (false == true) = false := rfl
  have fin : ∀ (g : Hp) (ng : Bool) (v : Value) (s : Nat), Wf g → Fm No h g → LmV g v s → valS ng s = valS n1 x + valS n2 y → ACalls Try.prog 115 [.pointer (some ⟨bx, ox, none⟩), .bool ng, v] g fun r h' => r = .pointer (some ⟨bx, ox, none⟩) ∧ Wr (fun y => y = bx) h h' ∧ IntAt h' bx ox (valS n1 x + valS n2 y) := by
    intro g ng v s wg fg l e
    refine (c_setS ng (xa.keep w fg) l).mono ?_
    rintro r h' ⟨h1, h2, h3, -⟩
    refine ⟨h1, (Wr.of (F := fun y => y = bx) w fg).trans w wg h2 fun _ _ f => f, ?_⟩
    rw [← e]; exact h3
  obtain ⟨⟨r0, r1⟩, q0, q1⟩ := rds h Fm.refl
  cases n1 <;> cases n2
  · simp +contextual (disch := omega) only [↓AM, ↓AV, AP, CQ, r0, r1, q0, q1, e_t, e_f, e_tf, e_ft]
    refine (c_add la lb hx hy).use ?_
    rintro _ h1 w1 ⟨l, fm⟩
    obtain ⟨⟨r0, r1⟩, q0, q1⟩ := rds h1 fm
    simp +contextual (disch := omega) only [↓AM, ↓AV, AP, CQ, r0, r1, q0, q1, e_t, e_f, e_tf, e_ft]
    refine (fin h1 false _ _ w1 fm l (by simp [valS] <;> omega)).use ?_
    rintro _ h2 w2 ⟨rfl, p2, p3⟩
    simp +contextual (disch := omega) only [↓AM, ↓AV, AP, CQ, r0, r1, q0, q1, e_t, e_f, e_tf, e_ft]
    exact ⟨p2, p3⟩
  · simp +contextual (disch := omega) only [↓AM, ↓AV, AP, CQ, r0, r1, q0, q1, e_t, e_f, e_tf, e_ft]
    refine (c_cmp la lb (by omega) (by omega)).use ?_
    rintro _ hA wA ⟨⟨r, rfl, k1, k2, k3, k4⟩, e⟩
    subst e
    by_cases hle : y ≤ x
    · have hr : 0 ≤ r := by
        refine Classical.byContradiction fun hn => ?_
        have := k1.1 (by omega)
        omega
      simp +contextual (disch := omega) only [↓AM, ↓AV, AP, CQ, r0, r1, q0, q1, e_t, e_f, e_tf, e_ft, hr]
      refine (c_sub la lb hx hy hle).use ?_
      rintro _ h1 w1 ⟨l, fm⟩
      obtain ⟨⟨r0, r1⟩, q0, q1⟩ := rds h1 fm
      simp +contextual (disch := omega) only [↓AM, ↓AV, AP, CQ, r0, r1, q0, q1, e_t, e_f, e_tf, e_ft]
      refine (fin h1 false _ _ w1 fm l (by simp [valS] <;> omega)).use ?_
      rintro _ h2 w2 ⟨rfl, p2, p3⟩
      simp +contextual (disch := omega) only [↓AM, ↓AV, AP, CQ, r0, r1, q0, q1, e_t, e_f, e_tf, e_ft]
      exact ⟨p2, p3⟩
    · have hr : ¬ 0 ≤ r := fun q => by
        have := k1.2 (by omega)
        omega
      simp +contextual (disch := omega) only [↓AM, ↓AV, AP, CQ, r0, r1, q0, q1, e_t, e_f, e_tf, e_ft, hr]
      refine (c_sub lb la hy hx (by omega)).use ?_
      rintro _ h1 w1 ⟨l, fm⟩
      obtain ⟨⟨r0, r1⟩, q0, q1⟩ := rds h1 fm
      simp +contextual (disch := omega) only [↓AM, ↓AV, AP, CQ, r0, r1, q0, q1, e_t, e_f, e_tf, e_ft]
      refine (fin h1 true _ _ w1 fm l (by simp [valS] <;> omega)).use ?_
      rintro _ h2 w2 ⟨rfl, p2, p3⟩
      simp +contextual (disch := omega) only [↓AM, ↓AV, AP, CQ, r0, r1, q0, q1, e_t, e_f, e_tf, e_ft]
      exact ⟨p2, p3⟩
  · simp +contextual (disch := omega) only [↓AM, ↓AV, AP, CQ, r0, r1, q0, q1, e_t, e_f, e_tf, e_ft]
    refine (c_cmp la lb (by omega) (by omega)).use ?_
    rintro _ hA wA ⟨⟨r, rfl, k1, k2, k3, k4⟩, e⟩
    subst e
    by_cases hle : y ≤ x
    · have hr : 0 ≤ r := by
        refine Classical.byContradiction fun hn => ?_
        have := k1.1 (by omega)
        omega
      simp +contextual (disch := omega) only [↓AM, ↓AV, AP, CQ, r0, r1, q0, q1, e_t, e_f, e_tf, e_ft, hr]
      refine (c_sub la lb hx hy hle).use ?_
      rintro _ h1 w1 ⟨l, fm⟩
      obtain ⟨⟨r0, r1⟩, q0, q1⟩ := rds h1 fm
      simp +contextual (disch := omega) only [↓AM, ↓AV, AP, CQ, r0, r1, q0, q1, e_t, e_f, e_tf, e_ft]
      refine (fin h1 true _ _ w1 fm l (by simp [valS] <;> omega)).use ?_
      rintro _ h2 w2 ⟨rfl, p2, p3⟩
      simp +contextual (disch := omega) only [↓AM, ↓AV, AP, CQ, r0, r1, q0, q1, e_t, e_f, e_tf, e_ft]
      exact ⟨p2, p3⟩
    · have hr : ¬ 0 ≤ r := fun q => by
        have := k1.2 (by omega)
        omega
      simp +contextual (disch := omega) only [↓AM, ↓AV, AP, CQ, r0, r1, q0, q1, e_t, e_f, e_tf, e_ft, hr]
      refine (c_sub lb la hy hx (by omega)).use ?_
      rintro _ h1 w1 ⟨l, fm⟩
      obtain ⟨⟨r0, r1⟩, q0, q1⟩ := rds h1 fm
      simp +contextual (disch := omega) only [↓AM, ↓AV, AP, CQ, r0, r1, q0, q1, e_t, e_f, e_tf, e_ft]
      refine (fin h1 false _ _ w1 fm l (by simp [valS] <;> omega)).use ?_
      rintro _ h2 w2 ⟨rfl, p2, p3⟩
      simp +contextual (disch := omega) only [↓AM, ↓AV, AP, CQ, r0, r1, q0, q1, e_t, e_f, e_tf, e_ft]
      exact ⟨p2, p3⟩
  · simp +contextual (disch := omega) only [↓AM, ↓AV, AP, CQ, r0, r1, q0, q1, e_t, e_f, e_tf, e_ft]
    refine (c_add la lb hx hy).use ?_
    rintro _ h1 w1 ⟨l, fm⟩
    obtain ⟨⟨r0, r1⟩, q0, q1⟩ := rds h1 fm
    simp +contextual (disch := omega) only [↓AM, ↓AV, AP, CQ, r0, r1, q0, q1, e_t, e_f, e_tf, e_ft]
    refine (fin h1 true _ _ w1 fm l (by simp [valS] <;> omega)).use ?_
    rintro _ h2 w2 ⟨rfl, p2, p3⟩
    simp +contextual (disch := omega) only [↓AM, ↓AV, AP, CQ, r0, r1, q0, q1, e_t, e_f, e_tf, e_ft]
    exact ⟨p2, p3⟩
theorem SgnAt.keep {h h' : Hp} {b o x : Nat} {n : Bool} (s : SgnAt h b o n x) (w : Wf h) (fm : Fm No h h') : SgnAt h' b o n x := by
  obtain ⟨cs, oa, c, h1, h2, h3, h4, h5⟩ := s
  exact ⟨cs, oa, c, fm.keep w h1 (fun f => f), h2, h3, h4, h5.rd.keepW w fm nNo, h5.le, h5.dl⟩
theorem c_SubS {h : Hp} {bx ox ba oa bb ob : Nat} {x y : Int} (xa : XAt h bx ox) (na : IntAt h ba oa x) (nb : IntAt h bb ob y) (hx : (dg x.natAbs).length ≤ 400000) (hy : (dg y.natAbs).length ≤ 400000) :
    ACalls Try.prog 99 [.pointer (some ⟨bx, ox, none⟩), .pointer (some ⟨ba, oa, none⟩), .pointer (some ⟨bb, ob, none⟩)] h fun r h' => r = .pointer (some ⟨bx, ox, none⟩) ∧ Wr (fun y => y = bx) h h' ∧ IntAt h' bx ox (x - y) := by
  refine num_Int__Sub_ok.snd hm rfl fun w => ?_
  rw [WF_eq, num_Int__Sub]
  have q0 := nb.r0
  obtain ⟨b, d, q1, lb⟩ := nb.r1
  obtain ⟨ng, hng⟩ : ∃ g, decide (¬ y < 0) = g := ⟨_, rfl⟩
  obtain ⟨hA, hhA⟩ : ∃ g, h.new ⟨[.bool ng, .slice b (dg y.natAbs).length d], .own⟩ = g := ⟨_, rfl⟩
  have wA : Wf hA := hhA ▸ w.new
  have fmA : Fm No h hA := hhA ▸ Fm.new Fm.refl
  have gA : hA.get h.size = some ⟨[.bool ng, .slice b (dg y.natAbs).length d], .own⟩ := hhA ▸ gnew
  have sb : SgnAt hA h.size 0 ng y.natAbs := ⟨_, b, d, gA, st2, rfl, rfl, lb.rd.keepW w fmA nNo, lb.le, lb.dl⟩
  have r0 : hA.rd bb ob = some (.bool (decide (y < 0))) := (nb.keep w fmA).r0
  simp +contextual (disch := omega) only [↓AM, ↓AV, AP, CQ, q0, q1, hng, hhA]
  refine (c_AddS (xa.keep w fmA) (na.sgn.keep w fmA) sb hx hy).use ?_
  rintro _ h2 w2 ⟨rfl, p2, p3⟩
  simp +contextual (disch := omega) only [↓AM, ↓AV, AP, CQ]
  have e : valS (decide (x < 0)) x.natAbs + valS ng y.natAbs = x - y := by
    rw [valS_int, ← hng]
    unfold valS
    by_cases h : y < 0
    · simp [h]; omega
    · simp [h]; omega
  rw [e] at p3
  exact ⟨(Wr.of (F := fun y => y = bx) w fmA).trans w wA p2 fun _ _ f => f, p3⟩
theorem c_setIS {h : Hp} {b o : Nat} {z : Int} (xa : XAt h b o) (hz : -9223372036854775808 ≤ z ∧ z ≤ 9223372036854775807) :
    ACalls Try.prog 90 [.pointer (some ⟨b, o, none⟩), .int .i64 z] h fun r h' => r = .pointer (some ⟨b, o, none⟩) ∧ Wr (fun y => y = b) h h' ∧ IntAt h' b o z := by
  by_cases h0 : z < 0
  · refine num_Int__SetInt64_ok.snd hm rfl fun w => ?_
    rw [WF_eq, num_Int__SetInt64]
    have e1 : IntKind.u64.wrap z = z + 18446744073709551616 := by rw [IntKind.wrap_u64]; omega
    obtain ⟨n, hn⟩ : ∃ n : Nat, -z = (n : Int) := ⟨z.natAbs, by omega⟩
    have e2 : IntKind.u64.wrap (0 - (z + 18446744073709551616)) = (n : Int) := by rw [IntKind.wrap_u64]; omega
    simp +contextual (disch := omega) only [↓AM, ↓AV, AP, CQ, h0, e1, e2]
    refine (c_magOf (v := n) (by omega)).use ?_
    rintro _ h1 w1 ⟨l, fm⟩
    simp +contextual (disch := omega) only [↓AM, ↓AV, AP, CQ]
    refine (c_setS true (xa.keep w fm) l).use ?_
    rintro _ h2 w2 ⟨rfl, wr, nn, -⟩
    simp +contextual (disch := omega) only [↓AM, ↓AV, AP, CQ]
    rw [if_pos rfl, show -(n : Int) = z by omega] at nn
    exact ⟨(Wr.of (F := fun y => y = b) w fm).trans w w1 wr fun _ _ f => f, nn⟩
  · obtain ⟨n, rfl⟩ : ∃ n : Nat, z = (n : Int) := ⟨z.natAbs, by omega⟩
    refine (c_setI xa hz.2).mono ?_
    rintro r h' ⟨h1, h2, h3⟩
    exact ⟨h1, h2, h3.int⟩
theorem c_newIS {h : Hp} {z : Int} (hz : -9223372036854775808 ≤ z ∧ z ≤ 9223372036854775807) :
    ACalls Try.prog 56 [.int .i64 z] h fun r h' => ∃ b, r = .pointer (some ⟨b, 0, none⟩) ∧ h.size ≤ b ∧ IntAt h' b 0 z ∧ Fm No h h' := by
  refine num_NewInt_ok.snd hm rfl fun w => ?_
  rw [WF_eq, num_NewInt]
  simp +contextual (disch := omega) only [↓AM, ↓AV, AP, CQ]
  refine (c_setIS (x_new (by decide)) hz).use ?_
  rintro _ h2 w2 ⟨rfl, wr, n⟩
  simp +contextual (disch := omega) only [↓AM, ↓AV, AP, CQ]
  exact ⟨_, rfl, Nat.le_refl _, n, wr_new w wr⟩
end Go.Proofs.Ytbfbgkhlngkifaa.Nu
