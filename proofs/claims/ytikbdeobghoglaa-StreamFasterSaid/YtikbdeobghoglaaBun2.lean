/- The functions of the program in the abstract machine's words, printed by a program of ours; each is the program's by the kernel's reckoning.
   Conditions: none. -/
import Derived.Test.YtikbdeobghoglaaAmZ
import Derived.Test.YtikbdeobghoglaaProg
namespace Go.Proofs.Ytikbdeobghoglaa.Af
open Go Go.RowKit Go.Proofs.Ytikbdeobghoglaa.Am
theorem hm : Try.prog.follows .mixedOrders = true := by kernel_rfl
/-- diorama/dioramalaw27.live -/
def dioramalaw27_live : AF := ⟨67, [.tmp 2],
 .seq (
  .ops [D 2 (.mv (.const (.bool false)))]) (
 .trim [0] (
  .seq (
   .ops [D 3 (.mv (I 0))]) (
  .block 0 (
   .loop [0, 3] (
    .seq (
     .seq (
      .ops [D 5 (.mv (T 3)),
       D 6 (.mv (T 0)),
       D 7 (.len (T 6)),
       D 8 (.bin .lss (T 5) (T 7))]) (
     .cond (T 8) (
      .skip) (
      .exit 0))) (
    .trim [0, 3] (
     .block 1 (
      .seq (
       .ops [D 11 (.mv (T 0)),
        D 12 (.mv (T 3)),
        D 13 (.ia 7 (T 11) (T 12)),
        D 14 (.ldN 7 (T 13)),
        D 4 (.alloc [(.int .i64 0), (.int .i64 0), (.int .i64 0), (.int .i64 0), (.int .i64 0), (.slice none 0 0), (.bool false)]),
        E (.st 7 (T 4) (T 14))]) (
      .trim [0, 3, 4] (
       .trim [0, 3, 4, 33] (
        .ops [D 15 (.fa 0 (T 4)),
         D 16 (.ld1 (T 15)),
         D 17 (.mv (T 3)),
         D 18 (.bin .add (T 17) (I 1)),
         D 19 (.bin .neq (T 16) (T 18)),
         D 20 (.mv (T 19)),
         ⟨(some 21), some (20, false), .fa 1 (T 4)⟩,
         ⟨(some 22), some (20, false), .fa 0 (T 21)⟩,
         ⟨(some 23), some (20, false), .ldN 2 (T 22)⟩,
         ⟨(some 24), some (20, false), .call 28 [(T 23)]⟩,
         ⟨(some 25), some (20, false), .un .not (T 24)⟩,
         D 26 (.pick (T 20) (.const (.bool true)) (T 25)),
         D 27 (.mv (T 26)),
         ⟨(some 28), some (27, false), .fa 1 (T 4)⟩,
         ⟨(some 29), some (27, false), .fa 2 (T 28)⟩,
         ⟨(some 30), some (27, false), .ldN 2 (T 29)⟩,
         ⟨(some 31), some (27, false), .call 28 [(T 30)]⟩,
         ⟨(some 32), some (27, false), .un .not (T 31)⟩,
         D 33 (.pick (T 27) (.const (.bool true)) (T 32))]) (
       .cond (T 33) (
        .seq (
         .ops [D 2 (.mv (.const (.bool false)))]) (
        .ret)) (
        .skip))) (
      .trim [0, 3, 63] (
       .draw [⟨0, 0, 0, D 34 (.fa 1 (T 4))⟩,
        ⟨1, 0, 1, D 35 (.fa 0 (T 34))⟩,
        ⟨2, 1, 3, D 36 (.ldN 2 (T 35))⟩,
        ⟨4, 0, 0, D 38 (.fa 1 (T 4))⟩,
        ⟨5, 0, 16, D 39 (.fa 2 (T 38))⟩,
        ⟨6, 1, 48, D 40 (.ldN 2 (T 39))⟩,
        ⟨3, 4, 7, D 37 (.call 21 [(T 36)])⟩,
        ⟨7, 4, 127, D 41 (.call 21 [(T 40)])⟩,
        ⟨8, 4, 255, D 42 (.call 20 [(T 37), (T 41)])⟩,
        ⟨9, 0, 511, D 43 (.bin .gtr (T 42) (I 0))⟩,
        ⟨10, 0, 1023, D 44 (.mv (T 43))⟩,
        ⟨11, 0, 2047, ⟨(some 45), some (44, false), .mv (T 3)⟩⟩,
        ⟨12, 0, 4095, ⟨(some 46), some (44, false), .bin .gtr (T 45) (I 0)⟩⟩,
        ⟨13, 0, 8191, ⟨(some 47), some (44, false), .mv (T 46)⟩⟩,
        ⟨14, 0, 16383, ⟨(some 48), some (47, true), .mv (T 0)⟩⟩,
        ⟨15, 0, 16383, ⟨(some 49), some (47, true), .mv (T 3)⟩⟩,
        ⟨16, 0, 49151, ⟨(some 50), some (47, true), .bin .sub (T 49) (I 1)⟩⟩,
        ⟨17, 0, 131071, ⟨(some 51), some (47, true), .ia 7 (T 48) (T 50)⟩⟩,
        ⟨18, 0, 262143, ⟨(some 52), some (47, true), .fa 1 (T 51)⟩⟩,
        ⟨19, 0, 524287, ⟨(some 53), some (47, true), .fa 2 (T 52)⟩⟩,
        ⟨20, 1, 1048575, ⟨(some 54), some (47, true), .ldN 2 (T 53)⟩⟩,
        ⟨22, 0, 16383, ⟨(some 56), some (47, true), .fa 1 (T 4)⟩⟩,
        ⟨23, 0, 4210687, ⟨(some 57), some (47, true), .fa 2 (T 56)⟩⟩,
        ⟨24, 1, 12599295, ⟨(some 58), some (47, true), .ldN 2 (T 57)⟩⟩,
        ⟨21, 4, 2097151, ⟨(some 55), some (47, true), .call 21 [(T 54)]⟩⟩,
        ⟨25, 4, 33554431, ⟨(some 59), some (47, true), .call 21 [(T 58)]⟩⟩,
        ⟨26, 4, 67108863, ⟨(some 60), some (47, true), .call 20 [(T 55), (T 59)]⟩⟩,
        ⟨27, 0, 134217727, ⟨(some 61), some (47, true), .bin .gtr (T 60) (I 0)⟩⟩,
        ⟨28, 0, 268435455, ⟨(some 62), some (44, false), .pick (T 47) (T 61) (.const (.bool false))⟩⟩,
        ⟨29, 0, 536870911, D 63 (.pick (T 44) (.const (.bool true)) (T 62))⟩]) (
      .cond (T 63) (
       .seq (
        .ops [D 2 (.mv (.const (.bool false)))]) (
       .ret)) (
       .skip)))))) (
    .ops [D 9 (.mv (T 3)),
     D 10 (.bin .add (T 9) (I 1)),
     D 3 (.mv (T 10))])))))) (
 .seq (
  .ops [D 64 (.mv (T 0)),
   D 65 (.len (T 64)),
   D 66 (.bin .leq (T 65) (I 70)),
   D 2 (.mv (T 66))]) (
 .ret)))⟩
theorem dioramalaw27_live_ok : Ok Try.prog 9 dioramalaw27_live := ⟨by kernel_rfl, by kernel_rfl⟩

/-- diorama/dioramalaw27.awake -/
def dioramalaw27_awake : AF := ⟨19, [.tmp 0],
 .seq (
  .ops [D 0 (.mv (.const (.bool false)))]) (
 .trim [1, 2] (
  .ops [D 4 (.build [(.int .i64 0), (.int .i64 0)] [(0, 1, (I 10)), (1, 1, (I 1))]),
   D 5 (.build [(.int .i64 0), (.int .i64 0)] [(0, 1, (I 1)), (1, 1, (I 10))]),
   D 6 (.build [(.int .i64 0), (.int .i64 0), (.int .i64 0), (.int .i64 0), (.int .i64 0)] [(0, 1, (I 500)), (1, 2, (T 4)), (3, 2, (T 5))]),
   D 7 (.bslice [(.int .i64 0), (.int .i64 0), (.int .i64 0), (.int .i64 0), (.int .i64 0)] 1 [(0, 5, (T 6))]),
   D 8 (.build [(.int .i64 0), (.int .i64 0)] [(0, 1, (I 0)), (1, 1, (I 1))]),
   D 9 (.call 18 [(T 7), (T 8), (I 1000)]),
   D 3 (.mv (T 9)),
   D 10 (.ext (T 3) 0),
   D 11 (.ext (T 3) 1),
   D 1 (.alloc [(.int .i64 0), (.int .i64 0)]),
   E (.st 2 (T 1) (T 10)),
   D 2 (.mv (T 11))]) (
 .trim [0] (
  .ops [D 12 (.mv (T 2)),
   D 13 (.bin .eql (T 12) (I 0)),
   D 14 (.mv (T 13)),
   ⟨(some 15), some (14, true), .ldN 2 (T 1)⟩,
   ⟨(some 16), some (14, true), .build [(.int .i64 0), (.int .i64 0)] [(0, 1, (I 21)), (1, 1, (I 10))]⟩,
   ⟨(some 17), some (14, true), .eqa false [1, 1] (T 15) (T 16)⟩,
   D 18 (.pick (T 14) (T 17) (.const (.bool false))),
   D 0 (.mv (T 18))]) (
 .ret)))⟩
theorem dioramalaw27_awake_ok : Ok Try.prog 10 dioramalaw27_awake := ⟨by kernel_rfl, by kernel_rfl⟩

/-- diorama/dioramaref00.EqInts -/
def dioramaref00_EqInts : AF := ⟨26, [.tmp 4],
 .seq (
  .ops [D 4 (.mv (.const (.bool false)))]) (
 .trim [0, 1] (
  .seq (
   .ops [D 6 (.mv (T 0)),
    D 7 (.len (T 6)),
    D 8 (.mv (T 1)),
    D 9 (.len (T 8)),
    D 10 (.bin .neq (T 7) (T 9))]) (
  .cond (T 10) (
   .seq (
    .ops [D 4 (.mv (.const (.bool false)))]) (
   .ret)) (
   .skip))) (
 .trim [] (
  .seq (
   .ops [D 5 (.mv (I 0))]) (
  .block 0 (
   .loop [0, 1, 5] (
    .seq (
     .seq (
      .ops [D 11 (.mv (T 5)),
       D 12 (.mv (T 0)),
       D 13 (.len (T 12)),
       D 14 (.bin .lss (T 11) (T 13))]) (
     .cond (T 14) (
      .skip) (
      .exit 0))) (
    .trim [0, 1, 5] (
     .block 1 (
      .trim [0, 1, 5, 25] (
       .draw [⟨0, 0, 0, D 17 (.mv (T 0))⟩,
        ⟨1, 0, 0, D 18 (.mv (T 5))⟩,
        ⟨2, 0, 3, D 19 (.ia 1 (T 17) (T 18))⟩,
        ⟨3, 1, 7, D 20 (.ld1 (T 19))⟩,
        ⟨4, 0, 0, D 21 (.mv (T 1))⟩,
        ⟨5, 0, 0, D 22 (.mv (T 5))⟩,
        ⟨6, 0, 48, D 23 (.ia 1 (T 21) (T 22))⟩,
        ⟨7, 1, 112, D 24 (.ld1 (T 23))⟩,
        ⟨8, 0, 255, D 25 (.bin .neq (T 20) (T 24))⟩]) (
      .cond (T 25) (
       .seq (
        .ops [D 4 (.mv (.const (.bool false)))]) (
       .ret)) (
       .skip)))) (
    .ops [D 15 (.mv (T 5)),
     D 16 (.bin .add (T 15) (I 1)),
     D 5 (.mv (T 16))])))))) (
 .seq (
  .ops [D 4 (.mv (.const (.bool true)))]) (
 .ret))))⟩
theorem dioramaref00_EqInts_ok : Ok Try.prog 17 dioramaref00_EqInts := ⟨by kernel_rfl, by kernel_rfl⟩

/-- diorama/stream.Transfer -/
def stream_Transfer : AF := ⟨40, [.cellN 2 6, .tmp 7],
 .seq (
  .ops [D 4 (.box (T 1)),
   D 6 (.alloc [(.int .i64 0), (.int .i64 0)]),
   D 7 (.mv (I 0))]) (
 .trim [0, 2, 4, 6] (
  .seq (
   .ops [D 13 (.mv (T 0)),
    D 14 (.ldN 2 (T 4)),
    D 15 (.mv (T 2)),
    D 16 (.call 37 [(T 13), (T 14), (T 15)]),
    D 8 (.mv (T 16))]) (
  .seq (
   .ops [D 17 (.mv (T 8)),
    D 18 (.bin .neq (T 17) (I 0))]) (
  .cond (T 18) (
   .seq (
    .ops [D 19 (.build [(.int .i64 0), (.int .i64 0)] []),
     D 20 (.mv (T 8)),
     E (.st 2 (T 6) (T 19)),
     D 7 (.mv (T 20))]) (
   .ret)) (
   .skip)))) (
 .trim [0, 2, 6, 9] (
  .ops [D 22 (.ldN 2 (T 4)),
   D 23 (.call 38 [(T 22)]),
   D 21 (.mv (T 23)),
   D 24 (.ext (T 21) 0),
   D 25 (.ext (T 21) 1),
   D 9 (.mv (T 24)),
   D 10 (.mv (T 25))]) (
 .trim [6, 11, 12] (
  .ops [D 27 (.mv (T 0)),
   D 28 (.mv (T 9)),
   D 29 (.mv (T 2)),
   D 30 (.call 39 [(T 27), (T 28), (T 29)]),
   D 26 (.mv (T 30)),
   D 31 (.ext (T 26) 0),
   D 32 (.ext (T 26) 1),
   D 11 (.mv (T 31)),
   D 12 (.mv (T 32))]) (
 .seq (
  .seq (
   .ops [D 33 (.mv (T 12)),
    D 34 (.un .not (T 33))]) (
  .cond (T 34) (
   .seq (
    .ops [D 35 (.build [(.int .i64 0), (.int .i64 0)] []),
     E (.st 2 (T 6) (T 35)),
     D 7 (.mv (I 271))]) (
   .ret)) (
   .skip))) (
 .seq (
  .ops [D 36 (.mv (T 11)),
   D 37 (.call 40 [(T 36)]),
   D 38 (.ext (T 37) 0),
   D 39 (.ext (T 37) 1),
   E (.st 2 (T 6) (T 38)),
   D 7 (.mv (T 39))]) (
 .ret))))))⟩
theorem stream_Transfer_ok : Ok Try.prog 18 stream_Transfer := ⟨by kernel_rfl, by kernel_rfl⟩

/-- diorama/dioramaref00.CmpF -/
def dioramaref00_CmpF : AF := ⟨16, [.tmp 4],
 .seq (
  .ops [D 2 (.box (T 0)),
   D 3 (.box (T 1)),
   D 4 (.mv (I 0))]) (
 .trim [4] (
  .draw [⟨0, 0, 0, D 5 (.fa 0 (T 2))⟩,
   ⟨1, 1, 1, D 6 (.ldN 2 (T 5))⟩,
   ⟨2, 0, 0, D 7 (.fa 2 (T 3))⟩,
   ⟨3, 1, 4, D 8 (.ldN 2 (T 7))⟩,
   ⟨5, 0, 0, D 10 (.fa 0 (T 3))⟩,
   ⟨6, 1, 32, D 11 (.ldN 2 (T 10))⟩,
   ⟨7, 0, 0, D 12 (.fa 2 (T 2))⟩,
   ⟨8, 1, 128, D 13 (.ldN 2 (T 12))⟩,
   ⟨4, 4, 15, D 9 (.call 47 [(T 6), (T 8)])⟩,
   ⟨9, 4, 511, D 14 (.call 47 [(T 11), (T 13)])⟩,
   ⟨10, 4, 1023, D 15 (.call 46 [(T 9), (T 14)])⟩,
   ⟨11, 0, 2047, D 4 (.mv (T 15))⟩]) (
 .ret))⟩
theorem dioramaref00_CmpF_ok : Ok Try.prog 20 dioramaref00_CmpF := ⟨by kernel_rfl, by kernel_rfl⟩

/-- diorama/dioramaref00.OfTime -/
def dioramaref00_OfTime : AF := ⟨8, [.cellN 4 2],
 .seq (
  .ops [D 1 (.box (T 0)),
   D 2 (.alloc [(.bool false), (.slice none 0 0), (.bool false), (.slice none 0 0)])]) (
 .trim [2] (
  .ops [D 3 (.fa 0 (T 1)),
   D 4 (.ld1 (T 3)),
   D 5 (.fa 1 (T 1)),
   D 6 (.ld1 (T 5)),
   D 7 (.call 48 [(T 4), (T 6)]),
   E (.st 4 (T 2) (T 7))]) (
 .ret))⟩
theorem dioramaref00_OfTime_ok : Ok Try.prog 21 dioramaref00_OfTime := ⟨by kernel_rfl, by kernel_rfl⟩

/-- diorama/dioramalaw27.rising -/
def dioramalaw27_rising : AF := ⟨34, [.tmp 2],
 .seq (
  .ops [D 2 (.mv (.const (.bool false)))]) (
 .trim [] (
  .seq (
   .ops [D 3 (.mv (I 0))]) (
  .block 0 (
   .loop [0, 3] (
    .seq (
     .seq (
      .ops [D 4 (.mv (T 3)),
       D 5 (.mv (T 0)),
       D 6 (.len (T 5)),
       D 7 (.bin .lss (T 4) (T 6))]) (
     .cond (T 7) (
      .skip) (
      .exit 0))) (
    .trim [0, 3] (
     .block 1 (
      .trim [0, 3, 33] (
       .draw [⟨0, 0, 0, D 10 (.mv (T 0))⟩,
        ⟨1, 0, 0, D 11 (.mv (T 3))⟩,
        ⟨2, 0, 3, D 12 (.ia 8 (T 10) (T 11))⟩,
        ⟨3, 0, 7, D 13 (.fa 1 (T 12))⟩,
        ⟨4, 1, 15, D 14 (.ld1 (T 13))⟩,
        ⟨5, 0, 31, D 15 (.bin .lss (T 14) (I 1))⟩,
        ⟨6, 0, 63, D 16 (.mv (T 15))⟩,
        ⟨7, 0, 127, ⟨(some 17), some (16, false), .mv (T 3)⟩⟩,
        ⟨8, 0, 255, ⟨(some 18), some (16, false), .bin .gtr (T 17) (I 0)⟩⟩,
        ⟨9, 0, 511, ⟨(some 19), some (16, false), .mv (T 18)⟩⟩,
        ⟨10, 0, 1023, ⟨(some 20), some (19, true), .mv (T 0)⟩⟩,
        ⟨11, 0, 1023, ⟨(some 21), some (19, true), .mv (T 3)⟩⟩,
        ⟨12, 0, 4095, ⟨(some 22), some (19, true), .ia 8 (T 20) (T 21)⟩⟩,
        ⟨13, 0, 8191, ⟨(some 23), some (19, true), .fa 1 (T 22)⟩⟩,
        ⟨14, 1, 16383, ⟨(some 24), some (19, true), .ld1 (T 23)⟩⟩,
        ⟨15, 0, 1023, ⟨(some 25), some (19, true), .mv (T 0)⟩⟩,
        ⟨16, 0, 1023, ⟨(some 26), some (19, true), .mv (T 3)⟩⟩,
        ⟨17, 0, 66559, ⟨(some 27), some (19, true), .bin .sub (T 26) (I 1)⟩⟩,
        ⟨18, 0, 230399, ⟨(some 28), some (19, true), .ia 8 (T 25) (T 27)⟩⟩,
        ⟨19, 0, 492543, ⟨(some 29), some (19, true), .fa 1 (T 28)⟩⟩,
        ⟨20, 1, 1016831, ⟨(some 30), some (19, true), .ld1 (T 29)⟩⟩,
        ⟨21, 0, 2097151, ⟨(some 31), some (19, true), .bin .leq (T 24) (T 30)⟩⟩,
        ⟨22, 0, 4194303, ⟨(some 32), some (16, false), .pick (T 19) (T 31) (.const (.bool false))⟩⟩,
        ⟨23, 0, 8388607, D 33 (.pick (T 16) (.const (.bool true)) (T 32))⟩]) (
      .cond (T 33) (
       .seq (
        .ops [D 2 (.mv (.const (.bool false)))]) (
       .ret)) (
       .skip)))) (
    .ops [D 8 (.mv (T 3)),
     D 9 (.bin .add (T 8) (I 1)),
     D 3 (.mv (T 9))])))))) (
 .seq (
  .ops [D 2 (.mv (.const (.bool true)))]) (
 .ret)))⟩
theorem dioramalaw27_rising_ok : Ok Try.prog 22 dioramalaw27_rising := ⟨by kernel_rfl, by kernel_rfl⟩

/-- diorama/dioramatop.before -/
def dioramatop_before : AF := ⟨19, [.tmp 4],
 .seq (
  .ops [D 2 (.box (T 0)),
   D 3 (.box (T 1)),
   D 4 (.mv (.const (.bool false)))]) (
 .trim [5, 6] (
  .ops [D 8 (.ldN 2 (T 2)),
   D 9 (.ldN 2 (T 3)),
   D 10 (.call 56 [(T 8), (T 9)]),
   D 7 (.mv (T 10)),
   D 11 (.ext (T 7) 0),
   D 12 (.ext (T 7) 1),
   D 5 (.mv (T 11)),
   D 6 (.mv (T 12))]) (
 .trim [4] (
  .ops [D 13 (.mv (T 6)),
   D 14 (.bin .eql (T 13) (I 0)),
   D 15 (.mv (T 14)),
   ⟨(some 16), some (15, true), .mv (T 5)⟩,
   ⟨(some 17), some (15, true), .bin .lss (T 16) (I 0)⟩,
   D 18 (.pick (T 15) (T 17) (.const (.bool false))),
   D 4 (.mv (T 18))]) (
 .ret)))⟩
theorem dioramatop_before_ok : Ok Try.prog 26 dioramatop_before := ⟨by kernel_rfl, by kernel_rfl⟩

/-- diorama/dioramaref00.HasInt -/
def dioramaref00_HasInt : AF := ⟨19, [.tmp 4],
 .seq (
  .ops [D 4 (.mv (I 0))]) (
 .trim [] (
  .seq (
   .ops [D 5 (.mv (I 0))]) (
  .block 0 (
   .loop [0, 1, 5] (
    .seq (
     .seq (
      .ops [D 6 (.mv (T 5)),
       D 7 (.mv (T 0)),
       D 8 (.len (T 7)),
       D 9 (.bin .lss (T 6) (T 8))]) (
     .cond (T 9) (
      .skip) (
      .exit 0))) (
    .trim [0, 1, 5] (
     .block 1 (
      .trim [0, 1, 5, 17] (
       .ops [D 12 (.mv (T 0)),
        D 13 (.mv (T 5)),
        D 14 (.ia 1 (T 12) (T 13)),
        D 15 (.ld1 (T 14)),
        D 16 (.mv (T 1)),
        D 17 (.bin .eql (T 15) (T 16))]) (
      .cond (T 17) (
       .seq (
        .ops [D 18 (.mv (T 5)),
         D 4 (.mv (T 18))]) (
       .ret)) (
       .skip)))) (
    .ops [D 10 (.mv (T 5)),
     D 11 (.bin .add (T 10) (I 1)),
     D 5 (.mv (T 11))])))))) (
 .seq (
  .ops [D 4 (.mv (I (-1)))]) (
 .ret)))⟩
theorem dioramaref00_HasInt_ok : Ok Try.prog 27 dioramaref00_HasInt := ⟨by kernel_rfl, by kernel_rfl⟩

/-- diorama/dioramaref00.ValidTime -/
def dioramaref00_ValidTime : AF := ⟨21, [.tmp 2],
 .seq (
  .ops [D 1 (.box (T 0)),
   D 2 (.mv (.const (.bool false)))]) (
 .trim [2] (
  .ops [D 3 (.fa 1 (T 1)),
   D 4 (.ld1 (T 3)),
   D 5 (.bin .geq (T 4) (I 1)),
   D 6 (.mv (T 5)),
   ⟨(some 7), some (6, true), .fa 1 (T 1)⟩,
   ⟨(some 8), some (6, true), .ld1 (T 7)⟩,
   ⟨(some 9), some (6, true), .bin .leq (T 8) (I 1152921504606846976)⟩,
   D 10 (.pick (T 6) (T 9) (.const (.bool false))),
   D 11 (.mv (T 10)),
   ⟨(some 12), some (11, true), .fa 0 (T 1)⟩,
   ⟨(some 13), some (11, true), .ld1 (T 12)⟩,
   ⟨(some 14), some (11, true), .bin .geq (T 13) (I (-1152921504606846976))⟩,
   D 15 (.pick (T 11) (T 14) (.const (.bool false))),
   D 16 (.mv (T 15)),
   ⟨(some 17), some (16, true), .fa 0 (T 1)⟩,
   ⟨(some 18), some (16, true), .ld1 (T 17)⟩,
   ⟨(some 19), some (16, true), .bin .leq (T 18) (I 1152921504606846976)⟩,
   D 20 (.pick (T 16) (T 19) (.const (.bool false))),
   D 2 (.mv (T 20))]) (
 .ret))⟩
theorem dioramaref00_ValidTime_ok : Ok Try.prog 28 dioramaref00_ValidTime := ⟨by kernel_rfl, by kernel_rfl⟩

/-- slices.ContainsFunc[[]diorama/api.Segment,diorama/api.Segment] -/
def slices_ContainsFunc___api_Segment_api_Segment_ : AF := ⟨9, [.tmp 4],
 .seq (
  .ops [D 4 (.mv (.const (.bool false)))]) (
 .seq (
  .ops [D 5 (.mv (T 0)),
   D 6 (.mv (T 1)),
   D 7 (.call 60 [(T 5), (T 6)]),
   D 8 (.bin .geq (T 7) (I 0)),
   D 4 (.mv (T 8))]) (
 .ret))⟩
theorem slices_ContainsFunc___api_Segment_api_Segment__ok : Ok Try.prog 32 slices_ContainsFunc___api_Segment_api_Segment_ := ⟨by kernel_rfl, by kernel_rfl⟩

/-- diorama/stream.Next$1 -/
def stream_Next_1 : AF := ⟨9, [.tmp 3],
 .seq (
  .ops [D 2 (.box (T 0)),
   D 3 (.mv (.const (.bool false)))]) (
 .trim [3] (
  .ops [D 4 (.fa 0 (T 2)),
   D 5 (.ld1 (T 4)),
   D 6 (.bin .sub (T 5) (I 1)),
   D 7 (.ld1 (T 1)),
   D 8 (.bin .eql (T 6) (T 7)),
   D 3 (.mv (T 8))]) (
 .ret))⟩
theorem stream_Next_1_ok : Ok Try.prog 33 stream_Next_1 := ⟨by kernel_rfl, by kernel_rfl⟩

/-- diorama/exact.Valid -/
def exact_Valid : AF := ⟨21, [.tmp 2],
 .seq (
  .ops [D 1 (.box (T 0)),
   D 2 (.mv (.const (.bool false)))]) (
 .trim [2] (
  .ops [D 3 (.fa 1 (T 1)),
   D 4 (.ld1 (T 3)),
   D 5 (.bin .geq (T 4) (I 1)),
   D 6 (.mv (T 5)),
   ⟨(some 7), some (6, true), .fa 1 (T 1)⟩,
   ⟨(some 8), some (6, true), .ld1 (T 7)⟩,
   ⟨(some 9), some (6, true), .bin .leq (T 8) (I 1152921504606846976)⟩,
   D 10 (.pick (T 6) (T 9) (.const (.bool false))),
   D 11 (.mv (T 10)),
   ⟨(some 12), some (11, true), .fa 0 (T 1)⟩,
   ⟨(some 13), some (11, true), .ld1 (T 12)⟩,
   ⟨(some 14), some (11, true), .bin .geq (T 13) (I (-1152921504606846976))⟩,
   D 15 (.pick (T 11) (T 14) (.const (.bool false))),
   D 16 (.mv (T 15)),
   ⟨(some 17), some (16, true), .fa 0 (T 1)⟩,
   ⟨(some 18), some (16, true), .ld1 (T 17)⟩,
   ⟨(some 19), some (16, true), .bin .leq (T 18) (I 1152921504606846976)⟩,
   D 20 (.pick (T 16) (T 19) (.const (.bool false))),
   D 2 (.mv (T 20))]) (
 .ret))⟩
theorem exact_Valid_ok : Ok Try.prog 35 exact_Valid := ⟨by kernel_rfl, by kernel_rfl⟩

/-- diorama/exact.Cmp -/
def exact_Cmp : AF := ⟨14, [.tmp 4, .tmp 5],
 .seq (
  .ops [D 2 (.box (T 0)),
   D 3 (.box (T 1)),
   D 4 (.mv (I 0)),
   D 5 (.mv (I 0))]) (
 .trim [2, 3] (
  .seq (
   .ops [D 6 (.ldN 2 (T 2)),
    D 7 (.ldN 2 (T 3)),
    D 8 (.bslice [(.int .i64 0), (.int .i64 0), (.int .i64 0), (.int .i64 0)] 2 [(0, 2, (T 6)), (2, 2, (T 7))]),
    D 9 (.call 61 [(T 8)]),
    D 10 (.un .not (T 9))]) (
  .cond (T 10) (
   .seq (
    .ops [D 4 (.mv (I 0)),
     D 5 (.mv (I 4))]) (
   .ret)) (
   .skip))) (
 .seq (
  .ops [D 11 (.ldN 2 (T 2)),
   D 12 (.ldN 2 (T 3)),
   D 13 (.call 62 [(T 11), (T 12)]),
   D 4 (.mv (T 13)),
   D 5 (.mv (I 0))]) (
 .ret)))⟩
theorem exact_Cmp_ok : Ok Try.prog 36 exact_Cmp := ⟨by kernel_rfl, by kernel_rfl⟩

/-- diorama/stream.micros -/
def stream_micros : AF := ⟨26, [.tmp 2, .tmp 3],
 .seq (
  .ops [D 1 (.box (T 0)),
   D 2 (.mv (.const (.pointer none))),
   D 3 (.mv (.const (.bool false)))]) (
 .trim [1, 4] (
  .ops [D 6 (.alloc [(.bool false), (.slice none 0 0)]),
   D 7 (.fa 0 (T 1)),
   D 8 (.ld1 (T 7)),
   D 9 (.call 68 [(T 8)]),
   D 10 (.call 68 [(I 1000000)]),
   D 11 (.call 67 [(T 6), (T 9), (T 10)]),
   D 4 (.mv (T 11))]) (
 .trim [4, 5] (
  .ops [D 13 (.mv (T 4)),
   D 14 (.mv (T 4)),
   D 15 (.fa 1 (T 1)),
   D 16 (.ld1 (T 15)),
   D 17 (.call 68 [(T 16)]),
   D 18 (.alloc [(.bool false), (.slice none 0 0)]),
   D 19 (.call 69 [(T 13), (T 14), (T 17), (T 18)]),
   D 12 (.mv (T 19)),
   D 20 (.ext (T 12) 0),
   D 21 (.ext (T 12) 1),
   D 4 (.mv (T 20)),
   D 5 (.mv (T 21))]) (
 .seq (
  .ops [D 22 (.mv (T 4)),
   D 23 (.mv (T 5)),
   D 24 (.call 70 [(T 23)]),
   D 25 (.bin .eql (T 24) (I 0)),
   D 2 (.mv (T 22)),
   D 3 (.mv (T 25))]) (
 .ret))))⟩
theorem stream_micros_ok : Ok Try.prog 38 stream_micros := ⟨by kernel_rfl, by kernel_rfl⟩

/-- diorama/stream.microTime -/
def stream_microTime : AF := ⟨27, [.cellN 2 2, .tmp 3],
 .seq (
  .ops [D 2 (.alloc [(.int .i64 0), (.int .i64 0)]),
   D 3 (.mv (I 0))]) (
 .seq (
  .ops [D 6 (.alloc [(.bool false), (.slice none 0 0), (.bool false), (.slice none 0 0)]),
   D 7 (.mv (T 0)),
   D 8 (.call 68 [(I 1000000)]),
   D 9 (.call 76 [(T 6), (T 7), (T 8)]),
   D 4 (.mv (T 9))]) (
 .trim [2, 4] (
  .seq (
   .ops [D 10 (.mv (T 4)),
    D 11 (.call 77 [(T 10)]),
    D 12 (.call 78 [(T 11)]),
    D 13 (.un .not (T 12))]) (
  .cond (T 13) (
   .seq (
    .ops [D 14 (.build [(.int .i64 0), (.int .i64 0)] []),
     E (.st 2 (T 2) (T 14)),
     D 3 (.mv (I 2))]) (
   .ret)) (
   .skip))) (
 .trim [2, 5] (
  .ops [D 15 (.mv (T 4)),
   D 16 (.call 77 [(T 15)]),
   D 17 (.call 79 [(T 16)]),
   D 18 (.mv (T 4)),
   D 19 (.call 80 [(T 18)]),
   D 20 (.call 79 [(T 19)]),
   D 21 (.build [(.int .i64 0), (.int .i64 0)] [(0, 1, (T 17)), (1, 1, (T 20))]),
   D 5 (.alloc [(.int .i64 0), (.int .i64 0)]),
   E (.st 2 (T 5) (T 21))]) (
 .trim [2, 5] (
  .seq (
   .ops [D 22 (.ldN 2 (T 5)),
    D 23 (.call 35 [(T 22)]),
    D 24 (.un .not (T 23))]) (
  .cond (T 24) (
   .seq (
    .ops [D 25 (.build [(.int .i64 0), (.int .i64 0)] []),
     E (.st 2 (T 2) (T 25)),
     D 3 (.mv (I 2))]) (
   .ret)) (
   .skip))) (
 .seq (
  .ops [D 26 (.ldN 2 (T 5)),
   E (.st 2 (T 2) (T 26)),
   D 3 (.mv (I 0))]) (
 .ret))))))⟩
theorem stream_microTime_ok : Ok Try.prog 40 stream_microTime := ⟨by kernel_rfl, by kernel_rfl⟩

/-- diorama/dioramaref27.in -/
def dioramaref27_in : AF := ⟨15, [.tmp 6],
 .seq (
  .ops [D 6 (.mv (.const (.bool false)))]) (
 .trim [6] (
  .ops [D 7 (.mv (T 0)),
   D 8 (.mv (T 1)),
   D 9 (.bin .geq (T 7) (T 8)),
   D 10 (.mv (T 9)),
   ⟨(some 11), some (10, true), .mv (T 0)⟩,
   ⟨(some 12), some (10, true), .mv (T 2)⟩,
   ⟨(some 13), some (10, true), .bin .leq (T 11) (T 12)⟩,
   D 14 (.pick (T 10) (T 13) (.const (.bool false))),
   D 6 (.mv (T 14))]) (
 .ret))⟩
theorem dioramaref27_in_ok : Ok Try.prog 42 dioramaref27_in := ⟨by kernel_rfl, by kernel_rfl⟩

/-- diorama/dioramaref27.whole -/
def dioramaref27_whole : AF := ⟨8, [.tmp 2],
 .seq (
  .ops [D 1 (.box (T 0)),
   D 2 (.mv (.const (.bool false)))]) (
 .trim [2] (
  .ops [D 3 (.ldN 2 (T 1)),
   D 4 (.call 21 [(T 3)]),
   D 5 (.call 83 []),
   D 6 (.call 82 [(T 4), (T 5)]),
   D 7 (.call 81 [(T 6)]),
   D 2 (.mv (T 7))]) (
 .ret))⟩
theorem dioramaref27_whole_ok : Ok Try.prog 43 dioramaref27_whole := ⟨by kernel_rfl, by kernel_rfl⟩

/-- diorama/dioramaref00.ToTime -/
def dioramaref00_ToTime : AF := ⟨42, [.cellN 2 2, .tmp 3],
 .seq (
  .ops [D 1 (.box (T 0)),
   D 2 (.alloc [(.int .i64 0), (.int .i64 0)]),
   D 3 (.mv (.const (.bool false)))]) (
 .trim [1, 2, 4, 5] (
  .ops [D 9 (.fa 0 (T 1)),
   D 10 (.ldN 2 (T 9)),
   D 11 (.call 87 [(T 10)]),
   D 8 (.mv (T 11)),
   D 12 (.ext (T 8) 0),
   D 13 (.ext (T 8) 1),
   D 4 (.mv (T 12)),
   D 5 (.mv (T 13))]) (
 .trim [2, 4, 5, 6, 7] (
  .ops [D 15 (.fa 2 (T 1)),
   D 16 (.ldN 2 (T 15)),
   D 17 (.call 87 [(T 16)]),
   D 14 (.mv (T 17)),
   D 18 (.ext (T 14) 0),
   D 19 (.ext (T 14) 1),
   D 6 (.mv (T 18)),
   D 7 (.mv (T 19))]) (
 .trim [2, 4, 6] (
  .trim [2, 4, 6, 37] (
   .ops [D 20 (.mv (T 5)),
    D 21 (.un .not (T 20)),
    D 22 (.mv (T 21)),
    ⟨(some 23), some (22, false), .mv (T 7)⟩,
    ⟨(some 24), some (22, false), .un .not (T 23)⟩,
    D 25 (.pick (T 22) (.const (.bool true)) (T 24)),
    D 26 (.mv (T 25)),
    ⟨(some 27), some (26, false), .mv (T 4)⟩,
    ⟨(some 28), some (26, false), .bin .lss (T 27) (I (-1152921504606846976))⟩,
    D 29 (.pick (T 26) (.const (.bool true)) (T 28)),
    D 30 (.mv (T 29)),
    ⟨(some 31), some (30, false), .mv (T 4)⟩,
    ⟨(some 32), some (30, false), .bin .gtr (T 31) (I 1152921504606846976)⟩,
    D 33 (.pick (T 30) (.const (.bool true)) (T 32)),
    D 34 (.mv (T 33)),
    ⟨(some 35), some (34, false), .mv (T 6)⟩,
    ⟨(some 36), some (34, false), .bin .gtr (T 35) (I 1152921504606846976)⟩,
    D 37 (.pick (T 34) (.const (.bool true)) (T 36))]) (
  .cond (T 37) (
   .seq (
    .ops [D 38 (.build [(.int .i64 0), (.int .i64 0)] []),
     E (.st 2 (T 2) (T 38)),
     D 3 (.mv (.const (.bool false)))]) (
   .ret)) (
   .skip))) (
 .seq (
  .ops [D 39 (.mv (T 4)),
   D 40 (.mv (T 6)),
   D 41 (.build [(.int .i64 0), (.int .i64 0)] [(0, 1, (T 39)), (1, 1, (T 40))]),
   E (.st 2 (T 2) (T 41)),
   D 3 (.mv (.const (.bool true)))]) (
 .ret)))))⟩
theorem dioramaref00_ToTime_ok : Ok Try.prog 45 dioramaref00_ToTime := ⟨by kernel_rfl, by kernel_rfl⟩

/-- diorama/dioramaref00.Cmp -/
def dioramaref00_Cmp : AF := ⟨20, [.tmp 4],
 .seq (
  .ops [D 2 (.box (T 0)),
   D 3 (.box (T 1)),
   D 4 (.mv (I 0))]) (
 .trim [2, 3] (
  .seq (
   .ops [D 5 (.fa 0 (T 2)),
    D 6 (.ld1 (T 5)),
    D 7 (.fa 0 (T 3)),
    D 8 (.ld1 (T 7)),
    D 9 (.beq true (T 6) (T 8))]) (
  .cond (T 9) (
   .seq (
    .seq (
     .ops [D 10 (.fa 0 (T 2)),
      D 11 (.ld1 (T 10))]) (
    .cond (T 11) (
     .seq (
      .ops [D 4 (.mv (I (-1)))]) (
     .ret)) (
     .skip))) (
   .seq (
    .ops [D 4 (.mv (I 1))]) (
   .ret))) (
   .skip))) (
 .trim [2, 3] (
  .seq (
   .ops [D 12 (.fa 0 (T 2)),
    D 13 (.ld1 (T 12))]) (
  .cond (T 13) (
   .seq (
    .ops [D 14 (.ldN 2 (T 3)),
     D 15 (.ldN 2 (T 2)),
     D 16 (.call 88 [(T 14), (T 15)]),
     D 4 (.mv (T 16))]) (
   .ret)) (
   .skip))) (
 .seq (
  .ops [D 17 (.ldN 2 (T 2)),
   D 18 (.ldN 2 (T 3)),
   D 19 (.call 88 [(T 17), (T 18)]),
   D 4 (.mv (T 19))]) (
 .ret))))⟩
theorem dioramaref00_Cmp_ok : Ok Try.prog 46 dioramaref00_Cmp := ⟨by kernel_rfl, by kernel_rfl⟩

/-- diorama/dioramaref00.Mul -/
def dioramaref00_Mul : AF := ⟨74, [.cellN 2 4],
 .seq (
  .ops [D 2 (.box (T 0)),
   D 3 (.box (T 1)),
   D 4 (.alloc [(.bool false), (.slice none 0 0)])]) (
 .trim [2, 3, 4, 5] (
  .ops [D 10 (.fa 1 (T 2)),
   D 11 (.ld1 (T 10)),
   D 12 (.len (T 11)),
   D 13 (.fa 1 (T 3)),
   D 14 (.ld1 (T 13)),
   D 15 (.len (T 14)),
   D 16 (.bin .add (T 12) (T 15)),
   D 17 (.mks [(.int .i64 0)] 8 (T 16) (T 16)),
   D 18 (.build [(.bool false), (.slice none 0 0)] [(1, 1, (T 17))]),
   D 5 (.alloc [(.bool false), (.slice none 0 0)]),
   E (.st 2 (T 5) (T 18))]) (
 .trim [2, 3, 4, 5] (
  .seq (
   .ops [D 6 (.mv (I 0))]) (
  .block 0 (
   .loop [2, 3, 4, 5, 6] (
    .trim [2, 3, 4, 5, 6] (
     .seq (
      .ops [D 19 (.mv (T 6)),
       D 20 (.fa 1 (T 2)),
       D 21 (.ld1 (T 20)),
       D 22 (.len (T 21)),
       D 23 (.bin .lss (T 19) (T 22))]) (
     .cond (T 23) (
      .skip) (
      .exit 0))) (
    .trim [2, 3, 4, 5, 6] (
     .block 1 (
      .seq (
       .ops [D 7 (.mv (I 0))]) (
      .seq (
       .ops [D 8 (.mv (I 0))]) (
      .block 2 (
       .loop [2, 3, 4, 5, 6, 7, 8] (
        .trim [2, 3, 4, 5, 6, 7, 8] (
         .trim [2, 3, 4, 5, 6, 7, 8, 34] (
          .ops [D 26 (.mv (T 8)),
           D 27 (.fa 1 (T 3)),
           D 28 (.ld1 (T 27)),
           D 29 (.len (T 28)),
           D 30 (.bin .lss (T 26) (T 29)),
           D 31 (.mv (T 30)),
           ⟨(some 32), some (31, false), .mv (T 7)⟩,
           ⟨(some 33), some (31, false), .bin .gtr (T 32) (I 0)⟩,
           D 34 (.pick (T 31) (.const (.bool true)) (T 33))]) (
         .cond (T 34) (
          .skip) (
          .exit 2))) (
        .trim [2, 3, 4, 5, 6, 7, 8] (
         .block 3 (
          .trim [2, 3, 4, 5, 6, 8, 9] (
           .draw [⟨0, 0, 0, D 37 (.fa 1 (T 5))⟩,
            ⟨1, 1, 1, D 38 (.ld1 (T 37))⟩,
            ⟨2, 0, 0, D 39 (.mv (T 6))⟩,
            ⟨3, 0, 0, D 40 (.mv (T 8))⟩,
            ⟨4, 0, 12, D 41 (.bin .add (T 39) (T 40))⟩,
            ⟨5, 0, 31, D 42 (.ia 1 (T 38) (T 41))⟩,
            ⟨6, 1, 63, D 43 (.ld1 (T 42))⟩,
            ⟨7, 0, 0, D 44 (.fa 1 (T 2))⟩,
            ⟨8, 1, 128, D 45 (.ld1 (T 44))⟩,
            ⟨9, 0, 0, D 46 (.mv (T 6))⟩,
            ⟨10, 0, 896, D 47 (.ia 1 (T 45) (T 46))⟩,
            ⟨11, 1, 1920, D 48 (.ld1 (T 47))⟩,
            ⟨12, 1, 0, D 49 (.ldN 2 (T 3))⟩,
            ⟨13, 0, 0, D 50 (.mv (T 8))⟩,
            ⟨17, 0, 0, D 54 (.mv (T 7))⟩,
            ⟨14, 4, 12288, D 51 (.call 89 [(T 49), (T 50)])⟩,
            ⟨15, 0, 32640, D 52 (.bin .mul (T 48) (T 51))⟩,
            ⟨16, 0, 65535, D 53 (.bin .add (T 43) (T 52))⟩,
            ⟨18, 0, 262143, D 55 (.bin .add (T 53) (T 54))⟩,
            ⟨19, 0, 524287, D 9 (.mv (T 55))⟩]) (
          .trim [2, 3, 4, 5, 6, 8, 9] (
           .ops [D 56 (.fa 1 (T 5)),
            D 57 (.ld1 (T 56)),
            D 58 (.mv (T 6)),
            D 59 (.mv (T 8)),
            D 60 (.bin .add (T 58) (T 59)),
            D 61 (.mv (T 9)),
            D 62 (.bin .rem (T 61) (I 16777216)),
            D 63 (.ia 1 (T 57) (T 60)),
            E (.st 1 (T 63) (T 62))]) (
          .ops [D 64 (.mv (T 9)),
           D 65 (.bin .quo (T 64) (I 16777216)),
           D 7 (.mv (T 65))])))) (
        .ops [D 35 (.mv (T 8)),
         D 36 (.bin .add (T 35) (I 1)),
         D 8 (.mv (T 36))])))))))) (
    .ops [D 24 (.mv (T 6)),
     D 25 (.bin .add (T 24) (I 1)),
     D 6 (.mv (T 25))])))))) (
 .trim [4, 5] (
  .ops [D 66 (.fa 0 (T 2)),
   D 67 (.ld1 (T 66)),
   D 68 (.fa 0 (T 3)),
   D 69 (.ld1 (T 68)),
   D 70 (.beq true (T 67) (T 69)),
   D 71 (.fa 0 (T 5)),
   E (.st 1 (T 71) (T 70))]) (
 .seq (
  .ops [D 72 (.ldN 2 (T 5)),
   D 73 (.call 90 [(T 72)]),
   E (.st 2 (T 4) (T 73))]) (
 .ret)))))⟩
theorem dioramaref00_Mul_ok : Ok Try.prog 47 dioramaref00_Mul := ⟨by kernel_rfl, by kernel_rfl⟩

/-- diorama/dioramaref00.FracOf -/
def dioramaref00_FracOf : AF := ⟨11, [.cellN 4 4],
 .seq (
  .ops [D 4 (.alloc [(.bool false), (.slice none 0 0), (.bool false), (.slice none 0 0)])]) (
 .trim [4] (
  .ops [D 5 (.mv (T 0)),
   D 6 (.call 92 [(T 5)]),
   D 7 (.mv (T 1)),
   D 8 (.call 92 [(T 7)]),
   D 9 (.build [(.bool false), (.slice none 0 0), (.bool false), (.slice none 0 0)] [(0, 2, (T 6)), (2, 2, (T 8))]),
   D 10 (.call 91 [(T 9)]),
   E (.st 4 (T 4) (T 10))]) (
 .ret))⟩
theorem dioramaref00_FracOf_ok : Ok Try.prog 48 dioramaref00_FracOf := ⟨by kernel_rfl, by kernel_rfl⟩

/-- diorama/stream.within -/
def stream_within : AF := ⟨15, [.tmp 6],
 .seq (
  .ops [D 6 (.mv (.const (.bool false)))]) (
 .trim [6] (
  .ops [D 7 (.mv (T 0)),
   D 8 (.mv (T 1)),
   D 9 (.bin .geq (T 7) (T 8)),
   D 10 (.mv (T 9)),
   ⟨(some 11), some (10, true), .mv (T 0)⟩,
   ⟨(some 12), some (10, true), .mv (T 2)⟩,
   ⟨(some 13), some (10, true), .bin .leq (T 11) (T 12)⟩,
   D 14 (.pick (T 10) (T 13) (.const (.bool false))),
   D 6 (.mv (T 14))]) (
 .ret))⟩
theorem stream_within_ok : Ok Try.prog 49 stream_within := ⟨by kernel_rfl, by kernel_rfl⟩

/-- (*diorama/num.Int).Sub -/
def num_Int__Sub : AF := ⟨21, [.tmp 6],
 .seq (
  .ops [D 6 (.mv (.const (.pointer none)))]) (
 .trim [6] (
  .draw [⟨0, 0, 0, D 7 (.mv (T 0))⟩,
   ⟨1, 0, 0, D 8 (.mv (T 1))⟩,
   ⟨2, 0, 0, D 9 (.mv (T 2))⟩,
   ⟨3, 0, 4, D 10 (.nil (T 9))⟩,
   ⟨4, 0, 12, D 11 (.fa 0 (T 10))⟩,
   ⟨5, 1, 28, D 12 (.ld1 (T 11))⟩,
   ⟨6, 0, 60, D 13 (.un .not (T 12))⟩,
   ⟨7, 0, 0, D 14 (.mv (T 2))⟩,
   ⟨8, 0, 128, D 15 (.nil (T 14))⟩,
   ⟨9, 0, 384, D 16 (.fa 1 (T 15))⟩,
   ⟨10, 1, 896, D 17 (.ld1 (T 16))⟩,
   ⟨11, 0, 2044, D 18 (.build [(.bool false), (.slice none 0 0)] [(0, 1, (T 13)), (1, 1, (T 17))])⟩,
   ⟨12, 2, 4092, D 19 (.box (T 18))⟩,
   ⟨13, 4, 8191, D 20 (.call 72 [(T 7), (T 8), (T 19)])⟩,
   ⟨14, 0, 16383, D 6 (.mv (T 20))⟩]) (
 .ret))⟩
theorem num_Int__Sub_ok : Ok Try.prog 51 num_Int__Sub := ⟨by kernel_rfl, by kernel_rfl⟩

/-- diorama/dioramaref00.SubF -/
def dioramaref00_SubF : AF := ⟨23, [.cellN 4 4],
 .seq (
  .ops [D 2 (.box (T 0)),
   D 3 (.box (T 1)),
   D 4 (.alloc [(.bool false), (.slice none 0 0), (.bool false), (.slice none 0 0)])]) (
 .trim [4] (
  .draw [⟨0, 0, 0, D 5 (.fa 0 (T 2))⟩,
   ⟨1, 1, 1, D 6 (.ldN 2 (T 5))⟩,
   ⟨2, 0, 0, D 7 (.fa 2 (T 3))⟩,
   ⟨3, 1, 4, D 8 (.ldN 2 (T 7))⟩,
   ⟨5, 0, 0, D 10 (.fa 0 (T 3))⟩,
   ⟨6, 1, 32, D 11 (.ldN 2 (T 10))⟩,
   ⟨7, 0, 0, D 12 (.fa 2 (T 2))⟩,
   ⟨8, 1, 128, D 13 (.ldN 2 (T 12))⟩,
   ⟨11, 0, 0, D 16 (.fa 2 (T 2))⟩,
   ⟨12, 1, 2048, D 17 (.ldN 2 (T 16))⟩,
   ⟨13, 0, 0, D 18 (.fa 2 (T 3))⟩,
   ⟨14, 1, 8192, D 19 (.ldN 2 (T 18))⟩,
   ⟨4, 4, 15, D 9 (.call 47 [(T 6), (T 8)])⟩,
   ⟨9, 4, 511, D 14 (.call 47 [(T 11), (T 13)])⟩,
   ⟨10, 4, 1023, D 15 (.call 94 [(T 9), (T 14)])⟩,
   ⟨15, 4, 32767, D 20 (.call 47 [(T 17), (T 19)])⟩,
   ⟨16, 0, 65535, D 21 (.build [(.bool false), (.slice none 0 0), (.bool false), (.slice none 0 0)] [(0, 2, (T 15)), (2, 2, (T 20))])⟩,
   ⟨17, 4, 131071, D 22 (.call 91 [(T 21)])⟩,
   ⟨18, 4, 262143, E (.st 4 (T 4) (T 22))⟩]) (
 .ret))⟩
theorem dioramaref00_SubF_ok : Ok Try.prog 52 dioramaref00_SubF := ⟨by kernel_rfl, by kernel_rfl⟩

/-- diorama/dioramaref27.zero -/
def dioramaref27_zero : AF := ⟨2, [.cellN 4 0],
 .seq (
  .ops [D 0 (.alloc [(.bool false), (.slice none 0 0), (.bool false), (.slice none 0 0)])]) (
 .seq (
  .ops [D 1 (.call 48 [(I 0), (I 1)]),
   E (.st 4 (T 0) (T 1))]) (
 .ret))⟩
theorem dioramaref27_zero_ok : Ok Try.prog 53 dioramaref27_zero := ⟨by kernel_rfl, by kernel_rfl⟩

/-- diorama/dioramatop.shows -/
def dioramatop_shows : AF := ⟨31, [.tmp 0],
 .seq (
  .ops [D 0 (.mv (.const (.bool false)))]) (
 .trim [1, 2] (
  .ops [D 6 (.call 97 []),
   D 7 (.build [(.int .i64 0), (.int .i64 0)] [(0, 1, (I 1)), (1, 1, (I 10))]),
   D 8 (.call 96 [(T 6), (I 1), (T 7)]),
   D 5 (.mv (T 8)),
   D 9 (.ext (T 5) 0),
   D 10 (.ext (T 5) 1),
   D 1 (.mv (T 9)),
   D 2 (.mv (T 10))]) (
 .trim [1, 2, 3, 4] (
  .ops [D 12 (.call 97 []),
   D 13 (.build [(.int .i64 0), (.int .i64 0)] [(0, 1, (I 9)), (1, 1, (I 10))]),
   D 14 (.call 96 [(T 12), (I 1), (T 13)]),
   D 11 (.mv (T 14)),
   D 15 (.ext (T 11) 0),
   D 16 (.ext (T 11) 1),
   D 3 (.mv (T 15)),
   D 4 (.mv (T 16))]) (
 .trim [0] (
  .ops [D 17 (.mv (T 2)),
   D 18 (.bin .eql (T 17) (I 0)),
   D 19 (.mv (T 18)),
   ⟨(some 20), some (19, true), .mv (T 1)⟩,
   ⟨(some 21), some (19, true), .bin .eql (T 20) (I 0)⟩,
   D 22 (.pick (T 19) (T 21) (.const (.bool false))),
   D 23 (.mv (T 22)),
   ⟨(some 24), some (23, true), .mv (T 4)⟩,
   ⟨(some 25), some (23, true), .bin .eql (T 24) (I 0)⟩,
   D 26 (.pick (T 23) (T 25) (.const (.bool false))),
   D 27 (.mv (T 26)),
   ⟨(some 28), some (27, true), .mv (T 3)⟩,
   ⟨(some 29), some (27, true), .bin .eql (T 28) (I (-1))⟩,
   D 30 (.pick (T 27) (T 29) (.const (.bool false))),
   D 0 (.mv (T 30))]) (
 .ret))))⟩
theorem dioramatop_shows_ok : Ok Try.prog 55 dioramatop_shows := ⟨by kernel_rfl, by kernel_rfl⟩

/-- diorama/dioramaref02.Cmp -/
def dioramaref02_Cmp : AF := ⟨26, [.tmp 4, .tmp 5],
 .seq (
  .ops [D 2 (.box (T 0)),
   D 3 (.box (T 1)),
   D 4 (.mv (I 0)),
   D 5 (.mv (I 0))]) (
 .trim [2, 3] (
  .trim [2, 3, 15] (
   .ops [D 8 (.ldN 2 (T 2)),
    D 9 (.call 98 [(T 8)]),
    D 10 (.un .not (T 9)),
    D 11 (.mv (T 10)),
    ⟨(some 12), some (11, false), .ldN 2 (T 3)⟩,
    ⟨(some 13), some (11, false), .call 98 [(T 12)]⟩,
    ⟨(some 14), some (11, false), .un .not (T 13)⟩,
    D 15 (.pick (T 11) (.const (.bool true)) (T 14))]) (
  .cond (T 15) (
   .seq (
    .ops [D 4 (.mv (I 0)),
     D 5 (.mv (I 4))]) (
   .ret)) (
   .skip))) (
 .seq (
  .draw [⟨0, 1, 0, D 16 (.ldN 2 (T 2))⟩,
   ⟨2, 1, 0, D 18 (.ldN 2 (T 3))⟩,
   ⟨1, 4, 1, D 17 (.call 99 [(T 16)])⟩,
   ⟨3, 4, 7, D 19 (.call 99 [(T 18)])⟩,
   ⟨4, 3, 0, D 6 (.alloc [(.bool false), (.slice none 0 0), (.slice none 0 0)])⟩,
   ⟨5, 3, 0, D 7 (.alloc [(.bool false), (.slice none 0 0), (.slice none 0 0)])⟩,
   ⟨6, 4, 63, E (.st 3 (T 6) (T 17))⟩,
   ⟨7, 4, 127, E (.st 3 (T 7) (T 19))⟩]) (
 .trim [6, 7] (
  .seq (
   .ops [D 20 (.ldN 3 (T 6)),
    D 21 (.ldN 3 (T 7)),
    D 22 (.call 100 [(T 20), (T 21)])]) (
  .cond (T 22) (
   .seq (
    .ops [D 4 (.mv (I (-1))),
     D 5 (.mv (I 0))]) (
   .ret)) (
   .skip))) (
 .trim [] (
  .seq (
   .ops [D 23 (.ldN 3 (T 7)),
    D 24 (.ldN 3 (T 6)),
    D 25 (.call 100 [(T 23), (T 24)])]) (
  .cond (T 25) (
   .seq (
    .ops [D 4 (.mv (I 1)),
     D 5 (.mv (I 0))]) (
   .ret)) (
   .skip))) (
 .seq (
  .ops [D 4 (.mv (I 0)),
   D 5 (.mv (I 0))]) (
 .ret))))))⟩
theorem dioramaref02_Cmp_ok : Ok Try.prog 56 dioramaref02_Cmp := ⟨by kernel_rfl, by kernel_rfl⟩

/-- diorama/stream.there$1 -/
def stream_there_1 : AF := ⟨7, [.tmp 2],
 .seq (
  .ops [D 1 (.box (T 0)),
   D 2 (.mv (.const (.bool false)))]) (
 .seq (
  .ops [D 3 (.fa 1 (T 1)),
   D 4 (.ldN 4 (T 3)),
   D 5 (.call 58 [(T 4)]),
   D 6 (.un .not (T 5)),
   D 2 (.mv (T 6))]) (
 .ret))⟩
theorem stream_there_1_ok : Ok Try.prog 57 stream_there_1 := ⟨by kernel_rfl, by kernel_rfl⟩

/-- diorama/stream.spanOK -/
def stream_spanOK : AF := ⟨19, [.tmp 2],
 .seq (
  .ops [D 1 (.box (T 0)),
   D 2 (.mv (.const (.bool false)))]) (
 .trim [3, 4] (
  .ops [D 6 (.fa 0 (T 1)),
   D 7 (.ldN 2 (T 6)),
   D 8 (.fa 2 (T 1)),
   D 9 (.ldN 2 (T 8)),
   D 10 (.call 36 [(T 7), (T 9)]),
   D 5 (.mv (T 10)),
   D 11 (.ext (T 5) 0),
   D 12 (.ext (T 5) 1),
   D 3 (.mv (T 11)),
   D 4 (.mv (T 12))]) (
 .trim [2] (
  .ops [D 13 (.mv (T 4)),
   D 14 (.bin .eql (T 13) (I 0)),
   D 15 (.mv (T 14)),
   ⟨(some 16), some (15, true), .mv (T 3)⟩,
   ⟨(some 17), some (15, true), .bin .leq (T 16) (I 0)⟩,
   D 18 (.pick (T 15) (T 17) (.const (.bool false))),
   D 2 (.mv (T 18))]) (
 .ret)))⟩
theorem stream_spanOK_ok : Ok Try.prog 58 stream_spanOK := ⟨by kernel_rfl, by kernel_rfl⟩

/-- diorama/dioramaref27.span -/
def dioramaref27_span : AF := ⟨21, [.tmp 2],
 .seq (
  .ops [D 1 (.box (T 0)),
   D 2 (.mv (.const (.bool false)))]) (
 .trim [2] (
  .draw [⟨0, 0, 0, D 3 (.fa 0 (T 1))⟩,
   ⟨1, 1, 1, D 4 (.ldN 2 (T 3))⟩,
   ⟨2, 4, 3, D 5 (.call 28 [(T 4)])⟩,
   ⟨3, 0, 7, D 6 (.mv (T 5))⟩,
   ⟨4, 0, 15, ⟨(some 7), some (6, true), .fa 2 (T 1)⟩⟩,
   ⟨5, 1, 31, ⟨(some 8), some (6, true), .ldN 2 (T 7)⟩⟩,
   ⟨6, 4, 63, ⟨(some 9), some (6, true), .call 28 [(T 8)]⟩⟩,
   ⟨7, 0, 127, D 10 (.pick (T 6) (T 9) (.const (.bool false)))⟩,
   ⟨8, 0, 255, D 11 (.mv (T 10))⟩,
   ⟨9, 0, 511, ⟨(some 12), some (11, true), .fa 0 (T 1)⟩⟩,
   ⟨10, 1, 1023, ⟨(some 13), some (11, true), .ldN 2 (T 12)⟩⟩,
   ⟨12, 0, 511, ⟨(some 15), some (11, true), .fa 2 (T 1)⟩⟩,
   ⟨13, 1, 4607, ⟨(some 16), some (11, true), .ldN 2 (T 15)⟩⟩,
   ⟨11, 4, 2047, ⟨(some 14), some (11, true), .call 21 [(T 13)]⟩⟩,
   ⟨14, 4, 16383, ⟨(some 17), some (11, true), .call 21 [(T 16)]⟩⟩,
   ⟨15, 4, 32767, ⟨(some 18), some (11, true), .call 20 [(T 14), (T 17)]⟩⟩,
   ⟨16, 0, 65535, ⟨(some 19), some (11, true), .bin .leq (T 18) (I 0)⟩⟩,
   ⟨17, 0, 131071, D 20 (.pick (T 11) (T 19) (.const (.bool false)))⟩,
   ⟨18, 0, 262143, D 2 (.mv (T 20))⟩]) (
 .ret))⟩
theorem dioramaref27_span_ok : Ok Try.prog 59 dioramaref27_span := ⟨by kernel_rfl, by kernel_rfl⟩

/-- slices.IndexFunc[[]diorama/api.Segment,diorama/api.Segment] -/
def slices_IndexFunc___api_Segment_api_Segment_ : AF := ⟨19, [.tmp 4],
 .seq (
  .ops [D 4 (.mv (I 0))]) (
 .trim [] (
  .seq (
   .ops [D 6 (.mv (T 0)),
    D 7 (.len (T 6)),
    D 8 (.mv (I 0))]) (
  .block 0 (
   .loop [0, 1, 7, 8] (
    .seq (
     .ops [D 9 (.bin .lss (T 8) (T 7))]) (
    .seq (
     .cond (T 9) (
      .skip) (
      .exit 0)) (
    .trim [0, 1, 7, 8] (
     .block 1 (
      .seq (
       .ops [D 10 (.mv (T 8)),
        D 5 (.mv (T 10))]) (
      .trim [0, 1, 5, 7, 8, 16] (
       .ops [D 11 (.mv (T 1)),
        D 12 (.mv (T 0)),
        D 13 (.mv (T 5)),
        D 14 (.ia 7 (T 12) (T 13)),
        D 15 (.ldN 7 (T 14)),
        D 16 (.callv (T 11) [(T 15)])]) (
      .cond (T 16) (
       .seq (
        .ops [D 17 (.mv (T 5)),
         D 4 (.mv (T 17))]) (
       .ret)) (
       .skip))))) (
    .ops [D 18 (.bin .add (T 8) (I 1)),
     D 8 (.mv (T 18))]))))))) (
 .seq (
  .ops [D 4 (.mv (I (-1)))]) (
 .ret)))⟩
theorem slices_IndexFunc___api_Segment_api_Segment__ok : Ok Try.prog 60 slices_IndexFunc___api_Segment_api_Segment_ := ⟨by kernel_rfl, by kernel_rfl⟩

/-- diorama/exact.valid -/
def exact_valid : AF := ⟨6, [.tmp 2],
 .seq (
  .ops [D 2 (.mv (.const (.bool false)))]) (
 .seq (
  .ops [D 3 (.mv (T 0)),
   D 4 (.call 101 [(T 3), (.func 102)]),
   D 5 (.un .not (T 4)),
   D 2 (.mv (T 5))]) (
 .ret))⟩
theorem exact_valid_ok : Ok Try.prog 61 exact_valid := ⟨by kernel_rfl, by kernel_rfl⟩

/-- diorama/exact.cmp -/
def exact_cmp : AF := ⟨40, [.tmp 4],
 .seq (
  .ops [D 2 (.box (T 0)),
   D 3 (.box (T 1)),
   D 4 (.mv (I 0))]) (
 .trim [2, 3] (
  .seq (
   .ops [D 7 (.ldN 2 (T 2)),
    D 8 (.ldN 2 (T 3)),
    D 9 (.bslice [(.int .i64 0), (.int .i64 0), (.int .i64 0), (.int .i64 0)] 2 [(0, 2, (T 7)), (2, 2, (T 8))]),
    D 10 (.call 103 [(T 9)])]) (
  .cond (T 10) (
   .trim [5, 6] (
    .draw [⟨0, 0, 0, D 11 (.fa 0 (T 2))⟩,
     ⟨1, 1, 1, D 12 (.ld1 (T 11))⟩,
     ⟨2, 0, 0, D 13 (.fa 1 (T 3))⟩,
     ⟨3, 1, 4, D 14 (.ld1 (T 13))⟩,
     ⟨4, 0, 15, D 15 (.bin .mul (T 12) (T 14))⟩,
     ⟨5, 0, 0, D 16 (.fa 0 (T 3))⟩,
     ⟨6, 1, 32, D 17 (.ld1 (T 16))⟩,
     ⟨7, 0, 0, D 18 (.fa 1 (T 2))⟩,
     ⟨8, 1, 128, D 19 (.ld1 (T 18))⟩,
     ⟨9, 0, 480, D 20 (.bin .mul (T 17) (T 19))⟩,
     ⟨10, 0, 31, D 5 (.mv (T 15))⟩,
     ⟨11, 0, 2047, D 6 (.mv (T 20))⟩]) (
   .trim [] (
    .block 0 (
     .seq (
      .ops [D 22 (.mv (T 5)),
       D 23 (.mv (T 6)),
       D 24 (.bin .lss (T 22) (T 23)),
       D 21 (.mv (T 24))]) (
     .cond (T 21) (
      .seq (
       .ops [D 4 (.mv (I (-1)))]) (
      .ret)) (
      .seq (
       .ops [D 26 (.mv (T 5)),
        D 27 (.mv (T 6)),
        D 28 (.bin .gtr (T 26) (T 27)),
        D 25 (.mv (T 28))]) (
      .cond (T 25) (
       .seq (
        .ops [D 4 (.mv (I 1))]) (
       .ret)) (
       .skip)))))) (
   .seq (
    .ops [D 4 (.mv (I 0))]) (
   .ret)))) (
   .skip))) (
 .trim [4] (
  .draw [⟨0, 0, 0, D 29 (.fa 0 (T 2))⟩,
   ⟨1, 1, 1, D 30 (.ld1 (T 29))⟩,
   ⟨2, 0, 0, D 31 (.fa 1 (T 3))⟩,
   ⟨3, 1, 4, D 32 (.ld1 (T 31))⟩,
   ⟨5, 0, 0, D 34 (.fa 0 (T 3))⟩,
   ⟨6, 1, 32, D 35 (.ld1 (T 34))⟩,
   ⟨7, 0, 0, D 36 (.fa 1 (T 2))⟩,
   ⟨8, 1, 128, D 37 (.ld1 (T 36))⟩,
   ⟨4, 4, 15, D 33 (.call 104 [(T 30), (T 32)])⟩,
   ⟨9, 4, 511, D 38 (.call 104 [(T 35), (T 37)])⟩,
   ⟨10, 4, 1023, D 39 (.call 74 [(T 33), (T 38)])⟩,
   ⟨11, 0, 2047, D 4 (.mv (T 39))⟩]) (
 .ret)))⟩
theorem exact_cmp_ok : Ok Try.prog 62 exact_cmp := ⟨by kernel_rfl, by kernel_rfl⟩

/-- diorama/stream.checkNet$1 -/
def stream_checkNet_1 : AF := ⟨5, [.tmp 2],
 .seq (
  .ops [D 1 (.box (T 0)),
   D 2 (.mv (.const (.bool false)))]) (
 .seq (
  .ops [D 3 (.ldN 2 (T 1)),
   D 4 (.call 35 [(T 3)]),
   D 2 (.mv (T 4))]) (
 .ret))⟩
theorem stream_checkNet_1_ok : Ok Try.prog 63 stream_checkNet_1 := ⟨by kernel_rfl, by kernel_rfl⟩

/-- slices.ContainsFunc[[]diorama/api.Net,diorama/api.Net] -/
def slices_ContainsFunc___api_Net_api_Net_ : AF := ⟨9, [.tmp 4],
 .seq (
  .ops [D 4 (.mv (.const (.bool false)))]) (
 .seq (
  .ops [D 5 (.mv (T 0)),
   D 6 (.mv (T 1)),
   D 7 (.call 105 [(T 5), (T 6)]),
   D 8 (.bin .geq (T 7) (I 0)),
   D 4 (.mv (T 8))]) (
 .ret))⟩
theorem slices_ContainsFunc___api_Net_api_Net__ok : Ok Try.prog 64 slices_ContainsFunc___api_Net_api_Net_ := ⟨by kernel_rfl, by kernel_rfl⟩

/-- diorama/stream.checkNet$2 -/
def stream_checkNet_2 : AF := ⟨16, [.tmp 3],
 .seq (
  .ops [D 2 (.box (T 0)),
   D 3 (.mv (.const (.bool false)))]) (
 .trim [3] (
  .ops [D 4 (.ld1 (T 1)),
   D 5 (.fa 1 (T 2)),
   D 6 (.ldN 2 (T 5)),
   D 7 (.callv (T 4) [(T 6)]),
   D 8 (.un .not (T 7)),
   D 9 (.mv (T 8)),
   ⟨(some 10), some (9, false), .ld1 (T 1)⟩,
   ⟨(some 11), some (9, false), .fa 3 (T 2)⟩,
   ⟨(some 12), some (9, false), .ldN 2 (T 11)⟩,
   ⟨(some 13), some (9, false), .callv (T 10) [(T 12)]⟩,
   ⟨(some 14), some (9, false), .un .not (T 13)⟩,
   D 15 (.pick (T 9) (.const (.bool true)) (T 14)),
   D 3 (.mv (T 15))]) (
 .ret))⟩
theorem stream_checkNet_2_ok : Ok Try.prog 65 stream_checkNet_2 := ⟨by kernel_rfl, by kernel_rfl⟩

/-- diorama/stream.checkNet$3 -/
def stream_checkNet_3 : AF := ⟨19, [.tmp 4],
 .seq (
  .ops [D 2 (.box (T 0)),
   D 4 (.mv (.const (.bool false)))]) (
 .trim [1, 2, 6] (
  .ops [D 8 (.ldN 2 (T 2)),
   D 9 (.call 38 [(T 8)]),
   D 7 (.mv (T 9)),
   D 10 (.ext (T 7) 0),
   D 11 (.ext (T 7) 1),
   D 5 (.mv (T 10)),
   D 6 (.mv (T 11))]) (
 .trim [4] (
  .ops [D 12 (.mv (T 6)),
   D 13 (.mv (T 12)),
   ⟨(some 14), some (13, true), .fa 0 (T 2)⟩,
   ⟨(some 15), some (13, true), .ld1 (T 14)⟩,
   ⟨(some 16), some (13, true), .mv (T 1)⟩,
   ⟨(some 17), some (13, true), .bin .geq (T 15) (T 16)⟩,
   D 18 (.pick (T 13) (T 17) (.const (.bool false))),
   D 4 (.mv (T 18))]) (
 .ret)))⟩
theorem stream_checkNet_3_ok : Ok Try.prog 66 stream_checkNet_3 := ⟨by kernel_rfl, by kernel_rfl⟩

/-- (*diorama/num.Int).Mul -/
def num_Int__Mul : AF := ⟨27, [.tmp 6],
 .seq (
  .ops [D 6 (.mv (.const (.pointer none)))]) (
 .trim [6] (
  .draw [⟨0, 0, 0, D 7 (.mv (T 0))⟩,
   ⟨1, 0, 0, D 8 (.mv (T 1))⟩,
   ⟨2, 0, 2, D 9 (.nil (T 8))⟩,
   ⟨3, 0, 6, D 10 (.fa 0 (T 9))⟩,
   ⟨4, 1, 14, D 11 (.ld1 (T 10))⟩,
   ⟨5, 0, 0, D 12 (.mv (T 2))⟩,
   ⟨6, 0, 32, D 13 (.nil (T 12))⟩,
   ⟨7, 0, 96, D 14 (.fa 0 (T 13))⟩,
   ⟨8, 1, 224, D 15 (.ld1 (T 14))⟩,
   ⟨9, 0, 510, D 16 (.beq true (T 11) (T 15))⟩,
   ⟨10, 0, 0, D 17 (.mv (T 1))⟩,
   ⟨11, 0, 1024, D 18 (.nil (T 17))⟩,
   ⟨12, 0, 3072, D 19 (.fa 1 (T 18))⟩,
   ⟨13, 1, 7168, D 20 (.ld1 (T 19))⟩,
   ⟨14, 0, 0, D 21 (.mv (T 2))⟩,
   ⟨15, 0, 16384, D 22 (.nil (T 21))⟩,
   ⟨16, 0, 49152, D 23 (.fa 1 (T 22))⟩,
   ⟨17, 1, 114688, D 24 (.ld1 (T 23))⟩,
   ⟨18, 4, 261120, D 25 (.call 107 [(T 20), (T 24)])⟩,
   ⟨19, 4, 524287, D 26 (.call 106 [(T 7), (T 16), (T 25)])⟩,
   ⟨20, 0, 1048575, D 6 (.mv (T 26))⟩]) (
 .ret))⟩
theorem num_Int__Mul_ok : Ok Try.prog 67 num_Int__Mul := ⟨by kernel_rfl, by kernel_rfl⟩

/-- diorama/num.NewInt -/
def num_NewInt : AF := ⟨6, [.tmp 2],
 .seq (
  .ops [D 2 (.mv (.const (.pointer none)))]) (
 .seq (
  .ops [D 3 (.alloc [(.bool false), (.slice none 0 0)]),
   D 4 (.mv (T 0)),
   D 5 (.call 108 [(T 3), (T 4)]),
   D 2 (.mv (T 5))]) (
 .ret))⟩
theorem num_NewInt_ok : Ok Try.prog 68 num_NewInt := ⟨by kernel_rfl, by kernel_rfl⟩

/-- (*diorama/num.Int).QuoRem -/
def num_Int__QuoRem : AF := ⟨48, [.tmp 8, .tmp 9],
 .seq (
  .ops [D 8 (.mv (.const (.pointer none))),
   D 9 (.mv (.const (.pointer none)))]) (
 .trim [0, 1, 2, 3, 10, 11] (
  .draw [⟨0, 0, 0, D 14 (.mv (T 1))⟩,
   ⟨1, 0, 1, D 15 (.nil (T 14))⟩,
   ⟨2, 0, 3, D 16 (.fa 0 (T 15))⟩,
   ⟨3, 1, 7, D 17 (.ld1 (T 16))⟩,
   ⟨4, 0, 0, D 18 (.mv (T 2))⟩,
   ⟨5, 0, 16, D 19 (.nil (T 18))⟩,
   ⟨6, 0, 48, D 20 (.fa 0 (T 19))⟩,
   ⟨7, 1, 112, D 21 (.ld1 (T 20))⟩,
   ⟨8, 0, 255, D 22 (.beq true (T 17) (T 21))⟩,
   ⟨9, 0, 0, D 23 (.mv (T 1))⟩,
   ⟨10, 0, 512, D 24 (.nil (T 23))⟩,
   ⟨11, 0, 1536, D 25 (.fa 0 (T 24))⟩,
   ⟨12, 1, 3584, D 26 (.ld1 (T 25))⟩,
   ⟨13, 0, 511, D 10 (.mv (T 22))⟩,
   ⟨14, 0, 16383, D 11 (.mv (T 26))⟩]) (
 .trim [0, 3, 10, 11, 12, 13] (
  .draw [⟨0, 0, 0, D 28 (.mv (T 1))⟩,
   ⟨1, 0, 1, D 29 (.nil (T 28))⟩,
   ⟨2, 0, 3, D 30 (.fa 1 (T 29))⟩,
   ⟨3, 1, 7, D 31 (.ld1 (T 30))⟩,
   ⟨4, 0, 0, D 32 (.mv (T 2))⟩,
   ⟨5, 0, 16, D 33 (.nil (T 32))⟩,
   ⟨6, 0, 48, D 34 (.fa 1 (T 33))⟩,
   ⟨7, 1, 112, D 35 (.ld1 (T 34))⟩,
   ⟨8, 4, 255, D 36 (.call 109 [(T 31), (T 35)])⟩,
   ⟨9, 0, 511, D 27 (.mv (T 36))⟩,
   ⟨10, 0, 1023, D 37 (.ext (T 27) 0)⟩,
   ⟨11, 0, 1023, D 38 (.ext (T 27) 1)⟩,
   ⟨12, 0, 2047, D 12 (.mv (T 37))⟩,
   ⟨13, 0, 8191, D 13 (.mv (T 38))⟩]) (
 .seq (
  .ops [D 39 (.mv (T 3)),
   D 40 (.mv (T 11)),
   D 41 (.mv (T 13)),
   D 42 (.call 106 [(T 39), (T 40), (T 41)])]) (
 .trim [8, 9] (
  .ops [D 43 (.mv (T 0)),
   D 44 (.mv (T 10)),
   D 45 (.mv (T 12)),
   D 46 (.call 106 [(T 43), (T 44), (T 45)]),
   D 47 (.mv (T 3)),
   D 8 (.mv (T 46)),
   D 9 (.mv (T 47))]) (
 .ret)))))⟩
theorem num_Int__QuoRem_ok : Ok Try.prog 69 num_Int__QuoRem := ⟨by kernel_rfl, by kernel_rfl⟩

/-- (*diorama/num.Int).Sign -/
def num_Int__Sign : AF := ⟨15, [.tmp 2],
 .seq (
  .ops [D 2 (.mv (I 0))]) (
 .trim [] (
  .block 0 (
   .trim [0, 3] (
    .ops [D 4 (.mv (T 0)),
     D 5 (.nil (T 4)),
     D 6 (.fa 1 (T 5)),
     D 7 (.ld1 (T 6)),
     D 8 (.len (T 7)),
     D 9 (.bin .eql (T 8) (I 0)),
     D 3 (.mv (T 9))]) (
   .cond (T 3) (
    .seq (
     .ops [D 2 (.mv (I 0))]) (
    .ret)) (
    .seq (
     .ops [D 11 (.mv (T 0)),
      D 12 (.nil (T 11)),
      D 13 (.fa 0 (T 12)),
      D 14 (.ld1 (T 13)),
      D 10 (.mv (T 14))]) (
    .cond (T 10) (
     .seq (
      .ops [D 2 (.mv (I (-1)))]) (
     .ret)) (
     .skip)))))) (
 .seq (
  .ops [D 2 (.mv (I 1))]) (
 .ret)))⟩
theorem num_Int__Sign_ok : Ok Try.prog 70 num_Int__Sign := ⟨by kernel_rfl, by kernel_rfl⟩

/-- (*diorama/num.Int).Add -/
def num_Int__Add : AF := ⟨71, [.tmp 6],
 .seq (
  .ops [D 6 (.mv (.const (.pointer none)))]) (
 .trim [0, 1, 2] (
  .trim [0, 1, 2, 15] (
   .draw [⟨0, 0, 0, D 7 (.mv (T 1))⟩,
    ⟨1, 0, 1, D 8 (.nil (T 7))⟩,
    ⟨2, 0, 3, D 9 (.fa 0 (T 8))⟩,
    ⟨3, 1, 7, D 10 (.ld1 (T 9))⟩,
    ⟨4, 0, 0, D 11 (.mv (T 2))⟩,
    ⟨5, 0, 16, D 12 (.nil (T 11))⟩,
    ⟨6, 0, 48, D 13 (.fa 0 (T 12))⟩,
    ⟨7, 1, 112, D 14 (.ld1 (T 13))⟩,
    ⟨8, 0, 255, D 15 (.beq false (T 10) (T 14))⟩]) (
  .cond (T 15) (
   .trim [6] (
    .draw [⟨0, 0, 0, D 16 (.mv (T 0))⟩,
     ⟨1, 0, 0, D 17 (.mv (T 1))⟩,
     ⟨2, 0, 2, D 18 (.nil (T 17))⟩,
     ⟨3, 0, 6, D 19 (.fa 0 (T 18))⟩,
     ⟨4, 1, 14, D 20 (.ld1 (T 19))⟩,
     ⟨5, 0, 0, D 21 (.mv (T 1))⟩,
     ⟨6, 0, 32, D 22 (.nil (T 21))⟩,
     ⟨7, 0, 96, D 23 (.fa 1 (T 22))⟩,
     ⟨8, 1, 224, D 24 (.ld1 (T 23))⟩,
     ⟨9, 0, 0, D 25 (.mv (T 2))⟩,
     ⟨10, 0, 512, D 26 (.nil (T 25))⟩,
     ⟨11, 0, 1536, D 27 (.fa 1 (T 26))⟩,
     ⟨12, 1, 3584, D 28 (.ld1 (T 27))⟩,
     ⟨13, 4, 8160, D 29 (.call 110 [(T 24), (T 28)])⟩,
     ⟨14, 4, 16383, D 30 (.call 106 [(T 16), (T 20), (T 29)])⟩,
     ⟨15, 0, 32767, D 6 (.mv (T 30))⟩]) (
   .ret)) (
   .skip))) (
 .trim [0, 1, 2] (
  .trim [0, 1, 2, 40] (
   .draw [⟨0, 0, 0, D 31 (.mv (T 1))⟩,
    ⟨1, 0, 1, D 32 (.nil (T 31))⟩,
    ⟨2, 0, 3, D 33 (.fa 1 (T 32))⟩,
    ⟨3, 1, 7, D 34 (.ld1 (T 33))⟩,
    ⟨4, 0, 0, D 35 (.mv (T 2))⟩,
    ⟨5, 0, 16, D 36 (.nil (T 35))⟩,
    ⟨6, 0, 48, D 37 (.fa 1 (T 36))⟩,
    ⟨7, 1, 112, D 38 (.ld1 (T 37))⟩,
    ⟨8, 4, 255, D 39 (.call 111 [(T 34), (T 38)])⟩,
    ⟨9, 0, 511, D 40 (.bin .geq (T 39) (I 0))⟩]) (
  .cond (T 40) (
   .trim [6] (
    .draw [⟨0, 0, 0, D 41 (.mv (T 0))⟩,
     ⟨1, 0, 0, D 42 (.mv (T 1))⟩,
     ⟨2, 0, 2, D 43 (.nil (T 42))⟩,
     ⟨3, 0, 6, D 44 (.fa 0 (T 43))⟩,
     ⟨4, 1, 14, D 45 (.ld1 (T 44))⟩,
     ⟨5, 0, 0, D 46 (.mv (T 1))⟩,
     ⟨6, 0, 32, D 47 (.nil (T 46))⟩,
     ⟨7, 0, 96, D 48 (.fa 1 (T 47))⟩,
     ⟨8, 1, 224, D 49 (.ld1 (T 48))⟩,
     ⟨9, 0, 0, D 50 (.mv (T 2))⟩,
     ⟨10, 0, 512, D 51 (.nil (T 50))⟩,
     ⟨11, 0, 1536, D 52 (.fa 1 (T 51))⟩,
     ⟨12, 1, 3584, D 53 (.ld1 (T 52))⟩,
     ⟨13, 4, 8160, D 54 (.call 112 [(T 49), (T 53)])⟩,
     ⟨14, 4, 16383, D 55 (.call 106 [(T 41), (T 45), (T 54)])⟩,
     ⟨15, 0, 32767, D 6 (.mv (T 55))⟩]) (
   .ret)) (
   .skip))) (
 .trim [6] (
  .draw [⟨0, 0, 0, D 56 (.mv (T 0))⟩,
   ⟨1, 0, 0, D 57 (.mv (T 2))⟩,
   ⟨2, 0, 2, D 58 (.nil (T 57))⟩,
   ⟨3, 0, 6, D 59 (.fa 0 (T 58))⟩,
   ⟨4, 1, 14, D 60 (.ld1 (T 59))⟩,
   ⟨5, 0, 0, D 61 (.mv (T 2))⟩,
   ⟨6, 0, 32, D 62 (.nil (T 61))⟩,
   ⟨7, 0, 96, D 63 (.fa 1 (T 62))⟩,
   ⟨8, 1, 224, D 64 (.ld1 (T 63))⟩,
   ⟨9, 0, 0, D 65 (.mv (T 1))⟩,
   ⟨10, 0, 512, D 66 (.nil (T 65))⟩,
   ⟨11, 0, 1536, D 67 (.fa 1 (T 66))⟩,
   ⟨12, 1, 3584, D 68 (.ld1 (T 67))⟩,
   ⟨13, 4, 8160, D 69 (.call 112 [(T 64), (T 68)])⟩,
   ⟨14, 4, 16383, D 70 (.call 106 [(T 56), (T 60), (T 69)])⟩,
   ⟨15, 0, 32767, D 6 (.mv (T 70))⟩]) (
 .ret))))⟩
theorem num_Int__Add_ok : Ok Try.prog 72 num_Int__Add := ⟨by kernel_rfl, by kernel_rfl⟩

/-- (*diorama/num.Int).Cmp -/
def num_Int__Cmp : AF := ⟨41, [.tmp 4],
 .seq (
  .ops [D 4 (.mv (I 0))]) (
 .trim [0, 1] (
  .block 0 (
   .trim [0, 1, 5] (
    .ops [D 6 (.mv (T 0)),
     D 7 (.nil (T 6)),
     D 8 (.fa 0 (T 7)),
     D 9 (.ld1 (T 8)),
     D 10 (.mv (T 9)),
     ⟨(some 11), some (10, true), .mv (T 1)⟩,
     ⟨(some 12), some (10, true), .nil (T 11)⟩,
     ⟨(some 13), some (10, true), .fa 0 (T 12)⟩,
     ⟨(some 14), some (10, true), .ld1 (T 13)⟩,
     ⟨(some 15), some (10, true), .un .not (T 14)⟩,
     D 16 (.pick (T 10) (T 15) (.const (.bool false))),
     D 5 (.mv (T 16))]) (
   .cond (T 5) (
    .seq (
     .ops [D 4 (.mv (I (-1)))]) (
    .ret)) (
    .trim [0, 1, 17] (
     .ops [D 18 (.mv (T 0)),
      D 19 (.nil (T 18)),
      D 20 (.fa 0 (T 19)),
      D 21 (.ld1 (T 20)),
      D 22 (.un .not (T 21)),
      D 23 (.mv (T 22)),
      ⟨(some 24), some (23, true), .mv (T 1)⟩,
      ⟨(some 25), some (23, true), .nil (T 24)⟩,
      ⟨(some 26), some (23, true), .fa 0 (T 25)⟩,
      ⟨(some 27), some (23, true), .ld1 (T 26)⟩,
      D 28 (.pick (T 23) (T 27) (.const (.bool false))),
      D 17 (.mv (T 28))]) (
    .cond (T 17) (
     .seq (
      .ops [D 4 (.mv (I 1))]) (
     .ret)) (
     .seq (
      .ops [D 30 (.mv (T 0)),
       D 31 (.nil (T 30)),
       D 32 (.fa 0 (T 31)),
       D 33 (.ld1 (T 32)),
       D 29 (.mv (T 33))]) (
     .cond (T 29) (
      .seq (
       .ops [D 34 (.mv (T 0)),
        D 35 (.mv (T 1)),
        D 36 (.call 113 [(T 34), (T 35)]),
        D 37 (.un .neg (T 36)),
        D 4 (.mv (T 37))]) (
      .ret)) (
      .skip)))))))) (
 .seq (
  .ops [D 38 (.mv (T 0)),
   D 39 (.mv (T 1)),
   D 40 (.call 113 [(T 38), (T 39)]),
   D 4 (.mv (T 40))]) (
 .ret)))⟩
theorem num_Int__Cmp_ok : Ok Try.prog 74 num_Int__Cmp := ⟨by kernel_rfl, by kernel_rfl⟩

/-- (*diorama/num.Rat).SetFrac -/
def num_Rat__SetFrac : AF := ⟨75, [.tmp 6],
 .seq (
  .ops [D 6 (.mv (.const (.pointer none)))]) (
 .trim [0, 1, 2, 7, 8] (
  .draw [⟨0, 0, 0, D 16 (.mv (T 1))⟩,
   ⟨1, 0, 1, D 17 (.nil (T 16))⟩,
   ⟨2, 0, 3, D 18 (.fa 1 (T 17))⟩,
   ⟨3, 1, 7, D 19 (.ld1 (T 18))⟩,
   ⟨5, 0, 0, D 21 (.mv (T 2))⟩,
   ⟨6, 0, 32, D 22 (.nil (T 21))⟩,
   ⟨7, 0, 96, D 23 (.fa 1 (T 22))⟩,
   ⟨8, 1, 224, D 24 (.ld1 (T 23))⟩,
   ⟨4, 4, 15, D 20 (.call 114 [(T 19)])⟩,
   ⟨9, 0, 31, D 7 (.mv (T 20))⟩,
   ⟨10, 0, 1023, D 8 (.mv (T 24))⟩]) (
 .trim [0, 1, 2, 7] (
  .block 0 (
   .loop [0, 1, 2, 7, 8] (
    .seq (
     .seq (
      .ops [D 25 (.mv (T 8)),
       D 26 (.len (T 25)),
       D 27 (.bin .gtr (T 26) (I 0))]) (
     .cond (T 27) (
      .skip) (
      .exit 0))) (
    .block 1 (
     .trim [0, 1, 2, 8, 10] (
      .ops [D 29 (.mv (T 7)),
       D 30 (.mv (T 8)),
       D 31 (.call 109 [(T 29), (T 30)]),
       D 28 (.mv (T 31)),
       D 32 (.ext (T 28) 0),
       D 33 (.ext (T 28) 1),
       D 9 (.mv (T 32)),
       D 10 (.mv (T 33))]) (
     .ops [D 34 (.mv (T 8)),
      D 35 (.mv (T 10)),
      D 7 (.mv (T 34)),
      D 8 (.mv (T 35))])))))) (
 .trim [0, 1, 2, 7, 11] (
  .ops [D 37 (.mv (T 1)),
   D 38 (.nil (T 37)),
   D 39 (.fa 1 (T 38)),
   D 40 (.ld1 (T 39)),
   D 41 (.mv (T 7)),
   D 42 (.call 109 [(T 40), (T 41)]),
   D 36 (.mv (T 42)),
   D 43 (.ext (T 36) 0),
   D 44 (.ext (T 36) 1),
   D 11 (.mv (T 43)),
   D 12 (.mv (T 44))]) (
 .trim [0, 1, 2, 11, 13] (
  .ops [D 46 (.mv (T 2)),
   D 47 (.nil (T 46)),
   D 48 (.fa 1 (T 47)),
   D 49 (.ld1 (T 48)),
   D 50 (.mv (T 7)),
   D 51 (.call 109 [(T 49), (T 50)]),
   D 45 (.mv (T 51)),
   D 52 (.ext (T 45) 0),
   D 53 (.ext (T 45) 1),
   D 13 (.mv (T 52)),
   D 14 (.mv (T 53))]) (
 .trim [0, 11, 13, 15] (
  .draw [⟨0, 0, 0, D 54 (.mv (T 1))⟩,
   ⟨1, 0, 1, D 55 (.nil (T 54))⟩,
   ⟨2, 0, 3, D 56 (.fa 0 (T 55))⟩,
   ⟨3, 1, 7, D 57 (.ld1 (T 56))⟩,
   ⟨4, 0, 0, D 58 (.mv (T 2))⟩,
   ⟨5, 0, 16, D 59 (.nil (T 58))⟩,
   ⟨6, 0, 48, D 60 (.fa 0 (T 59))⟩,
   ⟨7, 1, 112, D 61 (.ld1 (T 60))⟩,
   ⟨8, 0, 255, D 62 (.beq true (T 57) (T 61))⟩,
   ⟨9, 0, 511, D 15 (.mv (T 62))⟩]) (
 .trim [0, 13] (
  .ops [D 63 (.mv (T 0)),
   D 64 (.nil (T 63)),
   D 65 (.fa 0 (T 64)),
   D 66 (.mv (T 15)),
   D 67 (.mv (T 11)),
   D 68 (.call 106 [(T 65), (T 66), (T 67)])]) (
 .trim [0] (
  .ops [D 69 (.mv (T 0)),
   D 70 (.nil (T 69)),
   D 71 (.fa 2 (T 70)),
   D 72 (.mv (T 13)),
   D 73 (.call 106 [(T 71), (.const (.bool false)), (T 72)])]) (
 .seq (
  .ops [D 74 (.mv (T 0)),
   D 6 (.mv (T 74))]) (
 .ret)))))))))⟩
theorem num_Rat__SetFrac_ok : Ok Try.prog 76 num_Rat__SetFrac := ⟨by kernel_rfl, by kernel_rfl⟩

/-- (*diorama/num.Rat).Num -/
def num_Rat__Num : AF := ⟨6, [.tmp 2],
 .seq (
  .ops [D 2 (.mv (.const (.pointer none)))]) (
 .seq (
  .ops [D 3 (.mv (T 0)),
   D 4 (.nil (T 3)),
   D 5 (.fa 0 (T 4)),
   D 2 (.mv (T 5))]) (
 .ret))⟩
theorem num_Rat__Num_ok : Ok Try.prog 77 num_Rat__Num := ⟨by kernel_rfl, by kernel_rfl⟩

/-- (*diorama/num.Int).IsInt64 -/
def num_Int__IsInt64 : AF := ⟨24, [.tmp 2],
 .seq (
  .ops [D 2 (.mv (.const (.bool false)))]) (
 .trim [0] (
  .trim [0, 9] (
   .ops [D 4 (.mv (T 0)),
    D 5 (.nil (T 4)),
    D 6 (.fa 1 (T 5)),
    D 7 (.ld1 (T 6)),
    D 8 (.len (T 7)),
    D 9 (.bin .gtr (T 8) (I 2))]) (
  .cond (T 9) (
   .seq (
    .ops [D 2 (.mv (.const (.bool false)))]) (
   .ret)) (
   .skip))) (
 .seq (
  .ops [D 10 (.mv (T 0)),
   D 11 (.call 115 [(T 10)]),
   D 3 (.mv (T 11))]) (
 .trim [2] (
  .ops [D 12 (.mv (T 3)),
   D 13 (.bin .lss (T 12) (.const (.int .u64 9223372036854775808))),
   D 14 (.mv (T 13)),
   ⟨(some 15), some (14, false), .mv (T 0)⟩,
   ⟨(some 16), some (14, false), .nil (T 15)⟩,
   ⟨(some 17), some (14, false), .fa 0 (T 16)⟩,
   ⟨(some 18), some (14, false), .ld1 (T 17)⟩,
   ⟨(some 19), some (14, false), .mv (T 18)⟩,
   ⟨(some 20), some (19, true), .mv (T 3)⟩,
   ⟨(some 21), some (19, true), .bin .eql (T 20) (.const (.int .u64 9223372036854775808))⟩,
   ⟨(some 22), some (14, false), .pick (T 19) (T 21) (.const (.bool false))⟩,
   D 23 (.pick (T 14) (.const (.bool true)) (T 22)),
   D 2 (.mv (T 23))]) (
 .ret))))⟩
theorem num_Int__IsInt64_ok : Ok Try.prog 78 num_Int__IsInt64 := ⟨by kernel_rfl, by kernel_rfl⟩

/-- (*diorama/num.Int).Int64 -/
def num_Int__Int64 : AF := ⟨14, [.tmp 2],
 .seq (
  .ops [D 2 (.mv (I 0))]) (
 .trim [0] (
  .seq (
   .ops [D 3 (.mv (T 0)),
    D 4 (.nil (T 3)),
    D 5 (.fa 0 (T 4)),
    D 6 (.ld1 (T 5))]) (
  .cond (T 6) (
   .seq (
    .ops [D 7 (.mv (T 0)),
     D 8 (.call 115 [(T 7)]),
     D 9 (.cvi .i64 (T 8)),
     D 10 (.un .neg (T 9)),
     D 2 (.mv (T 10))]) (
   .ret)) (
   .skip))) (
 .seq (
  .ops [D 11 (.mv (T 0)),
   D 12 (.call 115 [(T 11)]),
   D 13 (.cvi .i64 (T 12)),
   D 2 (.mv (T 13))]) (
 .ret)))⟩
theorem num_Int__Int64_ok : Ok Try.prog 79 num_Int__Int64 := ⟨by kernel_rfl, by kernel_rfl⟩

/-- (*diorama/num.Rat).Denom -/
def num_Rat__Denom : AF := ⟨5, [.tmp 2],
 .seq (
  .ops [D 2 (.mv (.const (.pointer none)))]) (
 .seq (
  .ops [D 3 (.mv (T 0)),
   D 4 (.call 116 [(T 3)]),
   D 2 (.mv (T 4))]) (
 .ret))⟩
theorem num_Rat__Denom_ok : Ok Try.prog 80 num_Rat__Denom := ⟨by kernel_rfl, by kernel_rfl⟩

/-- diorama/dioramaref00.IsWhole -/
def dioramaref00_IsWhole : AF := ⟨8, [.tmp 2],
 .seq (
  .ops [D 1 (.box (T 0)),
   D 2 (.mv (.const (.bool false)))]) (
 .trim [2] (
  .draw [⟨0, 0, 0, D 3 (.fa 2 (T 1))⟩,
   ⟨1, 1, 1, D 4 (.ldN 2 (T 3))⟩,
   ⟨2, 4, 0, D 5 (.call 92 [(I 1)])⟩,
   ⟨3, 4, 7, D 6 (.call 46 [(T 4), (T 5)])⟩,
   ⟨4, 0, 15, D 7 (.bin .eql (T 6) (I 0))⟩,
   ⟨5, 0, 31, D 2 (.mv (T 7))⟩]) (
 .ret))⟩
theorem dioramaref00_IsWhole_ok : Ok Try.prog 81 dioramaref00_IsWhole := ⟨by kernel_rfl, by kernel_rfl⟩

/-- diorama/dioramaref00.MulF -/
def dioramaref00_MulF : AF := ⟨17, [.cellN 4 4],
 .seq (
  .ops [D 2 (.box (T 0)),
   D 3 (.box (T 1)),
   D 4 (.alloc [(.bool false), (.slice none 0 0), (.bool false), (.slice none 0 0)])]) (
 .trim [4] (
  .draw [⟨0, 0, 0, D 5 (.fa 0 (T 2))⟩,
   ⟨1, 1, 1, D 6 (.ldN 2 (T 5))⟩,
   ⟨2, 0, 0, D 7 (.fa 0 (T 3))⟩,
   ⟨3, 1, 4, D 8 (.ldN 2 (T 7))⟩,
   ⟨5, 0, 0, D 10 (.fa 2 (T 2))⟩,
   ⟨6, 1, 32, D 11 (.ldN 2 (T 10))⟩,
   ⟨7, 0, 0, D 12 (.fa 2 (T 3))⟩,
   ⟨8, 1, 128, D 13 (.ldN 2 (T 12))⟩,
   ⟨4, 4, 15, D 9 (.call 47 [(T 6), (T 8)])⟩,
   ⟨9, 4, 511, D 14 (.call 47 [(T 11), (T 13)])⟩,
   ⟨10, 0, 1023, D 15 (.build [(.bool false), (.slice none 0 0), (.bool false), (.slice none 0 0)] [(0, 2, (T 9)), (2, 2, (T 14))])⟩,
   ⟨11, 4, 2047, D 16 (.call 91 [(T 15)])⟩,
   ⟨12, 4, 4095, E (.st 4 (T 4) (T 16))⟩]) (
 .ret))⟩
theorem dioramaref00_MulF_ok : Ok Try.prog 82 dioramaref00_MulF := ⟨by kernel_rfl, by kernel_rfl⟩

/-- diorama/dioramaref27.million -/
def dioramaref27_million : AF := ⟨2, [.cellN 4 0],
 .seq (
  .ops [D 0 (.alloc [(.bool false), (.slice none 0 0), (.bool false), (.slice none 0 0)])]) (
 .seq (
  .ops [D 1 (.call 48 [(I 1000000), (I 1)]),
   E (.st 4 (T 0) (T 1))]) (
 .ret))⟩
theorem dioramaref27_million_ok : Ok Try.prog 83 dioramaref27_million := ⟨by kernel_rfl, by kernel_rfl⟩

/-- diorama/dioramaref00.AddF -/
def dioramaref00_AddF : AF := ⟨23, [.cellN 4 4],
 .seq (
  .ops [D 2 (.box (T 0)),
   D 3 (.box (T 1)),
   D 4 (.alloc [(.bool false), (.slice none 0 0), (.bool false), (.slice none 0 0)])]) (
 .trim [4] (
  .draw [⟨0, 0, 0, D 5 (.fa 0 (T 2))⟩,
   ⟨1, 1, 1, D 6 (.ldN 2 (T 5))⟩,
   ⟨2, 0, 0, D 7 (.fa 2 (T 3))⟩,
   ⟨3, 1, 4, D 8 (.ldN 2 (T 7))⟩,
   ⟨5, 0, 0, D 10 (.fa 0 (T 3))⟩,
   ⟨6, 1, 32, D 11 (.ldN 2 (T 10))⟩,
   ⟨7, 0, 0, D 12 (.fa 2 (T 2))⟩,
   ⟨8, 1, 128, D 13 (.ldN 2 (T 12))⟩,
   ⟨11, 0, 0, D 16 (.fa 2 (T 2))⟩,
   ⟨12, 1, 2048, D 17 (.ldN 2 (T 16))⟩,
   ⟨13, 0, 0, D 18 (.fa 2 (T 3))⟩,
   ⟨14, 1, 8192, D 19 (.ldN 2 (T 18))⟩,
   ⟨4, 4, 15, D 9 (.call 47 [(T 6), (T 8)])⟩,
   ⟨9, 4, 511, D 14 (.call 47 [(T 11), (T 13)])⟩,
   ⟨10, 4, 1023, D 15 (.call 117 [(T 9), (T 14)])⟩,
   ⟨15, 4, 32767, D 20 (.call 47 [(T 17), (T 19)])⟩,
   ⟨16, 0, 65535, D 21 (.build [(.bool false), (.slice none 0 0), (.bool false), (.slice none 0 0)] [(0, 2, (T 15)), (2, 2, (T 20))])⟩,
   ⟨17, 4, 131071, D 22 (.call 91 [(T 21)])⟩,
   ⟨18, 4, 262143, E (.st 4 (T 4) (T 22))⟩]) (
 .ret))⟩
theorem dioramaref00_AddF_ok : Ok Try.prog 84 dioramaref00_AddF := ⟨by kernel_rfl, by kernel_rfl⟩

/-- diorama/dioramaref27.up -/
def dioramaref27_up : AF := ⟨13, [.cellN 4 2],
 .seq (
  .ops [D 1 (.box (T 0)),
   D 2 (.alloc [(.bool false), (.slice none 0 0), (.bool false), (.slice none 0 0)])]) (
 .seq (
  .draw [⟨0, 1, 0, D 4 (.ldN 4 (T 1))⟩,
   ⟨1, 4, 0, D 5 (.call 83 [])⟩,
   ⟨2, 4, 3, D 6 (.call 82 [(T 4), (T 5)])⟩,
   ⟨3, 4, 7, D 7 (.call 118 [(T 6)])⟩,
   ⟨4, 3, 0, D 3 (.alloc [(.bool false), (.slice none 0 0)])⟩,
   ⟨5, 4, 31, E (.st 2 (T 3) (T 7))⟩]) (
 .trim [2] (
  .draw [⟨0, 1, 0, D 8 (.ldN 2 (T 3))⟩,
   ⟨1, 4, 0, D 9 (.call 92 [(I 1)])⟩,
   ⟨2, 0, 3, D 10 (.build [(.bool false), (.slice none 0 0), (.bool false), (.slice none 0 0)] [(0, 2, (T 8)), (2, 2, (T 9))])⟩,
   ⟨3, 4, 2, D 11 (.call 83 [])⟩,
   ⟨4, 4, 15, D 12 (.call 86 [(T 10), (T 11)])⟩,
   ⟨5, 4, 31, E (.st 4 (T 2) (T 12))⟩]) (
 .ret)))⟩
theorem dioramaref27_up_ok : Ok Try.prog 85 dioramaref27_up := ⟨by kernel_rfl, by kernel_rfl⟩

/-- diorama/dioramaref00.DivF -/
def dioramaref00_DivF : AF := ⟨17, [.cellN 4 4],
 .seq (
  .ops [D 2 (.box (T 0)),
   D 3 (.box (T 1)),
   D 4 (.alloc [(.bool false), (.slice none 0 0), (.bool false), (.slice none 0 0)])]) (
 .trim [4] (
  .draw [⟨0, 0, 0, D 5 (.fa 0 (T 2))⟩,
   ⟨1, 1, 1, D 6 (.ldN 2 (T 5))⟩,
   ⟨2, 0, 0, D 7 (.fa 2 (T 3))⟩,
   ⟨3, 1, 4, D 8 (.ldN 2 (T 7))⟩,
   ⟨5, 0, 0, D 10 (.fa 2 (T 2))⟩,
   ⟨6, 1, 32, D 11 (.ldN 2 (T 10))⟩,
   ⟨7, 0, 0, D 12 (.fa 0 (T 3))⟩,
   ⟨8, 1, 128, D 13 (.ldN 2 (T 12))⟩,
   ⟨4, 4, 15, D 9 (.call 47 [(T 6), (T 8)])⟩,
   ⟨9, 4, 511, D 14 (.call 47 [(T 11), (T 13)])⟩,
   ⟨10, 0, 1023, D 15 (.build [(.bool false), (.slice none 0 0), (.bool false), (.slice none 0 0)] [(0, 2, (T 9)), (2, 2, (T 14))])⟩,
   ⟨11, 4, 2047, D 16 (.call 91 [(T 15)])⟩,
   ⟨12, 4, 4095, E (.st 4 (T 4) (T 16))⟩]) (
 .ret))⟩
theorem dioramaref00_DivF_ok : Ok Try.prog 86 dioramaref00_DivF := ⟨by kernel_rfl, by kernel_rfl⟩

/-- diorama/dioramaref00.Int -/
def dioramaref00_Int : AF := ⟨31, [.tmp 2, .tmp 3],
 .seq (
  .ops [D 1 (.box (T 0)),
   D 2 (.mv (I 0)),
   D 3 (.mv (.const (.bool false)))]) (
 .trim [1] (
  .seq (
   .draw [⟨0, 1, 0, D 6 (.ldN 2 (T 1))⟩,
    ⟨1, 4, 0, D 7 (.call 92 [(I 4611686018427387904)])⟩,
    ⟨2, 4, 3, D 8 (.call 88 [(T 6), (T 7)])⟩,
    ⟨3, 0, 7, D 9 (.bin .gtr (T 8) (I 0))⟩]) (
  .cond (T 9) (
   .seq (
    .ops [D 2 (.mv (I 0)),
     D 3 (.mv (.const (.bool false)))]) (
   .ret)) (
   .skip))) (
 .seq (
  .ops [D 4 (.mv (I 0))]) (
 .trim [1, 4] (
  .seq (
   .ops [D 10 (.fa 1 (T 1)),
    D 11 (.ld1 (T 10)),
    D 12 (.len (T 11)),
    D 13 (.bin .sub (T 12) (I 1)),
    D 5 (.mv (T 13))]) (
  .block 0 (
   .loop [1, 4, 5] (
    .seq (
     .seq (
      .ops [D 14 (.mv (T 5)),
       D 15 (.bin .geq (T 14) (I 0))]) (
     .cond (T 15) (
      .skip) (
      .exit 0))) (
    .trim [1, 4, 5] (
     .block 1 (
      .ops [D 18 (.mv (T 4)),
       D 19 (.bin .mul (T 18) (I 16777216)),
       D 20 (.fa 1 (T 1)),
       D 21 (.ld1 (T 20)),
       D 22 (.mv (T 5)),
       D 23 (.ia 1 (T 21) (T 22)),
       D 24 (.ld1 (T 23)),
       D 25 (.bin .add (T 19) (T 24)),
       D 4 (.mv (T 25))])) (
    .ops [D 16 (.mv (T 5)),
     D 17 (.bin .sub (T 16) (I 1)),
     D 5 (.mv (T 17))])))))) (
 .trim [4] (
  .seq (
   .ops [D 26 (.fa 0 (T 1)),
    D 27 (.ld1 (T 26))]) (
  .cond (T 27) (
   .seq (
    .ops [D 28 (.mv (T 4)),
     D 29 (.un .neg (T 28)),
     D 2 (.mv (T 29)),
     D 3 (.mv (.const (.bool true)))]) (
   .ret)) (
   .skip))) (
 .seq (
  .ops [D 30 (.mv (T 4)),
   D 2 (.mv (T 30)),
   D 3 (.mv (.const (.bool true)))]) (
 .ret))))))⟩
theorem dioramaref00_Int_ok : Ok Try.prog 87 dioramaref00_Int := ⟨by kernel_rfl, by kernel_rfl⟩

/-- diorama/dioramaref00.size -/
def dioramaref00_size : AF := ⟨50, [.tmp 4],
 .seq (
  .ops [D 2 (.box (T 0)),
   D 3 (.box (T 1)),
   D 4 (.mv (I 0))]) (
 .trim [2, 3] (
  .trim [2, 3, 12] (
   .ops [D 6 (.fa 1 (T 2)),
    D 7 (.ld1 (T 6)),
    D 8 (.len (T 7)),
    D 9 (.fa 1 (T 3)),
    D 10 (.ld1 (T 9)),
    D 11 (.len (T 10)),
    D 12 (.bin .neq (T 8) (T 11))]) (
  .cond (T 12) (
   .trim [] (
    .trim [19] (
     .ops [D 13 (.fa 1 (T 2)),
      D 14 (.ld1 (T 13)),
      D 15 (.len (T 14)),
      D 16 (.fa 1 (T 3)),
      D 17 (.ld1 (T 16)),
      D 18 (.len (T 17)),
      D 19 (.bin .lss (T 15) (T 18))]) (
    .cond (T 19) (
     .seq (
      .ops [D 4 (.mv (I (-1)))]) (
     .ret)) (
     .skip))) (
   .seq (
    .ops [D 4 (.mv (I 1))]) (
   .ret))) (
   .skip))) (
 .trim [] (
  .seq (
   .ops [D 20 (.fa 1 (T 2)),
    D 21 (.ld1 (T 20)),
    D 22 (.len (T 21)),
    D 23 (.bin .sub (T 22) (I 1)),
    D 5 (.mv (T 23))]) (
  .block 0 (
   .loop [2, 3, 5] (
    .seq (
     .seq (
      .ops [D 24 (.mv (T 5)),
       D 25 (.bin .geq (T 24) (I 0))]) (
     .cond (T 25) (
      .skip) (
      .exit 0))) (
    .trim [2, 3, 5] (
     .block 1 (
      .trim [2, 3, 5] (
       .trim [2, 3, 5, 38] (
        .draw [⟨0, 0, 0, D 28 (.fa 1 (T 2))⟩,
         ⟨1, 1, 1, D 29 (.ld1 (T 28))⟩,
         ⟨2, 0, 0, D 30 (.mv (T 5))⟩,
         ⟨3, 0, 7, D 31 (.ia 1 (T 29) (T 30))⟩,
         ⟨4, 1, 15, D 32 (.ld1 (T 31))⟩,
         ⟨5, 0, 0, D 33 (.fa 1 (T 3))⟩,
         ⟨6, 1, 32, D 34 (.ld1 (T 33))⟩,
         ⟨7, 0, 0, D 35 (.mv (T 5))⟩,
         ⟨8, 0, 224, D 36 (.ia 1 (T 34) (T 35))⟩,
         ⟨9, 1, 480, D 37 (.ld1 (T 36))⟩,
         ⟨10, 0, 1023, D 38 (.bin .lss (T 32) (T 37))⟩]) (
       .cond (T 38) (
        .seq (
         .ops [D 4 (.mv (I (-1)))]) (
        .ret)) (
        .skip))) (
      .trim [2, 3, 5, 49] (
       .draw [⟨0, 0, 0, D 39 (.fa 1 (T 2))⟩,
        ⟨1, 1, 1, D 40 (.ld1 (T 39))⟩,
        ⟨2, 0, 0, D 41 (.mv (T 5))⟩,
        ⟨3, 0, 7, D 42 (.ia 1 (T 40) (T 41))⟩,
        ⟨4, 1, 15, D 43 (.ld1 (T 42))⟩,
        ⟨5, 0, 0, D 44 (.fa 1 (T 3))⟩,
        ⟨6, 1, 32, D 45 (.ld1 (T 44))⟩,
        ⟨7, 0, 0, D 46 (.mv (T 5))⟩,
        ⟨8, 0, 224, D 47 (.ia 1 (T 45) (T 46))⟩,
        ⟨9, 1, 480, D 48 (.ld1 (T 47))⟩,
        ⟨10, 0, 1023, D 49 (.bin .gtr (T 43) (T 48))⟩]) (
      .cond (T 49) (
       .seq (
        .ops [D 4 (.mv (I 1))]) (
       .ret)) (
       .skip))))) (
    .ops [D 26 (.mv (T 5)),
     D 27 (.bin .sub (T 26) (I 1)),
     D 5 (.mv (T 27))])))))) (
 .seq (
  .ops [D 4 (.mv (I 0))]) (
 .ret))))⟩
theorem dioramaref00_size_ok : Ok Try.prog 88 dioramaref00_size := ⟨by kernel_rfl, by kernel_rfl⟩

/-- diorama/dioramaref00.digit -/
def dioramaref00_digit : AF := ⟨15, [.tmp 4],
 .seq (
  .ops [D 2 (.box (T 0)),
   D 4 (.mv (I 0))]) (
 .trim [] (
  .seq (
   .ops [D 5 (.mv (T 1)),
    D 6 (.fa 1 (T 2)),
    D 7 (.ld1 (T 6)),
    D 8 (.len (T 7)),
    D 9 (.bin .lss (T 5) (T 8))]) (
  .cond (T 9) (
   .trim [4] (
    .ops [D 10 (.fa 1 (T 2)),
     D 11 (.ld1 (T 10)),
     D 12 (.mv (T 1)),
     D 13 (.ia 1 (T 11) (T 12)),
     D 14 (.ld1 (T 13)),
     D 4 (.mv (T 14))]) (
   .ret)) (
   .skip))) (
 .seq (
  .ops [D 4 (.mv (I 0))]) (
 .ret)))⟩
theorem dioramaref00_digit_ok : Ok Try.prog 89 dioramaref00_digit := ⟨by kernel_rfl, by kernel_rfl⟩

/-- diorama/dioramaref00.trim -/
def dioramaref00_trim : AF := ⟨37, [.cellN 2 2],
 .seq (
  .ops [D 1 (.box (T 0)),
   D 2 (.alloc [(.bool false), (.slice none 0 0)])]) (
 .seq (
  .ops [D 5 (.fa 1 (T 1)),
   D 6 (.ld1 (T 5)),
   D 7 (.len (T 6)),
   D 3 (.mv (T 7))]) (
 .trim [1, 2, 3] (
  .block 0 (
   .loop [1, 2, 3] (
    .trim [1, 2, 3] (
     .trim [1, 2, 3, 18] (
      .ops [D 8 (.mv (T 3)),
       D 9 (.bin .gtr (T 8) (I 0)),
       D 10 (.mv (T 9)),
       ⟨(some 11), some (10, true), .fa 1 (T 1)⟩,
       ⟨(some 12), some (10, true), .ld1 (T 11)⟩,
       ⟨(some 13), some (10, true), .mv (T 3)⟩,
       ⟨(some 14), some (10, true), .bin .sub (T 13) (I 1)⟩,
       ⟨(some 15), some (10, true), .ia 1 (T 12) (T 14)⟩,
       ⟨(some 16), some (10, true), .ld1 (T 15)⟩,
       ⟨(some 17), some (10, true), .bin .eql (T 16) (I 0)⟩,
       D 18 (.pick (T 10) (T 17) (.const (.bool false)))]) (
     .cond (T 18) (
      .skip) (
      .exit 0))) (
    .block 1 (
     .ops [D 19 (.mv (T 3)),
      D 20 (.bin .sub (T 19) (I 1)),
      D 3 (.mv (T 20))]))))) (
 .trim [1, 2, 3, 4] (
  .ops [D 21 (.fa 0 (T 1)),
   D 22 (.ld1 (T 21)),
   D 23 (.mv (T 22)),
   ⟨(some 24), some (23, true), .mv (T 3)⟩,
   ⟨(some 25), some (23, true), .bin .gtr (T 24) (I 0)⟩,
   D 26 (.pick (T 23) (T 25) (.const (.bool false))),
   D 27 (.build [(.bool false), (.slice none 0 0)] [(0, 1, (T 26))]),
   D 4 (.alloc [(.bool false), (.slice none 0 0)]),
   E (.st 2 (T 4) (T 27))]) (
 .trim [2, 4] (
  .draw [⟨0, 0, 0, D 28 (.fa 1 (T 4))⟩,
   ⟨1, 1, 1, D 29 (.ld1 (T 28))⟩,
   ⟨2, 0, 0, D 30 (.fa 1 (T 1))⟩,
   ⟨3, 1, 4, D 31 (.ld1 (T 30))⟩,
   ⟨4, 0, 0, D 32 (.mv (T 3))⟩,
   ⟨5, 0, 28, D 33 (.slc 1 (T 31) none (some (T 32)) none)⟩,
   ⟨6, 4, 63, D 34 (.app 1 8 (T 29) (T 33))⟩,
   ⟨7, 0, 127, D 35 (.fa 1 (T 4))⟩,
   ⟨8, 4, 255, E (.st 1 (T 35) (T 34))⟩]) (
 .seq (
  .ops [D 36 (.ldN 2 (T 4)),
   E (.st 2 (T 2) (T 36))]) (
 .ret))))))⟩
theorem dioramaref00_trim_ok : Ok Try.prog 90 dioramaref00_trim := ⟨by kernel_rfl, by kernel_rfl⟩

/-- diorama/dioramaref00.Lowest -/
def dioramaref00_Lowest : AF := ⟨47, [.cellN 4 2],
 .seq (
  .ops [D 1 (.box (T 0)),
   D 2 (.alloc [(.bool false), (.slice none 0 0), (.bool false), (.slice none 0 0)])]) (
 .trim [1, 2] (
  .seq (
   .ops [D 8 (.fa 2 (T 1)),
    D 9 (.fa 0 (T 8)),
    D 10 (.ld1 (T 9))]) (
  .cond (T 10) (
   .draw [⟨0, 0, 0, D 11 (.fa 0 (T 1))⟩,
    ⟨1, 1, 1, D 12 (.ldN 2 (T 11))⟩,
    ⟨3, 0, 0, D 14 (.fa 2 (T 1))⟩,
    ⟨4, 1, 8, D 15 (.ldN 2 (T 14))⟩,
    ⟨2, 4, 3, D 13 (.call 119 [(T 12)])⟩,
    ⟨5, 4, 31, D 16 (.call 119 [(T 15)])⟩,
    ⟨6, 0, 63, D 17 (.build [(.bool false), (.slice none 0 0), (.bool false), (.slice none 0 0)] [(0, 2, (T 13)), (2, 2, (T 16))])⟩,
    ⟨7, 4, 127, E (.st 4 (T 1) (T 17))⟩]) (
   .skip))) (
 .trim [1, 2, 3] (
  .ops [D 18 (.fa 0 (T 1)),
   D 19 (.ldN 2 (T 18)),
   D 20 (.fa 2 (T 1)),
   D 21 (.ldN 2 (T 20)),
   D 22 (.call 120 [(T 19), (T 21)]),
   D 3 (.alloc [(.bool false), (.slice none 0 0)]),
   E (.st 2 (T 3) (T 22))]) (
 .trim [1, 2, 3] (
  .seq (
   .ops [D 23 (.fa 0 (T 1)),
    D 24 (.fa 1 (T 23)),
    D 25 (.ld1 (T 24)),
    D 26 (.len (T 25)),
    D 27 (.bin .eql (T 26) (I 0))]) (
  .cond (T 27) (
   .seq (
    .ops [D 28 (.call 92 [(I 1)]),
     D 29 (.build [(.bool false), (.slice none 0 0), (.bool false), (.slice none 0 0)] [(2, 2, (T 28))]),
     E (.st 4 (T 2) (T 29))]) (
   .ret)) (
   .skip))) (
 .trim [1, 2, 3, 4] (
  .ops [D 31 (.fa 0 (T 1)),
   D 32 (.ldN 2 (T 31)),
   D 33 (.ldN 2 (T 3)),
   D 34 (.call 121 [(T 32), (T 33)]),
   D 30 (.mv (T 34)),
   D 35 (.ext (T 30) 0),
   D 36 (.ext (T 30) 1),
   D 4 (.alloc [(.bool false), (.slice none 0 0)]),
   D 5 (.alloc [(.bool false), (.slice none 0 0)]),
   E (.st 2 (T 4) (T 35)),
   E (.st 2 (T 5) (T 36))]) (
 .trim [2, 4, 6] (
  .ops [D 38 (.fa 2 (T 1)),
   D 39 (.ldN 2 (T 38)),
   D 40 (.ldN 2 (T 3)),
   D 41 (.call 121 [(T 39), (T 40)]),
   D 37 (.mv (T 41)),
   D 42 (.ext (T 37) 0),
   D 43 (.ext (T 37) 1),
   D 6 (.alloc [(.bool false), (.slice none 0 0)]),
   D 7 (.alloc [(.bool false), (.slice none 0 0)]),
   E (.st 2 (T 6) (T 42)),
   E (.st 2 (T 7) (T 43))]) (
 .seq (
  .ops [D 44 (.ldN 2 (T 4)),
   D 45 (.ldN 2 (T 6)),
   D 46 (.build [(.bool false), (.slice none 0 0), (.bool false), (.slice none 0 0)] [(0, 2, (T 44)), (2, 2, (T 45))]),
   E (.st 4 (T 2) (T 46))]) (
 .ret)))))))⟩
theorem dioramaref00_Lowest_ok : Ok Try.prog 91 dioramaref00_Lowest := ⟨by kernel_rfl, by kernel_rfl⟩

/-- diorama/dioramaref00.Of -/
def dioramaref00_Of : AF := ⟨25, [.cellN 2 2],
 .seq (
  .ops [D 2 (.alloc [(.bool false), (.slice none 0 0)])]) (
 .seq (
  .ops [D 3 (.alloc [(.bool false), (.slice none 0 0)])]) (
 .seq (
  .seq (
   .ops [D 5 (.mv (T 0)),
    D 6 (.bin .lss (T 5) (I 0))]) (
  .cond (T 6) (
   .ops [D 7 (.fa 0 (T 3)),
    E (.st 1 (T 7) (.const (.bool true)))]) (
   .skip))) (
 .trim [2, 3] (
  .block 0 (
   .loop [0, 2, 3] (
    .seq (
     .seq (
      .ops [D 8 (.mv (T 0)),
       D 9 (.bin .neq (T 8) (I 0))]) (
     .cond (T 9) (
      .skip) (
      .exit 0))) (
    .block 1 (
     .seq (
      .ops [D 10 (.mv (T 0)),
       D 11 (.bin .rem (T 10) (I 16777216)),
       D 4 (.mv (T 11))]) (
     .seq (
      .seq (
       .ops [D 12 (.mv (T 4)),
        D 13 (.bin .lss (T 12) (I 0))]) (
      .cond (T 13) (
       .ops [D 14 (.mv (T 4)),
        D 15 (.un .neg (T 14)),
        D 4 (.mv (T 15))]) (
       .skip))) (
     .trim [0, 2, 3] (
      .ops [D 16 (.fa 1 (T 3)),
       D 17 (.ld1 (T 16)),
       D 18 (.mv (T 4)),
       D 19 (.bslice [(.int .i64 0)] 1 [(0, 1, (T 18))]),
       D 20 (.app 1 8 (T 17) (T 19)),
       D 21 (.fa 1 (T 3)),
       E (.st 1 (T 21) (T 20))]) (
     .ops [D 22 (.mv (T 0)),
      D 23 (.bin .quo (T 22) (I 16777216)),
      D 0 (.mv (T 23))])))))))) (
 .seq (
  .ops [D 24 (.ldN 2 (T 3)),
   E (.st 2 (T 2) (T 24))]) (
 .ret)))))⟩
theorem dioramaref00_Of_ok : Ok Try.prog 92 dioramaref00_Of := ⟨by kernel_rfl, by kernel_rfl⟩

/-- (*diorama/num.Int).Quo -/
def num_Int__Quo : AF := ⟨18, [.tmp 6],
 .seq (
  .ops [D 6 (.mv (.const (.pointer none)))]) (
 .trim [7] (
  .ops [D 10 (.mv (T 0)),
   D 11 (.mv (T 1)),
   D 12 (.mv (T 2)),
   D 13 (.alloc [(.bool false), (.slice none 0 0)]),
   D 14 (.call 69 [(T 10), (T 11), (T 12), (T 13)]),
   D 9 (.mv (T 14)),
   D 15 (.ext (T 9) 0),
   D 16 (.ext (T 9) 1),
   D 7 (.mv (T 15)),
   D 8 (.mv (T 16))]) (
 .seq (
  .ops [D 17 (.mv (T 7)),
   D 6 (.mv (T 17))]) (
 .ret)))⟩
theorem num_Int__Quo_ok : Ok Try.prog 93 num_Int__Quo := ⟨by kernel_rfl, by kernel_rfl⟩

/-- diorama/dioramaref00.Sub -/
def dioramaref00_Sub : AF := ⟨9, [.cellN 2 4],
 .seq (
  .ops [D 2 (.box (T 0)),
   D 3 (.box (T 1)),
   D 4 (.alloc [(.bool false), (.slice none 0 0)])]) (
 .seq (
  .draw [⟨0, 1, 0, D 5 (.ldN 2 (T 2))⟩,
   ⟨1, 1, 0, D 6 (.ldN 2 (T 3))⟩,
   ⟨2, 4, 2, D 7 (.call 119 [(T 6)])⟩,
   ⟨3, 4, 7, D 8 (.call 117 [(T 5), (T 7)])⟩,
   ⟨4, 4, 15, E (.st 2 (T 4) (T 8))⟩]) (
 .ret))⟩
theorem dioramaref00_Sub_ok : Ok Try.prog 94 dioramaref00_Sub := ⟨by kernel_rfl, by kernel_rfl⟩

/-- diorama/dioramaref00.Floor -/
def dioramaref00_Floor : AF := ⟨14, [.cellN 2 2],
 .seq (
  .ops [D 1 (.box (T 0)),
   D 2 (.alloc [(.bool false), (.slice none 0 0)])]) (
 .trim [2, 3] (
  .ops [D 6 (.fa 0 (T 1)),
   D 7 (.ldN 2 (T 6)),
   D 8 (.fa 2 (T 1)),
   D 9 (.ldN 2 (T 8)),
   D 10 (.call 121 [(T 7), (T 9)]),
   D 5 (.mv (T 10)),
   D 11 (.ext (T 5) 0),
   D 12 (.ext (T 5) 1),
   D 3 (.alloc [(.bool false), (.slice none 0 0)]),
   D 4 (.alloc [(.bool false), (.slice none 0 0)]),
   E (.st 2 (T 3) (T 11)),
   E (.st 2 (T 4) (T 12))]) (
 .seq (
  .ops [D 13 (.ldN 2 (T 3)),
   E (.st 2 (T 2) (T 13))]) (
 .ret)))⟩
theorem dioramaref00_Floor_ok : Ok Try.prog 95 dioramaref00_Floor := ⟨by kernel_rfl, by kernel_rfl⟩

/-- diorama/model.Shown -/
def model_Shown : AF := ⟨25, [.tmp 6, .tmp 7],
 .seq (
  .ops [D 3 (.box (T 0)),
   D 5 (.box (T 2)),
   D 6 (.mv (I 0)),
   D 7 (.mv (I 0))]) (
 .trim [3, 5, 8, 9] (
  .ops [D 11 (.ldN 6 (T 3)),
   D 12 (.mv (T 1)),
   D 13 (.ldN 2 (T 5)),
   D 14 (.call 122 [(T 11), (T 12), (T 13)]),
   D 10 (.mv (T 14)),
   D 15 (.ext (T 10) 0),
   D 16 (.ext (T 10) 1),
   D 8 (.alloc [(.int .i64 0), (.int .i64 0), (.string ⟨#[]⟩), (.int .i64 0), (.slice none 0 0), (.string ⟨#[]⟩), (.string ⟨#[]⟩), (.int .i64 0), (.slice none 0 0), (.slice none 0 0), (.slice none 0 0)]),
   E (.st 11 (T 8) (T 15)),
   D 9 (.mv (T 16))]) (
 .trim [3, 5, 8] (
  .seq (
   .ops [D 17 (.mv (T 9)),
    D 18 (.bin .neq (T 17) (I 0))]) (
  .cond (T 18) (
   .seq (
    .ops [D 19 (.mv (T 9)),
     D 6 (.mv (I 0)),
     D 7 (.mv (T 19))]) (
   .ret)) (
   .skip))) (
 .trim [6, 7] (
  .draw [⟨0, 1, 0, D 20 (.ldN 6 (T 3))⟩,
   ⟨1, 1, 0, D 21 (.ldN 11 (T 8))⟩,
   ⟨2, 1, 0, D 22 (.ldN 2 (T 5))⟩,
   ⟨3, 4, 4, D 23 (.call 124 [(T 22)])⟩,
   ⟨4, 4, 15, D 24 (.call 123 [(T 20), (T 21), (T 23)])⟩,
   ⟨5, 0, 31, D 6 (.mv (T 24))⟩,
   ⟨6, 0, 63, D 7 (.mv (I 0))⟩]) (
 .ret))))⟩
theorem model_Shown_ok : Ok Try.prog 96 model_Shown := ⟨by kernel_rfl, by kernel_rfl⟩

/-- diorama/dioramatop.plainMovie -/
def dioramatop_plainMovie : AF := ⟨7, [.cellN 6 0],
 .seq (
  .ops [D 0 (.alloc [(.int .i64 0), (.string ⟨#[]⟩), (.slice none 0 0), (.slice none 0 0), (.slice none 0 0), (.slice none 0 0)])]) (
 .trim [0] (
  .ops [D 1 (.bslice [(.int .u8 0)] 1 [(0, 1, (.const (.int .u8 7)))]),
   D 2 (.build [(.int .i64 0), (.int .i64 0), (.int .i64 0), (.bool false), (.slice none 0 0), (.slice none 0 0)] [(2, 1, (I 5)), (3, 1, (.const (.bool true))), (5, 1, (T 1))]),
   D 3 (.bslice [(.int .i64 0), (.int .i64 0), (.int .i64 0), (.bool false), (.slice none 0 0), (.slice none 0 0)] 1 [(0, 6, (T 2))]),
   D 4 (.build [(.int .i64 0), (.int .i64 0), (.string ⟨#[]⟩), (.int .i64 0), (.slice none 0 0), (.string ⟨#[]⟩), (.string ⟨#[]⟩), (.int .i64 0), (.slice none 0 0), (.slice none 0 0), (.slice none 0 0)] [(0, 1, (I 1)), (1, 1, (I 7)), (2, 1, (.const (.string ⟨#[100, 97, 116, 97]⟩))), (3, 1, (I 10)), (5, 1, (.const (.string ⟨#[117, 110, 100]⟩))), (10, 1, (T 3))]),
   D 5 (.bslice [(.int .i64 0), (.int .i64 0), (.string ⟨#[]⟩), (.int .i64 0), (.slice none 0 0), (.string ⟨#[]⟩), (.string ⟨#[]⟩), (.int .i64 0), (.slice none 0 0), (.slice none 0 0), (.slice none 0 0)] 1 [(0, 11, (T 4))]),
   D 6 (.build [(.int .i64 0), (.string ⟨#[]⟩), (.slice none 0 0), (.slice none 0 0), (.slice none 0 0), (.slice none 0 0)] [(0, 1, (I 10)), (2, 1, (T 5))]),
   E (.st 6 (T 0) (T 6))]) (
 .ret))⟩
theorem dioramatop_plainMovie_ok : Ok Try.prog 97 dioramatop_plainMovie := ⟨by kernel_rfl, by kernel_rfl⟩

/-- diorama/dioramaref02.Valid -/
def dioramaref02_Valid : AF := ⟨21, [.tmp 2],
 .seq (
  .ops [D 1 (.box (T 0)),
   D 2 (.mv (.const (.bool false)))]) (
 .trim [2] (
  .ops [D 3 (.fa 1 (T 1)),
   D 4 (.ld1 (T 3)),
   D 5 (.bin .geq (T 4) (I 1)),
   D 6 (.mv (T 5)),
   ⟨(some 7), some (6, true), .fa 1 (T 1)⟩,
   ⟨(some 8), some (6, true), .ld1 (T 7)⟩,
   ⟨(some 9), some (6, true), .bin .leq (T 8) (I 1152921504606846976)⟩,
   D 10 (.pick (T 6) (T 9) (.const (.bool false))),
   D 11 (.mv (T 10)),
   ⟨(some 12), some (11, true), .fa 0 (T 1)⟩,
   ⟨(some 13), some (11, true), .ld1 (T 12)⟩,
   ⟨(some 14), some (11, true), .bin .geq (T 13) (I (-1152921504606846976))⟩,
   D 15 (.pick (T 11) (T 14) (.const (.bool false))),
   D 16 (.mv (T 15)),
   ⟨(some 17), some (16, true), .fa 0 (T 1)⟩,
   ⟨(some 18), some (16, true), .ld1 (T 17)⟩,
   ⟨(some 19), some (16, true), .bin .leq (T 18) (I 1152921504606846976)⟩,
   D 20 (.pick (T 16) (T 19) (.const (.bool false))),
   D 2 (.mv (T 20))]) (
 .ret))⟩
theorem dioramaref02_Valid_ok : Ok Try.prog 98 dioramaref02_Valid := ⟨by kernel_rfl, by kernel_rfl⟩

/-- diorama/dioramaref02.RatOf -/
def dioramaref02_RatOf : AF := ⟨13, [.cellN 3 2],
 .seq (
  .ops [D 1 (.box (T 0)),
   D 2 (.alloc [(.bool false), (.slice none 0 0), (.slice none 0 0)])]) (
 .trim [2] (
  .draw [⟨0, 0, 0, D 3 (.fa 0 (T 1))⟩,
   ⟨1, 1, 1, D 4 (.ld1 (T 3))⟩,
   ⟨2, 0, 3, D 5 (.bin .lss (T 4) (I 0))⟩,
   ⟨3, 0, 0, D 6 (.fa 0 (T 1))⟩,
   ⟨4, 1, 8, D 7 (.ld1 (T 6))⟩,
   ⟨6, 0, 0, D 9 (.fa 1 (T 1))⟩,
   ⟨7, 1, 64, D 10 (.ld1 (T 9))⟩,
   ⟨5, 4, 24, D 8 (.call 125 [(T 7)])⟩,
   ⟨8, 4, 248, D 11 (.call 126 [(T 10)])⟩,
   ⟨9, 0, 511, D 12 (.build [(.bool false), (.slice none 0 0), (.slice none 0 0)] [(0, 1, (T 5)), (1, 1, (T 8)), (2, 1, (T 11))])⟩,
   ⟨10, 4, 1023, E (.st 3 (T 2) (T 12))⟩]) (
 .ret))⟩
theorem dioramaref02_RatOf_ok : Ok Try.prog 99 dioramaref02_RatOf := ⟨by kernel_rfl, by kernel_rfl⟩

/-- diorama/dioramaref02.Less -/
def dioramaref02_Less : AF := ⟨24, [.tmp 4],
 .seq (
  .ops [D 2 (.box (T 0)),
   D 3 (.box (T 1)),
   D 4 (.mv (.const (.bool false)))]) (
 .trim [5] (
  .ops [D 6 (.ldN 3 (T 2)),
   D 7 (.fa 0 (T 3)),
   D 8 (.ld1 (T 7)),
   D 9 (.un .not (T 8)),
   D 10 (.fa 1 (T 3)),
   D 11 (.ld1 (T 10)),
   D 12 (.fa 2 (T 3)),
   D 13 (.ld1 (T 12)),
   D 14 (.build [(.bool false), (.slice none 0 0), (.slice none 0 0)] [(0, 1, (T 9)), (1, 1, (T 11)), (2, 1, (T 13))]),
   D 15 (.call 127 [(T 6), (T 14)]),
   D 5 (.alloc [(.bool false), (.slice none 0 0), (.slice none 0 0)]),
   E (.st 3 (T 5) (T 15))]) (
 .trim [4] (
  .ops [D 16 (.fa 0 (T 5)),
   D 17 (.ld1 (T 16)),
   D 18 (.mv (T 17)),
   ⟨(some 19), some (18, true), .fa 1 (T 5)⟩,
   ⟨(some 20), some (18, true), .ld1 (T 19)⟩,
   ⟨(some 21), some (18, true), .len (T 20)⟩,
   ⟨(some 22), some (18, true), .bin .gtr (T 21) (I 0)⟩,
   D 23 (.pick (T 18) (T 22) (.const (.bool false))),
   D 4 (.mv (T 23))]) (
 .ret)))⟩
theorem dioramaref02_Less_ok : Ok Try.prog 100 dioramaref02_Less := ⟨by kernel_rfl, by kernel_rfl⟩

/-- slices.ContainsFunc[[]diorama/api.Time,diorama/api.Time] -/
def slices_ContainsFunc___api_Time_api_Time_ : AF := ⟨9, [.tmp 4],
 .seq (
  .ops [D 4 (.mv (.const (.bool false)))]) (
 .seq (
  .ops [D 5 (.mv (T 0)),
   D 6 (.mv (T 1)),
   D 7 (.call 128 [(T 5), (T 6)]),
   D 8 (.bin .geq (T 7) (I 0)),
   D 4 (.mv (T 8))]) (
 .ret))⟩
theorem slices_ContainsFunc___api_Time_api_Time__ok : Ok Try.prog 101 slices_ContainsFunc___api_Time_api_Time_ := ⟨by kernel_rfl, by kernel_rfl⟩

/-- diorama/exact.valid$1 -/
def exact_valid_1 : AF := ⟨6, [.tmp 2],
 .seq (
  .ops [D 1 (.box (T 0)),
   D 2 (.mv (.const (.bool false)))]) (
 .seq (
  .ops [D 3 (.ldN 2 (T 1)),
   D 4 (.call 35 [(T 3)]),
   D 5 (.un .not (T 4)),
   D 2 (.mv (T 5))]) (
 .ret))⟩
theorem exact_valid_1_ok : Ok Try.prog 102 exact_valid_1 := ⟨by kernel_rfl, by kernel_rfl⟩

/-- diorama/exact.little -/
def exact_little : AF := ⟨6, [.tmp 2],
 .seq (
  .ops [D 2 (.mv (.const (.bool false)))]) (
 .seq (
  .ops [D 3 (.mv (T 0)),
   D 4 (.call 101 [(T 3), (.func 129)]),
   D 5 (.un .not (T 4)),
   D 2 (.mv (T 5))]) (
 .ret))⟩
theorem exact_little_ok : Ok Try.prog 103 exact_little := ⟨by kernel_rfl, by kernel_rfl⟩

/-- diorama/exact.product -/
def exact_product : AF := ⟨11, [.tmp 4],
 .seq (
  .ops [D 4 (.mv (.const (.pointer none)))]) (
 .trim [4] (
  .ops [D 5 (.alloc [(.bool false), (.slice none 0 0)]),
   D 6 (.mv (T 0)),
   D 7 (.call 68 [(T 6)]),
   D 8 (.mv (T 1)),
   D 9 (.call 68 [(T 8)]),
   D 10 (.call 67 [(T 5), (T 7), (T 9)]),
   D 4 (.mv (T 10))]) (
 .ret))⟩
theorem exact_product_ok : Ok Try.prog 104 exact_product := ⟨by kernel_rfl, by kernel_rfl⟩

/-- slices.IndexFunc[[]diorama/api.Net,diorama/api.Net] -/
def slices_IndexFunc___api_Net_api_Net_ : AF := ⟨19, [.tmp 4],
 .seq (
  .ops [D 4 (.mv (I 0))]) (
 .trim [] (
  .seq (
   .ops [D 6 (.mv (T 0)),
    D 7 (.len (T 6)),
    D 8 (.mv (I 0))]) (
  .block 0 (
   .loop [0, 1, 7, 8] (
    .seq (
     .ops [D 9 (.bin .lss (T 8) (T 7))]) (
    .seq (
     .cond (T 9) (
      .skip) (
      .exit 0)) (
    .trim [0, 1, 7, 8] (
     .block 1 (
      .seq (
       .ops [D 10 (.mv (T 8)),
        D 5 (.mv (T 10))]) (
      .trim [0, 1, 5, 7, 8, 16] (
       .ops [D 11 (.mv (T 1)),
        D 12 (.mv (T 0)),
        D 13 (.mv (T 5)),
        D 14 (.ia 5 (T 12) (T 13)),
        D 15 (.ldN 5 (T 14)),
        D 16 (.callv (T 11) [(T 15)])]) (
      .cond (T 16) (
       .seq (
        .ops [D 17 (.mv (T 5)),
         D 4 (.mv (T 17))]) (
       .ret)) (
       .skip))))) (
    .ops [D 18 (.bin .add (T 8) (I 1)),
     D 8 (.mv (T 18))]))))))) (
 .seq (
  .ops [D 4 (.mv (I (-1)))]) (
 .ret)))⟩
theorem slices_IndexFunc___api_Net_api_Net__ok : Ok Try.prog 105 slices_IndexFunc___api_Net_api_Net_ := ⟨by kernel_rfl, by kernel_rfl⟩

/-- (*diorama/num.Int).set -/
def num_Int__set : AF := ⟨21, [.tmp 6],
 .seq (
  .ops [D 6 (.mv (.const (.pointer none)))]) (
 .trim [0] (
  .ops [D 7 (.mv (T 0)),
   D 8 (.mv (T 0)),
   D 9 (.mv (T 1)),
   D 10 (.mv (T 9)),
   ⟨(some 11), some (10, true), .mv (T 2)⟩,
   ⟨(some 12), some (10, true), .len (T 11)⟩,
   ⟨(some 13), some (10, true), .bin .gtr (T 12) (I 0)⟩,
   D 14 (.pick (T 10) (T 13) (.const (.bool false))),
   D 15 (.mv (T 2)),
   D 16 (.nil (T 7)),
   D 17 (.fa 0 (T 16)),
   E (.st 1 (T 17) (T 14)),
   D 18 (.nil (T 8)),
   D 19 (.fa 1 (T 18)),
   E (.st 1 (T 19) (T 15))]) (
 .seq (
  .ops [D 20 (.mv (T 0)),
   D 6 (.mv (T 20))]) (
 .ret)))⟩
theorem num_Int__set_ok : Ok Try.prog 106 num_Int__set := ⟨by kernel_rfl, by kernel_rfl⟩

/-- diorama/num.mulMag -/
def num_mulMag : AF := ⟨67, [.tmp 4],
 .seq (
  .ops [D 4 (.mv (.const (.slice none 0 0)))]) (
 .trim [0, 1, 5] (
  .ops [D 11 (.mv (T 0)),
   D 12 (.len (T 11)),
   D 13 (.mv (T 1)),
   D 14 (.len (T 13)),
   D 15 (.bin .add (T 12) (T 14)),
   D 16 (.mks [(.int .u32 0)] 4 (T 15) (T 15)),
   D 5 (.mv (T 16))]) (
 .trim [5] (
  .seq (
   .ops [D 17 (.mv (T 0)),
    D 18 (.len (T 17)),
    D 19 (.mv (I 0))]) (
  .block 0 (
   .loop [1, 5, 17, 18, 19] (
    .seq (
     .ops [D 20 (.bin .lss (T 19) (T 18))]) (
    .seq (
     .cond (T 20) (
      .skip) (
      .exit 0)) (
    .trim [1, 5, 17, 18, 19] (
     .block 1 (
      .seq (
       .ops [D 21 (.mv (T 19)),
        D 22 (.ia 1 (T 17) (T 19)),
        D 23 (.ld1 (T 22)),
        D 6 (.mv (T 21)),
        D 7 (.mv (T 23))]) (
      .seq (
       .ops [D 8 (.mv (.const (.int .u64 0)))]) (
      .trim [1, 5, 6, 8, 17, 18, 19] (
       .seq (
        .ops [D 24 (.mv (T 1)),
         D 25 (.len (T 24)),
         D 26 (.mv (I 0))]) (
       .block 2 (
        .loop [1, 5, 6, 7, 8, 17, 18, 19, 24, 25, 26] (
         .seq (
          .ops [D 27 (.bin .lss (T 26) (T 25))]) (
         .seq (
          .cond (T 27) (
           .skip) (
           .exit 2)) (
         .trim [1, 5, 6, 7, 8, 17, 18, 19, 24, 25, 26] (
          .block 3 (
           .seq (
            .ops [D 28 (.mv (T 26)),
             D 29 (.ia 1 (T 24) (T 26)),
             D 30 (.ld1 (T 29)),
             D 9 (.mv (T 28)),
             D 10 (.mv (T 30))]) (
           .trim [1, 5, 6, 7, 8, 9, 17, 18, 19, 24, 25, 26] (
            .ops [D 31 (.mv (T 8)),
             D 32 (.mv (T 7)),
             D 33 (.cvi .u64 (T 32)),
             D 34 (.mv (T 10)),
             D 35 (.cvi .u64 (T 34)),
             D 36 (.bin .mul (T 33) (T 35)),
             D 37 (.mv (T 5)),
             D 38 (.mv (T 6)),
             D 39 (.mv (T 9)),
             D 40 (.bin .add (T 38) (T 39)),
             D 41 (.ia 1 (T 37) (T 40)),
             D 42 (.ld1 (T 41)),
             D 43 (.cvi .u64 (T 42)),
             D 44 (.bin .add (T 36) (T 43)),
             D 45 (.bin .add (T 31) (T 44)),
             D 8 (.mv (T 45))]) (
           .trim [1, 5, 6, 7, 8, 17, 18, 19, 24, 25, 26] (
            .ops [D 46 (.mv (T 5)),
             D 47 (.mv (T 6)),
             D 48 (.mv (T 9)),
             D 49 (.bin .add (T 47) (T 48)),
             D 50 (.mv (T 8)),
             D 51 (.cvi .u32 (T 50)),
             D 52 (.ia 1 (T 46) (T 49)),
             E (.st 1 (T 52) (T 51))]) (
           .ops [D 53 (.mv (T 8)),
            D 54 (.shrc (T 53) 32),
            D 8 (.mv (T 54))]))))) (
         .ops [D 55 (.bin .add (T 26) (I 1)),
          D 26 (.mv (T 55))]))))))) (
      .ops [D 56 (.mv (T 5)),
       D 57 (.mv (T 6)),
       D 58 (.mv (T 1)),
       D 59 (.len (T 58)),
       D 60 (.bin .add (T 57) (T 59)),
       D 61 (.mv (T 8)),
       D 62 (.cvi .u32 (T 61)),
       D 63 (.ia 1 (T 56) (T 60)),
       E (.st 1 (T 63) (T 62))]))))) (
    .ops [D 64 (.bin .add (T 19) (I 1)),
     D 19 (.mv (T 64))]))))))) (
 .seq (
  .ops [D 65 (.mv (T 5)),
   D 66 (.call 130 [(T 65)]),
   D 4 (.mv (T 66))]) (
 .ret))))⟩
theorem num_mulMag_ok : Ok Try.prog 107 num_mulMag := ⟨by kernel_rfl, by kernel_rfl⟩

/-- (*diorama/num.Int).SetInt64 -/
def num_Int__SetInt64 : AF := ⟨18, [.tmp 4],
 .seq (
  .ops [D 4 (.mv (.const (.pointer none)))]) (
 .trim [0, 1] (
  .seq (
   .ops [D 5 (.mv (T 1)),
    D 6 (.bin .lss (T 5) (I 0))]) (
  .cond (T 6) (
   .trim [4] (
    .ops [D 7 (.mv (T 0)),
     D 8 (.mv (T 1)),
     D 9 (.cvi .u64 (T 8)),
     D 10 (.un .neg (T 9)),
     D 11 (.call 131 [(T 10)]),
     D 12 (.call 106 [(T 7), (.const (.bool true)), (T 11)]),
     D 4 (.mv (T 12))]) (
   .ret)) (
   .skip))) (
 .trim [4] (
  .ops [D 13 (.mv (T 0)),
   D 14 (.mv (T 1)),
   D 15 (.cvi .u64 (T 14)),
   D 16 (.call 131 [(T 15)]),
   D 17 (.call 106 [(T 13), (.const (.bool false)), (T 16)]),
   D 4 (.mv (T 17))]) (
 .ret)))⟩
theorem num_Int__SetInt64_ok : Ok Try.prog 108 num_Int__SetInt64 := ⟨by kernel_rfl, by kernel_rfl⟩

/-- diorama/num.divMag -/
def num_divMag : AF := ⟨135, [.tmp 4, .tmp 5],
 .seq (
  .ops [D 4 (.mv (.const (.slice none 0 0))),
   D 5 (.mv (.const (.slice none 0 0)))]) (
 .trim [0, 1] (
  .seq (
   .ops [D 14 (.mv (T 0)),
    D 15 (.mv (T 1)),
    D 16 (.call 111 [(T 14), (T 15)]),
    D 17 (.bin .lss (T 16) (I 0))]) (
  .cond (T 17) (
   .seq (
    .ops [D 18 (.mv (T 0)),
     D 19 (.call 114 [(T 18)]),
     D 4 (.mv (.const (.slice none 0 0))),
     D 5 (.mv (T 19))]) (
   .ret)) (
   .skip))) (
 .trim [0, 1] (
  .seq (
   .ops [D 20 (.mv (T 1)),
    D 21 (.len (T 20)),
    D 22 (.bin .eql (T 21) (I 1))]) (
  .cond (T 22) (
   .seq (
    .ops [D 23 (.mv (T 0)),
     D 24 (.len (T 23)),
     D 25 (.mks [(.int .u32 0)] 4 (T 24) (T 24)),
     D 4 (.mv (T 25))]) (
   .seq (
    .ops [D 6 (.mv (.const (.int .u64 0)))]) (
   .trim [4, 6] (
    .seq (
     .ops [D 26 (.mv (T 0)),
      D 27 (.len (T 26)),
      D 28 (.bin .sub (T 27) (I 1)),
      D 7 (.mv (T 28))]) (
    .block 0 (
     .loop [0, 1, 4, 6, 7] (
      .seq (
       .seq (
        .ops [D 29 (.mv (T 7)),
         D 30 (.bin .geq (T 29) (I 0))]) (
       .cond (T 30) (
        .skip) (
        .exit 0))) (
      .trim [0, 1, 4, 6, 7] (
       .block 1 (
        .trim [0, 1, 4, 6, 7] (
         .ops [D 33 (.mv (T 6)),
          D 34 (.shlc (T 33) 32),
          D 35 (.mv (T 0)),
          D 36 (.mv (T 7)),
          D 37 (.ia 1 (T 35) (T 36)),
          D 38 (.ld1 (T 37)),
          D 39 (.cvi .u64 (T 38)),
          D 40 (.bin .or (T 34) (T 39)),
          D 6 (.mv (T 40))]) (
        .trim [0, 1, 4, 6, 7] (
         .ops [D 41 (.mv (T 4)),
          D 42 (.mv (T 7)),
          D 43 (.mv (T 6)),
          D 44 (.mv (T 1)),
          D 45 (.ia 1 (T 44) (I 0)),
          D 46 (.ld1 (T 45)),
          D 47 (.cvi .u64 (T 46)),
          D 48 (.bin .quo (T 43) (T 47)),
          D 49 (.cvi .u32 (T 48)),
          D 50 (.ia 1 (T 41) (T 42)),
          E (.st 1 (T 50) (T 49))]) (
        .ops [D 51 (.mv (T 6)),
         D 52 (.mv (T 1)),
         D 53 (.ia 1 (T 52) (I 0)),
         D 54 (.ld1 (T 53)),
         D 55 (.cvi .u64 (T 54)),
         D 56 (.bin .rem (T 51) (T 55)),
         D 6 (.mv (T 56))])))) (
      .ops [D 31 (.mv (T 7)),
       D 32 (.bin .sub (T 31) (I 1)),
       D 7 (.mv (T 32))])))))) (
   .seq (
    .ops [D 57 (.mv (T 4)),
     D 58 (.call 130 [(T 57)]),
     D 59 (.mv (T 6)),
     D 60 (.call 131 [(T 59)]),
     D 4 (.mv (T 58)),
     D 5 (.mv (T 60))]) (
   .ret))))) (
   .skip))) (
 .trim [0, 1, 8] (
  .ops [D 61 (.mv (T 1)),
   D 62 (.mv (T 1)),
   D 63 (.len (T 62)),
   D 64 (.bin .sub (T 63) (I 1)),
   D 65 (.ia 1 (T 61) (T 64)),
   D 66 (.ld1 (T 65)),
   D 67 (.call 132 [(T 66)]),
   D 8 (.mv (T 67))]) (
 .trim [0, 8, 9, 10] (
  .draw [⟨0, 0, 0, D 68 (.mv (T 0))⟩,
   ⟨1, 0, 0, D 69 (.mv (T 8))⟩,
   ⟨3, 0, 0, D 71 (.mv (T 1))⟩,
   ⟨4, 0, 0, D 72 (.mv (T 8))⟩,
   ⟨6, 0, 0, D 74 (.mv (T 1))⟩,
   ⟨7, 0, 64, D 75 (.len (T 74))⟩,
   ⟨2, 4, 3, D 70 (.call 133 [(T 68), (T 69)])⟩,
   ⟨5, 4, 31, D 73 (.call 133 [(T 71), (T 72)])⟩,
   ⟨8, 0, 255, D 76 (.slc 1 (T 73) none (some (T 75)) none)⟩,
   ⟨9, 0, 63, D 9 (.mv (T 70))⟩,
   ⟨10, 0, 1023, D 10 (.mv (T 76))⟩]) (
 .seq (
  .ops [D 77 (.mv (T 10)),
   D 78 (.len (T 77)),
   D 11 (.mv (T 78))]) (
 .trim [0, 4, 8, 9, 10, 11] (
  .ops [D 79 (.mv (T 0)),
   D 80 (.len (T 79)),
   D 81 (.mv (T 11)),
   D 82 (.bin .sub (T 80) (T 81)),
   D 83 (.bin .add (T 82) (I 1)),
   D 84 (.mks [(.int .u32 0)] 4 (T 83) (T 83)),
   D 4 (.mv (T 84))]) (
 .trim [4, 8, 9, 11] (
  .seq (
   .ops [D 85 (.mv (T 0)),
    D 86 (.len (T 85)),
    D 87 (.mv (T 11)),
    D 88 (.bin .sub (T 86) (T 87)),
    D 12 (.mv (T 88))]) (
  .block 2 (
   .loop [4, 8, 9, 10, 11, 12] (
    .seq (
     .seq (
      .ops [D 89 (.mv (T 12)),
       D 90 (.bin .geq (T 89) (I 0))]) (
     .cond (T 90) (
      .skip) (
      .exit 2))) (
    .trim [4, 8, 9, 10, 11, 12] (
     .block 3 (
      .ops [D 93 (.mv (T 4)),
       D 94 (.mv (T 12)),
       D 95 (.mv (T 9)),
       D 96 (.mv (T 12)),
       D 97 (.mv (T 12)),
       D 98 (.mv (T 11)),
       D 99 (.bin .add (T 97) (T 98)),
       D 100 (.bin .add (T 99) (I 1)),
       D 101 (.slc 1 (T 95) (some (T 96)) (some (T 100)) none),
       D 102 (.mv (T 10)),
       D 103 (.call 134 [(T 101), (T 102)]),
       D 104 (.ia 1 (T 93) (T 94)),
       E (.st 1 (T 104) (T 103))])) (
    .ops [D 91 (.mv (T 12)),
     D 92 (.bin .sub (T 91) (I 1)),
     D 12 (.mv (T 92))])))))) (
 .seq (
  .ops [D 105 (.mv (T 11)),
   D 106 (.mks [(.int .u32 0)] 4 (T 105) (T 105)),
   D 5 (.mv (T 106))]) (
 .trim [4, 5] (
  .seq (
   .ops [D 107 (.mv (T 11)),
    D 108 (.mv (I 0))]) (
  .block 4 (
   .loop [4, 5, 8, 9, 107, 108] (
    .seq (
     .ops [D 109 (.bin .lss (T 108) (T 107))]) (
    .seq (
     .cond (T 109) (
      .skip) (
      .exit 4)) (
    .trim [4, 5, 8, 9, 107, 108] (
     .block 5 (
      .seq (
       .ops [D 110 (.mv (T 108)),
        D 13 (.mv (T 110))]) (
      .draw [⟨0, 0, 0, D 111 (.mv (T 5))⟩,
       ⟨1, 0, 0, D 112 (.mv (T 13))⟩,
       ⟨2, 0, 0, D 113 (.mv (T 9))⟩,
       ⟨3, 0, 0, D 114 (.mv (T 13))⟩,
       ⟨4, 0, 8, D 115 (.bin .add (T 114) (I 1))⟩,
       ⟨5, 0, 28, D 116 (.ia 1 (T 113) (T 115))⟩,
       ⟨6, 1, 60, D 117 (.ld1 (T 116))⟩,
       ⟨7, 0, 124, D 118 (.cvi .u64 (T 117))⟩,
       ⟨8, 0, 252, D 119 (.shlc (T 118) 32)⟩,
       ⟨9, 0, 0, D 120 (.mv (T 9))⟩,
       ⟨10, 0, 0, D 121 (.mv (T 13))⟩,
       ⟨11, 0, 1536, D 122 (.ia 1 (T 120) (T 121))⟩,
       ⟨12, 1, 3584, D 123 (.ld1 (T 122))⟩,
       ⟨13, 0, 7680, D 124 (.cvi .u64 (T 123))⟩,
       ⟨14, 0, 16380, D 125 (.bin .or (T 119) (T 124))⟩,
       ⟨15, 0, 0, D 126 (.mv (T 8))⟩,
       ⟨16, 0, 65532, D 127 (.bin .shr (T 125) (T 126))⟩,
       ⟨17, 0, 131068, D 128 (.cvi .u32 (T 127))⟩,
       ⟨18, 0, 262143, D 129 (.ia 1 (T 111) (T 112))⟩,
       ⟨19, 4, 524287, E (.st 1 (T 129) (T 128))⟩]))) (
    .ops [D 130 (.bin .add (T 108) (I 1)),
     D 108 (.mv (T 130))]))))))) (
 .seq (
  .ops [D 131 (.mv (T 4)),
   D 132 (.call 130 [(T 131)]),
   D 133 (.mv (T 5)),
   D 134 (.call 130 [(T 133)]),
   D 4 (.mv (T 132)),
   D 5 (.mv (T 134))]) (
 .ret)))))))))))⟩
theorem num_divMag_ok : Ok Try.prog 109 num_divMag := ⟨by kernel_rfl, by kernel_rfl⟩

/-- diorama/num.addMag -/
def num_addMag : AF := ⟨58, [.tmp 4],
 .seq (
  .ops [D 4 (.mv (.const (.slice none 0 0)))]) (
 .trim [0, 1] (
  .seq (
   .ops [D 9 (.mv (T 0)),
    D 10 (.len (T 9)),
    D 11 (.mv (T 1)),
    D 12 (.len (T 11)),
    D 13 (.bin .lss (T 10) (T 12))]) (
  .cond (T 13) (
   .ops [D 14 (.mv (T 1)),
    D 15 (.mv (T 0)),
    D 0 (.mv (T 14)),
    D 1 (.mv (T 15))]) (
   .skip))) (
 .seq (
  .ops [D 16 (.mv (T 0)),
   D 17 (.len (T 16)),
   D 18 (.bin .add (T 17) (I 1)),
   D 19 (.mks [(.int .u32 0)] 4 (T 18) (T 18)),
   D 5 (.mv (T 19))]) (
 .seq (
  .ops [D 6 (.mv (.const (.int .u64 0)))]) (
 .trim [0, 5, 6] (
  .seq (
   .ops [D 20 (.mv (T 0)),
    D 21 (.len (T 20)),
    D 22 (.mv (I 0))]) (
  .block 0 (
   .loop [0, 1, 5, 6, 20, 21, 22] (
    .seq (
     .ops [D 23 (.bin .lss (T 22) (T 21))]) (
    .seq (
     .cond (T 23) (
      .skip) (
      .exit 0)) (
    .trim [0, 1, 5, 6, 20, 21, 22] (
     .block 1 (
      .seq (
       .ops [D 24 (.mv (T 22)),
        D 25 (.ia 1 (T 20) (T 22)),
        D 26 (.ld1 (T 25)),
        D 7 (.mv (T 24)),
        D 8 (.mv (T 26))]) (
      .seq (
       .ops [D 27 (.mv (T 6)),
        D 28 (.mv (T 8)),
        D 29 (.cvi .u64 (T 28)),
        D 30 (.bin .add (T 27) (T 29)),
        D 6 (.mv (T 30))]) (
      .trim [0, 1, 5, 6, 7, 20, 21, 22] (
       .seq (
        .ops [D 31 (.mv (T 7)),
         D 32 (.mv (T 1)),
         D 33 (.len (T 32)),
         D 34 (.bin .lss (T 31) (T 33))]) (
       .cond (T 34) (
        .ops [D 35 (.mv (T 6)),
         D 36 (.mv (T 1)),
         D 37 (.mv (T 7)),
         D 38 (.ia 1 (T 36) (T 37)),
         D 39 (.ld1 (T 38)),
         D 40 (.cvi .u64 (T 39)),
         D 41 (.bin .add (T 35) (T 40)),
         D 6 (.mv (T 41))]) (
        .skip))) (
      .trim [0, 1, 5, 6, 20, 21, 22] (
       .ops [D 42 (.mv (T 5)),
        D 43 (.mv (T 7)),
        D 44 (.mv (T 6)),
        D 45 (.cvi .u32 (T 44)),
        D 46 (.ia 1 (T 42) (T 43)),
        E (.st 1 (T 46) (T 45))]) (
      .ops [D 47 (.mv (T 6)),
       D 48 (.shrc (T 47) 32),
       D 6 (.mv (T 48))])))))) (
    .ops [D 49 (.bin .add (T 22) (I 1)),
     D 22 (.mv (T 49))]))))))) (
 .trim [5] (
  .ops [D 50 (.mv (T 5)),
   D 51 (.mv (T 0)),
   D 52 (.len (T 51)),
   D 53 (.mv (T 6)),
   D 54 (.cvi .u32 (T 53)),
   D 55 (.ia 1 (T 50) (T 52)),
   E (.st 1 (T 55) (T 54))]) (
 .seq (
  .ops [D 56 (.mv (T 5)),
   D 57 (.call 130 [(T 56)]),
   D 4 (.mv (T 57))]) (
 .ret)))))))⟩
theorem num_addMag_ok : Ok Try.prog 110 num_addMag := ⟨by kernel_rfl, by kernel_rfl⟩

/-- diorama/num.cmpMag -/
def num_cmpMag : AF := ⟨41, [.tmp 4],
 .seq (
  .ops [D 4 (.mv (I 0))]) (
 .trim [0, 1] (
  .seq (
   .ops [D 6 (.mv (T 0)),
    D 7 (.len (T 6)),
    D 8 (.mv (T 1)),
    D 9 (.len (T 8)),
    D 10 (.bin .neq (T 7) (T 9))]) (
  .cond (T 10) (
   .trim [4] (
    .ops [D 11 (.mv (T 0)),
     D 12 (.len (T 11)),
     D 13 (.mv (T 1)),
     D 14 (.len (T 13)),
     D 15 (.bin .sub (T 12) (T 14)),
     D 4 (.mv (T 15))]) (
   .ret)) (
   .skip))) (
 .trim [] (
  .seq (
   .ops [D 16 (.mv (T 0)),
    D 17 (.len (T 16)),
    D 18 (.bin .sub (T 17) (I 1)),
    D 5 (.mv (T 18))]) (
  .block 0 (
   .loop [0, 1, 5] (
    .seq (
     .seq (
      .ops [D 19 (.mv (T 5)),
       D 20 (.bin .geq (T 19) (I 0))]) (
     .cond (T 20) (
      .skip) (
      .exit 0))) (
    .trim [0, 1, 5] (
     .block 1 (
      .trim [0, 1, 5, 31] (
       .draw [⟨0, 0, 0, D 23 (.mv (T 0))⟩,
        ⟨1, 0, 0, D 24 (.mv (T 5))⟩,
        ⟨2, 0, 3, D 25 (.ia 1 (T 23) (T 24))⟩,
        ⟨3, 1, 7, D 26 (.ld1 (T 25))⟩,
        ⟨4, 0, 0, D 27 (.mv (T 1))⟩,
        ⟨5, 0, 0, D 28 (.mv (T 5))⟩,
        ⟨6, 0, 48, D 29 (.ia 1 (T 27) (T 28))⟩,
        ⟨7, 1, 112, D 30 (.ld1 (T 29))⟩,
        ⟨8, 0, 255, D 31 (.bin .neq (T 26) (T 30))⟩]) (
      .cond (T 31) (
       .trim [] (
        .trim [40] (
         .draw [⟨0, 0, 0, D 32 (.mv (T 0))⟩,
          ⟨1, 0, 0, D 33 (.mv (T 5))⟩,
          ⟨2, 0, 3, D 34 (.ia 1 (T 32) (T 33))⟩,
          ⟨3, 1, 7, D 35 (.ld1 (T 34))⟩,
          ⟨4, 0, 0, D 36 (.mv (T 1))⟩,
          ⟨5, 0, 0, D 37 (.mv (T 5))⟩,
          ⟨6, 0, 48, D 38 (.ia 1 (T 36) (T 37))⟩,
          ⟨7, 1, 112, D 39 (.ld1 (T 38))⟩,
          ⟨8, 0, 255, D 40 (.bin .lss (T 35) (T 39))⟩]) (
        .cond (T 40) (
         .seq (
          .ops [D 4 (.mv (I (-1)))]) (
         .ret)) (
         .skip))) (
       .seq (
        .ops [D 4 (.mv (I 1))]) (
       .ret))) (
       .skip)))) (
    .ops [D 21 (.mv (T 5)),
     D 22 (.bin .sub (T 21) (I 1)),
     D 5 (.mv (T 22))])))))) (
 .seq (
  .ops [D 4 (.mv (I 0))]) (
 .ret))))⟩
theorem num_cmpMag_ok : Ok Try.prog 111 num_cmpMag := ⟨by kernel_rfl, by kernel_rfl⟩

/-- diorama/num.subMag -/
def num_subMag : AF := ⟨46, [.tmp 4],
 .seq (
  .ops [D 4 (.mv (.const (.slice none 0 0)))]) (
 .seq (
  .ops [D 11 (.mv (T 0)),
   D 12 (.len (T 11)),
   D 13 (.mks [(.int .u32 0)] 4 (T 12) (T 12)),
   D 5 (.mv (T 13))]) (
 .seq (
  .ops [D 6 (.mv (.const (.int .u64 0)))]) (
 .trim [5] (
  .seq (
   .ops [D 14 (.mv (T 0)),
    D 15 (.len (T 14)),
    D 16 (.mv (I 0))]) (
  .block 0 (
   .loop [1, 5, 6, 14, 15, 16] (
    .seq (
     .ops [D 17 (.bin .lss (T 16) (T 15))]) (
    .seq (
     .cond (T 17) (
      .skip) (
      .exit 0)) (
    .trim [1, 5, 6, 14, 15, 16] (
     .block 1 (
      .seq (
       .ops [D 18 (.mv (T 16)),
        D 19 (.ia 1 (T 14) (T 16)),
        D 20 (.ld1 (T 19)),
        D 7 (.mv (T 18)),
        D 8 (.mv (T 20))]) (
      .seq (
       .ops [D 9 (.mv (.const (.int .u64 0)))]) (
      .trim [1, 5, 6, 7, 8, 9, 14, 15, 16] (
       .seq (
        .ops [D 21 (.mv (T 7)),
         D 22 (.mv (T 1)),
         D 23 (.len (T 22)),
         D 24 (.bin .lss (T 21) (T 23))]) (
       .cond (T 24) (
        .ops [D 25 (.mv (T 1)),
         D 26 (.mv (T 7)),
         D 27 (.ia 1 (T 25) (T 26)),
         D 28 (.ld1 (T 27)),
         D 29 (.cvi .u64 (T 28)),
         D 9 (.mv (T 29))]) (
        .skip))) (
      .trim [1, 5, 7, 10, 14, 15, 16] (
       .ops [D 30 (.mv (T 8)),
        D 31 (.cvi .u64 (T 30)),
        D 32 (.mv (T 9)),
        D 33 (.bin .sub (T 31) (T 32)),
        D 34 (.mv (T 6)),
        D 35 (.bin .sub (T 33) (T 34)),
        D 10 (.mv (T 35))]) (
      .trim [1, 5, 10, 14, 15, 16] (
       .ops [D 36 (.mv (T 5)),
        D 37 (.mv (T 7)),
        D 38 (.mv (T 10)),
        D 39 (.cvi .u32 (T 38)),
        D 40 (.ia 1 (T 36) (T 37)),
        E (.st 1 (T 40) (T 39))]) (
      .ops [D 41 (.mv (T 10)),
       D 42 (.shrc (T 41) 63),
       D 6 (.mv (T 42))]))))))) (
    .ops [D 43 (.bin .add (T 16) (I 1)),
     D 16 (.mv (T 43))]))))))) (
 .seq (
  .ops [D 44 (.mv (T 5)),
   D 45 (.call 130 [(T 44)]),
   D 4 (.mv (T 45))]) (
 .ret)))))⟩
theorem num_subMag_ok : Ok Try.prog 112 num_subMag := ⟨by kernel_rfl, by kernel_rfl⟩

/-- (*diorama/num.Int).CmpAbs -/
def num_Int__CmpAbs : AF := ⟨15, [.tmp 4],
 .seq (
  .ops [D 4 (.mv (I 0))]) (
 .trim [4] (
  .draw [⟨0, 0, 0, D 5 (.mv (T 0))⟩,
   ⟨1, 0, 1, D 6 (.nil (T 5))⟩,
   ⟨2, 0, 3, D 7 (.fa 1 (T 6))⟩,
   ⟨3, 1, 7, D 8 (.ld1 (T 7))⟩,
   ⟨4, 0, 0, D 9 (.mv (T 1))⟩,
   ⟨5, 0, 16, D 10 (.nil (T 9))⟩,
   ⟨6, 0, 48, D 11 (.fa 1 (T 10))⟩,
   ⟨7, 1, 112, D 12 (.ld1 (T 11))⟩,
   ⟨8, 4, 255, D 13 (.call 111 [(T 8), (T 12)])⟩,
   ⟨9, 4, 511, D 14 (.call 135 [(T 13)])⟩,
   ⟨10, 0, 1023, D 4 (.mv (T 14))⟩]) (
 .ret))⟩
theorem num_Int__CmpAbs_ok : Ok Try.prog 113 num_Int__CmpAbs := ⟨by kernel_rfl, by kernel_rfl⟩

/-- slices.Clone[[]uint32,uint32] -/
def slices_Clone___uint32_uint32_ : AF := ⟨8, [.tmp 2],
 .seq (
  .ops [D 2 (.mv (.const (.slice none 0 0)))]) (
 .seq (
  .seq (
   .ops [D 3 (.mv (T 0)),
    D 4 (.nileq false 1 (T 3) (.const (.slice none 0 0)))]) (
  .cond (T 4) (
   .seq (
    .ops [D 2 (.mv (.const (.slice none 0 0)))]) (
   .ret)) (
   .skip))) (
 .seq (
  .ops [D 5 (.bslice [] 0 []),
   D 6 (.mv (T 0)),
   D 7 (.app 1 4 (T 5) (T 6)),
   D 2 (.mv (T 7))]) (
 .ret)))⟩
theorem slices_Clone___uint32_uint32__ok : Ok Try.prog 114 slices_Clone___uint32_uint32_ := ⟨by kernel_rfl, by kernel_rfl⟩

/-- (*diorama/num.Int).low -/
def num_Int__low : AF := ⟨28, [.tmp 2],
 .seq (
  .ops [D 2 (.mv (.const (.int .u64 0)))]) (
 .seq (
  .ops [D 3 (.mv (.const (.int .u64 0)))]) (
 .trim [3] (
  .trim [0, 3, 4] (
   .ops [D 5 (.mv (T 0)),
    D 6 (.nil (T 5)),
    D 7 (.fa 1 (T 6)),
    D 8 (.ld1 (T 7)),
    D 9 (.len (T 8)),
    D 10 (.mn [(I 2), (T 9)]),
    D 11 (.bin .sub (T 10) (I 1)),
    D 4 (.mv (T 11))]) (
  .block 0 (
   .loop [0, 3, 4] (
    .seq (
     .seq (
      .ops [D 12 (.mv (T 4)),
       D 13 (.bin .geq (T 12) (I 0))]) (
     .cond (T 13) (
      .skip) (
      .exit 0))) (
    .trim [0, 3, 4] (
     .block 1 (
      .ops [D 16 (.mv (T 3)),
       D 17 (.shlc (T 16) 32),
       D 18 (.mv (T 0)),
       D 19 (.nil (T 18)),
       D 20 (.fa 1 (T 19)),
       D 21 (.ld1 (T 20)),
       D 22 (.mv (T 4)),
       D 23 (.ia 1 (T 21) (T 22)),
       D 24 (.ld1 (T 23)),
       D 25 (.cvi .u64 (T 24)),
       D 26 (.bin .or (T 17) (T 25)),
       D 3 (.mv (T 26))])) (
    .ops [D 14 (.mv (T 4)),
     D 15 (.bin .sub (T 14) (I 1)),
     D 4 (.mv (T 15))])))))) (
 .seq (
  .ops [D 27 (.mv (T 3)),
   D 2 (.mv (T 27))]) (
 .ret))))⟩
theorem num_Int__low_ok : Ok Try.prog 115 num_Int__low := ⟨by kernel_rfl, by kernel_rfl⟩

/-- (*diorama/num.Rat).down -/
def num_Rat__down : AF := ⟨17, [.tmp 2],
 .seq (
  .ops [D 2 (.mv (.const (.pointer none)))]) (
 .trim [0] (
  .trim [0, 9] (
   .ops [D 3 (.mv (T 0)),
    D 4 (.nil (T 3)),
    D 5 (.fa 2 (T 4)),
    D 6 (.fa 1 (T 5)),
    D 7 (.ld1 (T 6)),
    D 8 (.len (T 7)),
    D 9 (.bin .eql (T 8) (I 0))]) (
  .cond (T 9) (
   .ops [D 10 (.mv (T 0)),
    D 11 (.nil (T 10)),
    D 12 (.fa 2 (T 11)),
    D 13 (.call 108 [(T 12), (I 1)])]) (
   .skip))) (
 .seq (
  .ops [D 14 (.mv (T 0)),
   D 15 (.nil (T 14)),
   D 16 (.fa 2 (T 15)),
   D 2 (.mv (T 16))]) (
 .ret)))⟩
theorem num_Rat__down_ok : Ok Try.prog 116 num_Rat__down := ⟨by kernel_rfl, by kernel_rfl⟩

/-- diorama/dioramaref00.Add -/
def dioramaref00_Add : AF := ⟨41, [.cellN 2 4],
 .seq (
  .ops [D 2 (.box (T 0)),
   D 3 (.box (T 1)),
   D 4 (.alloc [(.bool false), (.slice none 0 0)])]) (
 .trim [2, 3, 4] (
  .seq (
   .ops [D 8 (.fa 0 (T 2)),
    D 9 (.ld1 (T 8)),
    D 10 (.fa 0 (T 3)),
    D 11 (.ld1 (T 10)),
    D 12 (.beq false (T 9) (T 11))]) (
  .cond (T 12) (
   .seq (
    .ops [D 13 (.ldN 2 (T 2)),
     D 14 (.ldN 2 (T 3)),
     D 15 (.call 136 [(T 13), (T 14)]),
     D 5 (.alloc [(.bool false), (.slice none 0 0)]),
     E (.st 2 (T 5) (T 15))]) (
   .seq (
    .ops [D 16 (.fa 0 (T 2)),
     D 17 (.ld1 (T 16)),
     D 18 (.fa 0 (T 5)),
     E (.st 1 (T 18) (T 17))]) (
   .seq (
    .ops [D 19 (.ldN 2 (T 5)),
     D 20 (.call 90 [(T 19)]),
     E (.st 2 (T 4) (T 20))]) (
   .ret)))) (
   .skip))) (
 .trim [2, 3, 4] (
  .seq (
   .ops [D 21 (.ldN 2 (T 2)),
    D 22 (.ldN 2 (T 3)),
    D 23 (.call 88 [(T 21), (T 22)]),
    D 24 (.bin .geq (T 23) (I 0))]) (
  .cond (T 24) (
   .seq (
    .ops [D 25 (.ldN 2 (T 2)),
     D 26 (.ldN 2 (T 3)),
     D 27 (.call 137 [(T 25), (T 26)]),
     D 6 (.alloc [(.bool false), (.slice none 0 0)]),
     E (.st 2 (T 6) (T 27))]) (
   .seq (
    .ops [D 28 (.fa 0 (T 2)),
     D 29 (.ld1 (T 28)),
     D 30 (.fa 0 (T 6)),
     E (.st 1 (T 30) (T 29))]) (
   .seq (
    .ops [D 31 (.ldN 2 (T 6)),
     D 32 (.call 90 [(T 31)]),
     E (.st 2 (T 4) (T 32))]) (
   .ret)))) (
   .skip))) (
 .seq (
  .ops [D 33 (.ldN 2 (T 3)),
   D 34 (.ldN 2 (T 2)),
   D 35 (.call 137 [(T 33), (T 34)]),
   D 7 (.alloc [(.bool false), (.slice none 0 0)]),
   E (.st 2 (T 7) (T 35))]) (
 .seq (
  .ops [D 36 (.fa 0 (T 3)),
   D 37 (.ld1 (T 36)),
   D 38 (.fa 0 (T 7)),
   E (.st 1 (T 38) (T 37))]) (
 .seq (
  .ops [D 39 (.ldN 2 (T 7)),
   D 40 (.call 90 [(T 39)]),
   E (.st 2 (T 4) (T 40))]) (
 .ret))))))⟩
theorem dioramaref00_Add_ok : Ok Try.prog 117 dioramaref00_Add := ⟨by kernel_rfl, by kernel_rfl⟩

/-- diorama/dioramaref00.Ceil -/
def dioramaref00_Ceil : AF := ⟨11, [.cellN 2 2],
 .seq (
  .ops [D 1 (.box (T 0)),
   D 2 (.alloc [(.bool false), (.slice none 0 0)])]) (
 .trim [2] (
  .draw [⟨0, 0, 0, D 3 (.fa 0 (T 1))⟩,
   ⟨1, 1, 1, D 4 (.ldN 2 (T 3))⟩,
   ⟨3, 0, 0, D 6 (.fa 2 (T 1))⟩,
   ⟨4, 1, 8, D 7 (.ldN 2 (T 6))⟩,
   ⟨2, 4, 3, D 5 (.call 119 [(T 4)])⟩,
   ⟨5, 0, 31, D 8 (.build [(.bool false), (.slice none 0 0), (.bool false), (.slice none 0 0)] [(0, 2, (T 5)), (2, 2, (T 7))])⟩,
   ⟨6, 4, 63, D 9 (.call 95 [(T 8)])⟩,
   ⟨7, 4, 127, D 10 (.call 119 [(T 9)])⟩,
   ⟨8, 4, 255, E (.st 2 (T 2) (T 10))⟩]) (
 .ret))⟩
theorem dioramaref00_Ceil_ok : Ok Try.prog 118 dioramaref00_Ceil := ⟨by kernel_rfl, by kernel_rfl⟩

/-- diorama/dioramaref00.Negate -/
def dioramaref00_Negate : AF := ⟨11, [.cellN 2 2],
 .seq (
  .ops [D 1 (.box (T 0)),
   D 2 (.alloc [(.bool false), (.slice none 0 0)])]) (
 .seq (
  .ops [D 4 (.ldN 2 (T 1)),
   D 3 (.alloc [(.bool false), (.slice none 0 0)]),
   E (.st 2 (T 3) (T 4))]) (
 .seq (
  .ops [D 5 (.fa 0 (T 1)),
   D 6 (.ld1 (T 5)),
   D 7 (.un .not (T 6)),
   D 8 (.fa 0 (T 3)),
   E (.st 1 (T 8) (T 7))]) (
 .seq (
  .ops [D 9 (.ldN 2 (T 3)),
   D 10 (.call 90 [(T 9)]),
   E (.st 2 (T 2) (T 10))]) (
 .ret))))⟩
theorem dioramaref00_Negate_ok : Ok Try.prog 119 dioramaref00_Negate := ⟨by kernel_rfl, by kernel_rfl⟩

/-- diorama/dioramaref00.Gcd -/
def dioramaref00_Gcd : AF := ⟨28, [.cellN 2 4],
 .seq (
  .ops [D 2 (.box (T 0)),
   D 3 (.box (T 1)),
   D 4 (.alloc [(.bool false), (.slice none 0 0)])]) (
 .trim [4, 5, 6] (
  .draw [⟨0, 0, 0, D 9 (.fa 1 (T 2))⟩,
   ⟨1, 1, 1, D 10 (.ld1 (T 9))⟩,
   ⟨2, 0, 3, D 11 (.build [(.bool false), (.slice none 0 0)] [(1, 1, (T 10))])⟩,
   ⟨3, 0, 0, D 12 (.fa 1 (T 3))⟩,
   ⟨4, 1, 8, D 13 (.ld1 (T 12))⟩,
   ⟨5, 0, 24, D 14 (.build [(.bool false), (.slice none 0 0)] [(1, 1, (T 13))])⟩,
   ⟨7, 2, 0, D 6 (.alloc [(.bool false), (.slice none 0 0)])⟩,
   ⟨6, 3, 0, D 5 (.alloc [(.bool false), (.slice none 0 0)])⟩,
   ⟨8, 4, 199, E (.st 2 (T 5) (T 11))⟩,
   ⟨9, 4, 511, E (.st 2 (T 6) (T 14))⟩]) (
 .trim [4, 5] (
  .block 0 (
   .loop [4, 5, 6] (
    .seq (
     .seq (
      .ops [D 15 (.fa 1 (T 6)),
       D 16 (.ld1 (T 15)),
       D 17 (.len (T 16)),
       D 18 (.bin .gtr (T 17) (I 0))]) (
     .cond (T 18) (
      .skip) (
      .exit 0))) (
    .block 1 (
     .trim [4, 5, 6, 8] (
      .ops [D 20 (.ldN 2 (T 5)),
       D 21 (.ldN 2 (T 6)),
       D 22 (.call 121 [(T 20), (T 21)]),
       D 19 (.mv (T 22)),
       D 23 (.ext (T 19) 0),
       D 24 (.ext (T 19) 1),
       D 7 (.alloc [(.bool false), (.slice none 0 0)]),
       D 8 (.alloc [(.bool false), (.slice none 0 0)]),
       E (.st 2 (T 7) (T 23)),
       E (.st 2 (T 8) (T 24))]) (
     .draw [⟨0, 1, 0, D 25 (.ldN 2 (T 6))⟩,
      ⟨1, 1, 0, D 26 (.ldN 2 (T 8))⟩,
      ⟨2, 4, 1, E (.st 2 (T 5) (T 25))⟩,
      ⟨3, 4, 7, E (.st 2 (T 6) (T 26))⟩])))))) (
 .seq (
  .ops [D 27 (.ldN 2 (T 5)),
   E (.st 2 (T 4) (T 27))]) (
 .ret))))⟩
theorem dioramaref00_Gcd_ok : Ok Try.prog 120 dioramaref00_Gcd := ⟨by kernel_rfl, by kernel_rfl⟩

/-- diorama/dioramaref00.DivMod -/
def dioramaref00_DivMod : AF := ⟨95, [.cellN 2 4, .cellN 2 5],
 .seq (
  .ops [D 2 (.box (T 0)),
   D 3 (.box (T 1)),
   D 4 (.alloc [(.bool false), (.slice none 0 0)]),
   D 5 (.alloc [(.bool false), (.slice none 0 0)])]) (
 .seq (
  .ops [D 13 (.fa 1 (T 3)),
   D 14 (.ld1 (T 13)),
   D 15 (.build [(.bool false), (.slice none 0 0)] [(1, 1, (T 14))]),
   D 6 (.alloc [(.bool false), (.slice none 0 0)]),
   E (.st 2 (T 6) (T 15))]) (
 .trim [2, 3, 4, 5, 6, 7] (
  .ops [D 16 (.fa 1 (T 2)),
   D 17 (.ld1 (T 16)),
   D 18 (.len (T 17)),
   D 19 (.mks [(.int .i64 0)] 8 (T 18) (T 18)),
   D 20 (.build [(.bool false), (.slice none 0 0)] [(1, 1, (T 19))]),
   D 7 (.alloc [(.bool false), (.slice none 0 0)]),
   E (.st 2 (T 7) (T 20))]) (
 .seq (
  .ops [D 8 (.alloc [(.bool false), (.slice none 0 0)])]) (
 .trim [2, 3, 4, 5, 6, 7, 8] (
  .seq (
   .ops [D 21 (.fa 1 (T 2)),
    D 22 (.ld1 (T 21)),
    D 23 (.len (T 22)),
    D 24 (.bin .sub (T 23) (I 1)),
    D 9 (.mv (T 24))]) (
  .block 0 (
   .loop [2, 3, 4, 5, 6, 7, 8, 9] (
    .seq (
     .seq (
      .ops [D 25 (.mv (T 9)),
       D 26 (.bin .geq (T 25) (I 0))]) (
     .cond (T 26) (
      .skip) (
      .exit 0))) (
    .trim [2, 3, 4, 5, 6, 7, 8, 9] (
     .block 1 (
      .trim [2, 3, 4, 5, 6, 7, 8, 9] (
       .draw [⟨0, 1, 0, D 29 (.ldN 2 (T 8))⟩,
        ⟨1, 0, 0, D 30 (.fa 1 (T 2))⟩,
        ⟨2, 1, 2, D 31 (.ld1 (T 30))⟩,
        ⟨3, 0, 0, D 32 (.mv (T 9))⟩,
        ⟨4, 0, 14, D 33 (.ia 1 (T 31) (T 32))⟩,
        ⟨5, 1, 30, D 34 (.ld1 (T 33))⟩,
        ⟨6, 4, 63, D 35 (.call 138 [(T 29), (T 34)])⟩,
        ⟨7, 4, 127, E (.st 2 (T 8) (T 35))⟩]) (
      .seq (
       .ops [D 10 (.mv (I 0)),
        D 11 (.mv (I 16777215))]) (
      .trim [2, 3, 4, 5, 6, 7, 8, 9, 10] (
       .block 2 (
        .loop [2, 3, 4, 5, 6, 7, 8, 9, 10, 11] (
         .seq (
          .seq (
           .ops [D 36 (.mv (T 10)),
            D 37 (.mv (T 11)),
            D 38 (.bin .lss (T 36) (T 37))]) (
          .cond (T 38) (
           .skip) (
           .exit 2))) (
         .block 3 (
          .trim [2, 3, 4, 5, 6, 7, 8, 9, 10, 11, 12] (
           .ops [D 39 (.mv (T 10)),
            D 40 (.mv (T 11)),
            D 41 (.bin .add (T 39) (T 40)),
            D 42 (.bin .add (T 41) (I 1)),
            D 43 (.bin .quo (T 42) (I 2)),
            D 12 (.mv (T 43))]) (
          .trim [2, 3, 4, 5, 6, 7, 8, 9, 10, 11, 12, 49] (
           .draw [⟨0, 1, 0, D 44 (.ldN 2 (T 6))⟩,
            ⟨1, 0, 0, D 45 (.mv (T 12))⟩,
            ⟨3, 1, 0, D 47 (.ldN 2 (T 8))⟩,
            ⟨2, 4, 3, D 46 (.call 139 [(T 44), (T 45)])⟩,
            ⟨4, 4, 15, D 48 (.call 88 [(T 46), (T 47)])⟩,
            ⟨5, 0, 31, D 49 (.bin .leq (T 48) (I 0))⟩]) (
          .cond (T 49) (
           .ops [D 50 (.mv (T 12)),
            D 10 (.mv (T 50))]) (
           .ops [D 51 (.mv (T 12)),
            D 52 (.bin .sub (T 51) (I 1)),
            D 11 (.mv (T 52))])))))))) (
      .trim [2, 3, 4, 5, 6, 7, 8, 9, 10] (
       .ops [D 53 (.fa 1 (T 7)),
        D 54 (.ld1 (T 53)),
        D 55 (.mv (T 9)),
        D 56 (.mv (T 10)),
        D 57 (.ia 1 (T 54) (T 55)),
        E (.st 1 (T 57) (T 56))]) (
      .draw [⟨0, 1, 0, D 58 (.ldN 2 (T 8))⟩,
       ⟨1, 1, 0, D 59 (.ldN 2 (T 6))⟩,
       ⟨2, 0, 0, D 60 (.mv (T 10))⟩,
       ⟨3, 4, 6, D 61 (.call 139 [(T 59), (T 60)])⟩,
       ⟨4, 4, 15, D 62 (.call 137 [(T 58), (T 61)])⟩,
       ⟨5, 4, 31, E (.st 2 (T 8) (T 62))⟩])))))) (
    .ops [D 27 (.mv (T 9)),
     D 28 (.bin .sub (T 27) (I 1)),
     D 9 (.mv (T 28))])))))) (
 .seq (
  .ops [D 63 (.ldN 2 (T 7)),
   D 64 (.call 90 [(T 63)]),
   E (.st 2 (T 7) (T 64))]) (
 .trim [2, 3, 4, 5, 7, 8] (
  .trim [2, 3, 4, 5, 6, 7, 8, 75] (
   .ops [D 65 (.fa 0 (T 2)),
    D 66 (.ld1 (T 65)),
    D 67 (.fa 0 (T 3)),
    D 68 (.ld1 (T 67)),
    D 69 (.beq true (T 66) (T 68)),
    D 70 (.mv (T 69)),
    ⟨(some 71), some (70, true), .fa 1 (T 8)⟩,
    ⟨(some 72), some (70, true), .ld1 (T 71)⟩,
    ⟨(some 73), some (70, true), .len (T 72)⟩,
    ⟨(some 74), some (70, true), .bin .gtr (T 73) (I 0)⟩,
    D 75 (.pick (T 70) (T 74) (.const (.bool false)))]) (
  .cond (T 75) (
   .seq (
    .draw [⟨0, 1, 0, D 76 (.ldN 2 (T 7))⟩,
     ⟨1, 4, 0, D 77 (.call 92 [(I 1)])⟩,
     ⟨2, 4, 3, D 78 (.call 136 [(T 76), (T 77)])⟩,
     ⟨3, 4, 7, E (.st 2 (T 7) (T 78))⟩]) (
   .ops [D 79 (.ldN 2 (T 6)),
    D 80 (.ldN 2 (T 8)),
    D 81 (.call 137 [(T 79), (T 80)]),
    E (.st 2 (T 8) (T 81))])) (
   .skip))) (
 .trim [3, 4, 5, 7, 8] (
  .ops [D 82 (.fa 0 (T 2)),
   D 83 (.ld1 (T 82)),
   D 84 (.fa 0 (T 3)),
   D 85 (.ld1 (T 84)),
   D 86 (.beq true (T 83) (T 85)),
   D 87 (.fa 0 (T 7)),
   E (.st 1 (T 87) (T 86))]) (
 .seq (
  .ops [D 88 (.fa 0 (T 3)),
   D 89 (.ld1 (T 88)),
   D 90 (.fa 0 (T 8)),
   E (.st 1 (T 90) (T 89))]) (
 .seq (
  .draw [⟨0, 1, 0, D 91 (.ldN 2 (T 7))⟩,
   ⟨2, 1, 0, D 93 (.ldN 2 (T 8))⟩,
   ⟨1, 4, 1, D 92 (.call 90 [(T 91)])⟩,
   ⟨3, 4, 7, D 94 (.call 90 [(T 93)])⟩,
   ⟨4, 4, 15, E (.st 2 (T 4) (T 92))⟩,
   ⟨5, 4, 31, E (.st 2 (T 5) (T 94))⟩]) (
 .ret))))))))))⟩
theorem dioramaref00_DivMod_ok : Ok Try.prog 121 dioramaref00_DivMod := ⟨by kernel_rfl, by kernel_rfl⟩

/-- diorama/model.asked -/
def model_asked : AF := ⟨35, [.cellN 11 6, .tmp 7],
 .seq (
  .ops [D 3 (.box (T 0)),
   D 5 (.box (T 2)),
   D 6 (.alloc [(.int .i64 0), (.int .i64 0), (.string ⟨#[]⟩), (.int .i64 0), (.slice none 0 0), (.string ⟨#[]⟩), (.string ⟨#[]⟩), (.int .i64 0), (.slice none 0 0), (.slice none 0 0), (.slice none 0 0)]),
   D 7 (.mv (I 0))]) (
 .trim [1, 3, 5, 6] (
  .trim [1, 3, 5, 6, 8] (
   .ops [D 12 (.ldN 6 (T 3)),
    D 13 (.call 140 [(T 12)]),
    D 11 (.mv (T 13)),
    D 14 (.ext (T 11) 0),
    D 15 (.ext (T 11) 1),
    D 8 (.mv (T 14)),
    D 9 (.mv (T 15))]) (
  .seq (
   .ops [D 16 (.mv (T 8)),
    D 17 (.bin .neq (T 16) (I 0))]) (
  .cond (T 17) (
   .seq (
    .ops [D 18 (.build [(.int .i64 0), (.int .i64 0), (.string ⟨#[]⟩), (.int .i64 0), (.slice none 0 0), (.string ⟨#[]⟩), (.string ⟨#[]⟩), (.int .i64 0), (.slice none 0 0), (.slice none 0 0), (.slice none 0 0)] []),
     D 19 (.mv (T 8)),
     E (.st 11 (T 6) (T 18)),
     D 7 (.mv (T 19))]) (
   .ret)) (
   .skip)))) (
 .trim [1, 3, 6] (
  .seq (
   .ops [D 20 (.ldN 2 (T 5)),
    D 21 (.call 35 [(T 20)]),
    D 22 (.un .not (T 21))]) (
  .cond (T 22) (
   .seq (
    .ops [D 23 (.build [(.int .i64 0), (.int .i64 0), (.string ⟨#[]⟩), (.int .i64 0), (.slice none 0 0), (.string ⟨#[]⟩), (.string ⟨#[]⟩), (.int .i64 0), (.slice none 0 0), (.slice none 0 0), (.slice none 0 0)] []),
     E (.st 11 (T 6) (T 23)),
     D 7 (.mv (I 4))]) (
   .ret)) (
   .skip))) (
 .seq (
  .ops [D 24 (.ldN 6 (T 3)),
   D 25 (.mv (T 1)),
   D 26 (.call 141 [(T 24), (T 25)]),
   D 10 (.mv (T 26))]) (
 .seq (
  .seq (
   .ops [D 27 (.mv (T 10)),
    D 28 (.bin .lss (T 27) (I 0))]) (
  .cond (T 28) (
   .seq (
    .ops [D 29 (.build [(.int .i64 0), (.int .i64 0), (.string ⟨#[]⟩), (.int .i64 0), (.slice none 0 0), (.string ⟨#[]⟩), (.string ⟨#[]⟩), (.int .i64 0), (.slice none 0 0), (.slice none 0 0), (.slice none 0 0)] []),
     E (.st 11 (T 6) (T 29)),
     D 7 (.mv (I 5))]) (
   .ret)) (
   .skip))) (
 .trim [6, 7] (
  .ops [D 30 (.fa 2 (T 3)),
   D 31 (.ld1 (T 30)),
   D 32 (.mv (T 10)),
   D 33 (.ia 11 (T 31) (T 32)),
   D 34 (.ldN 11 (T 33)),
   E (.st 11 (T 6) (T 34)),
   D 7 (.mv (I 0))]) (
 .ret))))))⟩
theorem model_asked_ok : Ok Try.prog 122 model_asked := ⟨by kernel_rfl, by kernel_rfl⟩

/-- diorama/model.shown -/
def model_shown : AF := ⟨17, [.tmp 6],
 .seq (
  .ops [D 3 (.box (T 0)),
   D 4 (.box (T 1)),
   D 6 (.mv (I 0))]) (
 .seq (
  .ops [D 8 (.ldN 6 (T 3)),
   D 9 (.ldN 11 (T 4)),
   D 10 (.mv (T 2)),
   D 11 (.call 142 [(T 8), (T 9), (T 10)]),
   D 7 (.mv (T 11))]) (
 .seq (
  .seq (
   .ops [D 12 (.mv (T 7)),
    D 13 (.nileq false 0 (T 12) (.const (.pointer none)))]) (
  .cond (T 13) (
   .seq (
    .ops [D 6 (.mv (I (-1)))]) (
   .ret)) (
   .skip))) (
 .seq (
  .ops [D 14 (.ldN 11 (T 4)),
   D 15 (.mv (T 7)),
   D 16 (.call 143 [(T 14), (T 15)]),
   D 6 (.mv (T 16))]) (
 .ret))))⟩
theorem model_shown_ok : Ok Try.prog 123 model_shown := ⟨by kernel_rfl, by kernel_rfl⟩

/-- diorama/model.ratOf -/
def model_ratOf : AF := ⟨8, [.tmp 2],
 .seq (
  .ops [D 1 (.box (T 0)),
   D 2 (.mv (.const (.pointer none)))]) (
 .trim [2] (
  .ops [D 3 (.fa 0 (T 1)),
   D 4 (.ld1 (T 3)),
   D 5 (.fa 1 (T 1)),
   D 6 (.ld1 (T 5)),
   D 7 (.call 144 [(T 4), (T 6)]),
   D 2 (.mv (T 7))]) (
 .ret))⟩
theorem model_ratOf_ok : Ok Try.prog 124 model_ratOf := ⟨by kernel_rfl, by kernel_rfl⟩

/-- diorama/dioramaref02.size -/
def dioramaref02_size : AF := ⟨10, [.tmp 2],
 .seq (
  .ops [D 2 (.mv (.const (.slice none 0 0)))]) (
 .trim [0] (
  .seq (
   .ops [D 3 (.mv (T 0)),
    D 4 (.bin .lss (T 3) (I 0))]) (
  .cond (T 4) (
   .seq (
    .ops [D 5 (.mv (T 0)),
     D 6 (.un .neg (T 5)),
     D 7 (.call 126 [(T 6)]),
     D 2 (.mv (T 7))]) (
   .ret)) (
   .skip))) (
 .seq (
  .ops [D 8 (.mv (T 0)),
   D 9 (.call 126 [(T 8)]),
   D 2 (.mv (T 9))]) (
 .ret)))⟩
theorem dioramaref02_size_ok : Ok Try.prog 125 dioramaref02_size := ⟨by kernel_rfl, by kernel_rfl⟩

/-- diorama/dioramaref02.Of -/
def dioramaref02_Of : AF := ⟨14, [.tmp 2],
 .seq (
  .ops [D 2 (.mv (.const (.slice none 0 0)))]) (
 .seq (
  .ops [D 3 (.mv (.const (.slice none 0 0)))]) (
 .trim [3] (
  .block 0 (
   .loop [0, 3] (
    .seq (
     .seq (
      .ops [D 4 (.mv (T 0)),
       D 5 (.bin .gtr (T 4) (I 0))]) (
     .cond (T 5) (
      .skip) (
      .exit 0))) (
    .block 1 (
     .trim [0, 3] (
      .ops [D 6 (.mv (T 3)),
       D 7 (.mv (T 0)),
       D 8 (.bin .rem (T 7) (I 1000000000)),
       D 9 (.bslice [(.int .i64 0)] 1 [(0, 1, (T 8))]),
       D 10 (.app 1 8 (T 6) (T 9)),
       D 3 (.mv (T 10))]) (
     .ops [D 11 (.mv (T 0)),
      D 12 (.bin .quo (T 11) (I 1000000000)),
      D 0 (.mv (T 12))])))))) (
 .seq (
  .ops [D 13 (.mv (T 3)),
   D 2 (.mv (T 13))]) (
 .ret))))⟩
theorem dioramaref02_Of_ok : Ok Try.prog 126 dioramaref02_Of := ⟨by kernel_rfl, by kernel_rfl⟩

/-- diorama/dioramaref02.Sum -/
def dioramaref02_Sum : AF := ⟨53, [.cellN 3 4],
 .seq (
  .ops [D 2 (.box (T 0)),
   D 3 (.box (T 1)),
   D 4 (.alloc [(.bool false), (.slice none 0 0), (.slice none 0 0)])]) (
 .trim [2, 3, 4, 5, 6] (
  .draw [⟨0, 0, 0, D 8 (.fa 1 (T 2))⟩,
   ⟨1, 1, 1, D 9 (.ld1 (T 8))⟩,
   ⟨2, 0, 0, D 10 (.fa 2 (T 3))⟩,
   ⟨3, 1, 4, D 11 (.ld1 (T 10))⟩,
   ⟨5, 0, 0, D 13 (.fa 1 (T 3))⟩,
   ⟨6, 1, 32, D 14 (.ld1 (T 13))⟩,
   ⟨7, 0, 0, D 15 (.fa 2 (T 2))⟩,
   ⟨8, 1, 128, D 16 (.ld1 (T 15))⟩,
   ⟨4, 4, 15, D 12 (.call 145 [(T 9), (T 11)])⟩,
   ⟨9, 4, 511, D 17 (.call 145 [(T 14), (T 16)])⟩,
   ⟨10, 0, 1023, D 5 (.mv (T 12))⟩,
   ⟨11, 0, 2047, D 6 (.mv (T 17))⟩]) (
 .trim [2, 3, 4, 5, 6, 7] (
  .ops [D 18 (.fa 2 (T 2)),
   D 19 (.ld1 (T 18)),
   D 20 (.fa 2 (T 3)),
   D 21 (.ld1 (T 20)),
   D 22 (.call 145 [(T 19), (T 21)]),
   D 7 (.mv (T 22))]) (
 .trim [2, 3, 4, 5, 6, 7] (
  .seq (
   .ops [D 23 (.fa 0 (T 2)),
    D 24 (.ld1 (T 23)),
    D 25 (.fa 0 (T 3)),
    D 26 (.ld1 (T 25)),
    D 27 (.beq false (T 24) (T 26))]) (
  .cond (T 27) (
   .trim [4] (
    .draw [⟨0, 0, 0, D 28 (.fa 0 (T 2))⟩,
     ⟨1, 1, 1, D 29 (.ld1 (T 28))⟩,
     ⟨2, 0, 0, D 30 (.mv (T 5))⟩,
     ⟨3, 0, 0, D 31 (.mv (T 6))⟩,
     ⟨5, 0, 0, D 33 (.mv (T 7))⟩,
     ⟨4, 4, 12, D 32 (.call 146 [(T 30), (T 31)])⟩,
     ⟨6, 0, 63, D 34 (.build [(.bool false), (.slice none 0 0), (.slice none 0 0)] [(0, 1, (T 29)), (1, 1, (T 32)), (2, 1, (T 33))])⟩,
     ⟨7, 4, 127, E (.st 3 (T 4) (T 34))⟩]) (
   .ret)) (
   .skip))) (
 .trim [3, 4, 5, 6, 7] (
  .seq (
   .ops [D 35 (.mv (T 5)),
    D 36 (.mv (T 6)),
    D 37 (.call 147 [(T 35), (T 36)]),
    D 38 (.bin .geq (T 37) (I 0))]) (
  .cond (T 38) (
   .trim [4] (
    .draw [⟨0, 0, 0, D 39 (.fa 0 (T 2))⟩,
     ⟨1, 1, 1, D 40 (.ld1 (T 39))⟩,
     ⟨2, 0, 0, D 41 (.mv (T 5))⟩,
     ⟨3, 0, 0, D 42 (.mv (T 6))⟩,
     ⟨5, 0, 0, D 44 (.mv (T 7))⟩,
     ⟨4, 4, 12, D 43 (.call 148 [(T 41), (T 42)])⟩,
     ⟨6, 0, 63, D 45 (.build [(.bool false), (.slice none 0 0), (.slice none 0 0)] [(0, 1, (T 40)), (1, 1, (T 43)), (2, 1, (T 44))])⟩,
     ⟨7, 4, 127, E (.st 3 (T 4) (T 45))⟩]) (
   .ret)) (
   .skip))) (
 .trim [4] (
  .draw [⟨0, 0, 0, D 46 (.fa 0 (T 3))⟩,
   ⟨1, 1, 1, D 47 (.ld1 (T 46))⟩,
   ⟨2, 0, 0, D 48 (.mv (T 6))⟩,
   ⟨3, 0, 0, D 49 (.mv (T 5))⟩,
   ⟨5, 0, 0, D 51 (.mv (T 7))⟩,
   ⟨4, 4, 12, D 50 (.call 148 [(T 48), (T 49)])⟩,
   ⟨6, 0, 63, D 52 (.build [(.bool false), (.slice none 0 0), (.slice none 0 0)] [(0, 1, (T 47)), (1, 1, (T 50)), (2, 1, (T 51))])⟩,
   ⟨7, 4, 127, E (.st 3 (T 4) (T 52))⟩]) (
 .ret))))))⟩
theorem dioramaref02_Sum_ok : Ok Try.prog 127 dioramaref02_Sum := ⟨by kernel_rfl, by kernel_rfl⟩

/-- slices.IndexFunc[[]diorama/api.Time,diorama/api.Time] -/
def slices_IndexFunc___api_Time_api_Time_ : AF := ⟨19, [.tmp 4],
 .seq (
  .ops [D 4 (.mv (I 0))]) (
 .trim [] (
  .seq (
   .ops [D 6 (.mv (T 0)),
    D 7 (.len (T 6)),
    D 8 (.mv (I 0))]) (
  .block 0 (
   .loop [0, 1, 7, 8] (
    .seq (
     .ops [D 9 (.bin .lss (T 8) (T 7))]) (
    .seq (
     .cond (T 9) (
      .skip) (
      .exit 0)) (
    .trim [0, 1, 7, 8] (
     .block 1 (
      .seq (
       .ops [D 10 (.mv (T 8)),
        D 5 (.mv (T 10))]) (
      .trim [0, 1, 5, 7, 8, 16] (
       .ops [D 11 (.mv (T 1)),
        D 12 (.mv (T 0)),
        D 13 (.mv (T 5)),
        D 14 (.ia 2 (T 12) (T 13)),
        D 15 (.ldN 2 (T 14)),
        D 16 (.callv (T 11) [(T 15)])]) (
      .cond (T 16) (
       .seq (
        .ops [D 17 (.mv (T 5)),
         D 4 (.mv (T 17))]) (
       .ret)) (
       .skip))))) (
    .ops [D 18 (.bin .add (T 8) (I 1)),
     D 8 (.mv (T 18))]))))))) (
 .seq (
  .ops [D 4 (.mv (I (-1)))]) (
 .ret)))⟩
theorem slices_IndexFunc___api_Time_api_Time__ok : Ok Try.prog 128 slices_IndexFunc___api_Time_api_Time_ := ⟨by kernel_rfl, by kernel_rfl⟩

/-- diorama/exact.little$1 -/
def exact_little_1 : AF := ⟨16, [.tmp 2],
 .seq (
  .ops [D 1 (.box (T 0)),
   D 2 (.mv (.const (.bool false)))]) (
 .trim [2] (
  .ops [D 3 (.fa 0 (T 1)),
   D 4 (.ld1 (T 3)),
   D 5 (.bin .geq (T 4) (I 1073741824)),
   D 6 (.mv (T 5)),
   ⟨(some 7), some (6, false), .fa 0 (T 1)⟩,
   ⟨(some 8), some (6, false), .ld1 (T 7)⟩,
   ⟨(some 9), some (6, false), .bin .leq (T 8) (I (-1073741824))⟩,
   D 10 (.pick (T 6) (.const (.bool true)) (T 9)),
   D 11 (.mv (T 10)),
   ⟨(some 12), some (11, false), .fa 1 (T 1)⟩,
   ⟨(some 13), some (11, false), .ld1 (T 12)⟩,
   ⟨(some 14), some (11, false), .bin .geq (T 13) (I 1073741824)⟩,
   D 15 (.pick (T 11) (.const (.bool true)) (T 14)),
   D 2 (.mv (T 15))]) (
 .ret))⟩
theorem exact_little_1_ok : Ok Try.prog 129 exact_little_1 := ⟨by kernel_rfl, by kernel_rfl⟩

/-- diorama/num.trim -/
def num_trim : AF := ⟨21, [.tmp 2],
 .seq (
  .ops [D 2 (.mv (.const (.slice none 0 0)))]) (
 .trim [0] (
  .block 0 (
   .loop [0] (
    .trim [0] (
     .trim [0, 14] (
      .ops [D 3 (.mv (T 0)),
       D 4 (.len (T 3)),
       D 5 (.bin .gtr (T 4) (I 0)),
       D 6 (.mv (T 5)),
       ⟨(some 7), some (6, true), .mv (T 0)⟩,
       ⟨(some 8), some (6, true), .mv (T 0)⟩,
       ⟨(some 9), some (6, true), .len (T 8)⟩,
       ⟨(some 10), some (6, true), .bin .sub (T 9) (I 1)⟩,
       ⟨(some 11), some (6, true), .ia 1 (T 7) (T 10)⟩,
       ⟨(some 12), some (6, true), .ld1 (T 11)⟩,
       ⟨(some 13), some (6, true), .bin .eql (T 12) (.const (.int .u32 0))⟩,
       D 14 (.pick (T 6) (T 13) (.const (.bool false)))]) (
     .cond (T 14) (
      .skip) (
      .exit 0))) (
    .block 1 (
     .ops [D 15 (.mv (T 0)),
      D 16 (.mv (T 0)),
      D 17 (.len (T 16)),
      D 18 (.bin .sub (T 17) (I 1)),
      D 19 (.slc 1 (T 15) none (some (T 18)) none),
      D 0 (.mv (T 19))]))))) (
 .seq (
  .ops [D 20 (.mv (T 0)),
   D 2 (.mv (T 20))]) (
 .ret)))⟩
theorem num_trim_ok : Ok Try.prog 130 num_trim := ⟨by kernel_rfl, by kernel_rfl⟩

/-- diorama/num.magOf -/
def num_magOf : AF := ⟨10, [.tmp 2],
 .seq (
  .ops [D 2 (.mv (.const (.slice none 0 0)))]) (
 .trim [2] (
  .ops [D 3 (.mv (T 0)),
   D 4 (.cvi .u32 (T 3)),
   D 5 (.mv (T 0)),
   D 6 (.shrc (T 5) 32),
   D 7 (.cvi .u32 (T 6)),
   D 8 (.bslice [(.int .u32 0), (.int .u32 0)] 2 [(0, 1, (T 4)), (1, 1, (T 7))]),
   D 9 (.call 130 [(T 8)]),
   D 2 (.mv (T 9))]) (
 .ret))⟩
theorem num_magOf_ok : Ok Try.prog 131 num_magOf := ⟨by kernel_rfl, by kernel_rfl⟩

/-- math/bits.LeadingZeros32 -/
def bits_LeadingZeros32 : AF := ⟨6, [.tmp 2],
 .seq (
  .ops [D 2 (.mv (I 0))]) (
 .seq (
  .ops [D 3 (.mv (T 0)),
   D 4 (.call 149 [(T 3)]),
   D 5 (.bin .sub (I 32) (T 4)),
   D 2 (.mv (T 5))]) (
 .ret))⟩
theorem bits_LeadingZeros32_ok : Ok Try.prog 132 bits_LeadingZeros32 := ⟨by kernel_rfl, by kernel_rfl⟩

/-- diorama/num.shift -/
def num_shift : AF := ⟨41, [.tmp 4],
 .seq (
  .ops [D 4 (.mv (.const (.slice none 0 0)))]) (
 .seq (
  .ops [D 9 (.mv (T 0)),
   D 10 (.len (T 9)),
   D 11 (.bin .add (T 10) (I 1)),
   D 12 (.mks [(.int .u32 0)] 4 (T 11) (T 11)),
   D 5 (.mv (T 12))]) (
 .seq (
  .ops [D 6 (.mv (.const (.int .u64 0)))]) (
 .trim [0, 5, 6] (
  .seq (
   .ops [D 13 (.mv (T 0)),
    D 14 (.len (T 13)),
    D 15 (.mv (I 0))]) (
  .block 0 (
   .loop [0, 1, 5, 6, 13, 14, 15] (
    .seq (
     .ops [D 16 (.bin .lss (T 15) (T 14))]) (
    .seq (
     .cond (T 16) (
      .skip) (
      .exit 0)) (
    .trim [0, 1, 5, 6, 13, 14, 15] (
     .block 1 (
      .seq (
       .ops [D 17 (.mv (T 15)),
        D 18 (.ia 1 (T 13) (T 15)),
        D 19 (.ld1 (T 18)),
        D 7 (.mv (T 17)),
        D 8 (.mv (T 19))]) (
      .trim [0, 1, 5, 6, 7, 13, 14, 15] (
       .ops [D 20 (.mv (T 6)),
        D 21 (.mv (T 8)),
        D 22 (.cvi .u64 (T 21)),
        D 23 (.mv (T 1)),
        D 24 (.bin .shl (T 22) (T 23)),
        D 25 (.bin .or (T 20) (T 24)),
        D 6 (.mv (T 25))]) (
      .trim [0, 1, 5, 6, 13, 14, 15] (
       .ops [D 26 (.mv (T 5)),
        D 27 (.mv (T 7)),
        D 28 (.mv (T 6)),
        D 29 (.cvi .u32 (T 28)),
        D 30 (.ia 1 (T 26) (T 27)),
        E (.st 1 (T 30) (T 29))]) (
      .ops [D 31 (.mv (T 6)),
       D 32 (.shrc (T 31) 32),
       D 6 (.mv (T 32))]))))) (
    .ops [D 33 (.bin .add (T 15) (I 1)),
     D 15 (.mv (T 33))]))))))) (
 .trim [5] (
  .ops [D 34 (.mv (T 5)),
   D 35 (.mv (T 0)),
   D 36 (.len (T 35)),
   D 37 (.mv (T 6)),
   D 38 (.cvi .u32 (T 37)),
   D 39 (.ia 1 (T 34) (T 36)),
   E (.st 1 (T 39) (T 38))]) (
 .seq (
  .ops [D 40 (.mv (T 5)),
   D 4 (.mv (T 40))]) (
 .ret))))))⟩
theorem num_shift_ok : Ok Try.prog 133 num_shift := ⟨by kernel_rfl, by kernel_rfl⟩

/-- diorama/num.digit -/
def num_digit : AF := ⟨174, [.tmp 4],
 .seq (
  .ops [D 4 (.mv (.const (.int .u32 0)))]) (
 .seq (
  .ops [D 18 (.mv (T 1)),
   D 19 (.len (T 18)),
   D 5 (.mv (T 19))]) (
 .trim [0, 1, 5, 6] (
  .draw [⟨0, 0, 0, D 20 (.mv (T 0))⟩,
   ⟨1, 0, 0, D 21 (.mv (T 5))⟩,
   ⟨2, 0, 3, D 22 (.ia 1 (T 20) (T 21))⟩,
   ⟨3, 1, 7, D 23 (.ld1 (T 22))⟩,
   ⟨4, 0, 15, D 24 (.cvi .u64 (T 23))⟩,
   ⟨5, 0, 31, D 25 (.shlc (T 24) 32)⟩,
   ⟨6, 0, 0, D 26 (.mv (T 0))⟩,
   ⟨7, 0, 0, D 27 (.mv (T 5))⟩,
   ⟨8, 0, 128, D 28 (.bin .sub (T 27) (I 1))⟩,
   ⟨9, 0, 448, D 29 (.ia 1 (T 26) (T 28))⟩,
   ⟨10, 1, 960, D 30 (.ld1 (T 29))⟩,
   ⟨11, 0, 1984, D 31 (.cvi .u64 (T 30))⟩,
   ⟨12, 0, 4095, D 32 (.bin .or (T 25) (T 31))⟩,
   ⟨13, 0, 8191, D 6 (.mv (T 32))⟩]) (
 .trim [0, 1, 5, 7, 8] (
  .draw [⟨0, 0, 0, D 33 (.mv (T 6))⟩,
   ⟨1, 0, 0, D 34 (.mv (T 1))⟩,
   ⟨2, 0, 0, D 35 (.mv (T 5))⟩,
   ⟨3, 0, 4, D 36 (.bin .sub (T 35) (I 1))⟩,
   ⟨4, 0, 14, D 37 (.ia 1 (T 34) (T 36))⟩,
   ⟨5, 1, 30, D 38 (.ld1 (T 37))⟩,
   ⟨6, 0, 62, D 39 (.cvi .u64 (T 38))⟩,
   ⟨7, 0, 127, D 40 (.bin .quo (T 33) (T 39))⟩,
   ⟨8, 0, 0, D 41 (.mv (T 6))⟩,
   ⟨9, 0, 0, D 42 (.mv (T 1))⟩,
   ⟨10, 0, 0, D 43 (.mv (T 5))⟩,
   ⟨11, 0, 1024, D 44 (.bin .sub (T 43) (I 1))⟩,
   ⟨12, 0, 3584, D 45 (.ia 1 (T 42) (T 44))⟩,
   ⟨13, 1, 7680, D 46 (.ld1 (T 45))⟩,
   ⟨14, 0, 15872, D 47 (.cvi .u64 (T 46))⟩,
   ⟨15, 0, 32512, D 48 (.bin .rem (T 41) (T 47))⟩,
   ⟨16, 0, 255, D 7 (.mv (T 40))⟩,
   ⟨17, 0, 131071, D 8 (.mv (T 48))⟩]) (
 .trim [0, 1, 5, 7] (
  .block 0 (
   .loop [0, 1, 5, 7, 8] (
    .trim [0, 1, 5, 7, 8] (
     .trim [0, 1, 5, 7, 8, 71] (
      .draw [⟨0, 0, 0, D 49 (.mv (T 7))⟩,
       ⟨1, 0, 1, D 50 (.shrc (T 49) 32)⟩,
       ⟨2, 0, 3, D 51 (.bin .gtr (T 50) (.const (.int .u64 0)))⟩,
       ⟨3, 0, 7, D 52 (.mv (T 51))⟩,
       ⟨4, 0, 15, ⟨(some 53), some (52, false), .mv (T 7)⟩⟩,
       ⟨5, 0, 15, ⟨(some 54), some (52, false), .mv (T 1)⟩⟩,
       ⟨6, 0, 15, ⟨(some 55), some (52, false), .mv (T 5)⟩⟩,
       ⟨7, 0, 79, ⟨(some 56), some (52, false), .bin .sub (T 55) (I 2)⟩⟩,
       ⟨8, 0, 239, ⟨(some 57), some (52, false), .ia 1 (T 54) (T 56)⟩⟩,
       ⟨9, 1, 495, ⟨(some 58), some (52, false), .ld1 (T 57)⟩⟩,
       ⟨10, 0, 1007, ⟨(some 59), some (52, false), .cvi .u64 (T 58)⟩⟩,
       ⟨11, 0, 2047, ⟨(some 60), some (52, false), .bin .mul (T 53) (T 59)⟩⟩,
       ⟨12, 0, 15, ⟨(some 61), some (52, false), .mv (T 8)⟩⟩,
       ⟨13, 0, 4111, ⟨(some 62), some (52, false), .shlc (T 61) 32⟩⟩,
       ⟨14, 0, 15, ⟨(some 63), some (52, false), .mv (T 0)⟩⟩,
       ⟨15, 0, 15, ⟨(some 64), some (52, false), .mv (T 5)⟩⟩,
       ⟨16, 0, 32783, ⟨(some 65), some (52, false), .bin .sub (T 64) (I 2)⟩⟩,
       ⟨17, 0, 114703, ⟨(some 66), some (52, false), .ia 1 (T 63) (T 65)⟩⟩,
       ⟨18, 1, 245775, ⟨(some 67), some (52, false), .ld1 (T 66)⟩⟩,
       ⟨19, 0, 507919, ⟨(some 68), some (52, false), .cvi .u64 (T 67)⟩⟩,
       ⟨20, 0, 1044495, ⟨(some 69), some (52, false), .bin .or (T 62) (T 68)⟩⟩,
       ⟨21, 0, 2097151, ⟨(some 70), some (52, false), .bin .gtr (T 60) (T 69)⟩⟩,
       ⟨22, 0, 4194303, D 71 (.pick (T 52) (.const (.bool true)) (T 70))⟩]) (
     .cond (T 71) (
      .skip) (
      .exit 0))) (
    .block 1 (
     .seq (
      .ops [D 72 (.mv (T 7)),
       D 73 (.bin .sub (T 72) (.const (.int .u64 1))),
       D 7 (.mv (T 73))]) (
     .trim [0, 1, 5, 7, 8] (
      .ops [D 74 (.mv (T 8)),
       D 75 (.mv (T 1)),
       D 76 (.mv (T 5)),
       D 77 (.bin .sub (T 76) (I 1)),
       D 78 (.ia 1 (T 75) (T 77)),
       D 79 (.ld1 (T 78)),
       D 80 (.cvi .u64 (T 79)),
       D 81 (.bin .add (T 74) (T 80)),
       D 8 (.mv (T 81))]) (
     .seq (
      .ops [D 82 (.mv (T 8)),
       D 83 (.shrc (T 82) 32),
       D 84 (.bin .gtr (T 83) (.const (.int .u64 0)))]) (
     .cond (T 84) (
      .exit 0) (
      .skip))))))))) (
 .seq (
  .ops [D 9 (.mv (.const (.int .u64 0))),
   D 10 (.mv (.const (.int .u64 0)))]) (
 .trim [0, 1, 5, 7, 9, 10] (
  .seq (
   .ops [D 85 (.mv (T 1)),
    D 86 (.len (T 85)),
    D 87 (.mv (I 0))]) (
  .block 2 (
   .loop [0, 1, 5, 7, 9, 10, 85, 86, 87] (
    .seq (
     .ops [D 88 (.bin .lss (T 87) (T 86))]) (
    .seq (
     .cond (T 88) (
      .skip) (
      .exit 2)) (
    .trim [0, 1, 5, 7, 9, 10, 85, 86, 87] (
     .block 3 (
      .seq (
       .ops [D 89 (.mv (T 87)),
        D 90 (.ia 1 (T 85) (T 87)),
        D 91 (.ld1 (T 90)),
        D 11 (.mv (T 89)),
        D 12 (.mv (T 91))]) (
      .trim [0, 1, 5, 7, 9, 10, 11, 85, 86, 87] (
       .ops [D 92 (.mv (T 9)),
        D 93 (.mv (T 7)),
        D 94 (.mv (T 12)),
        D 95 (.cvi .u64 (T 94)),
        D 96 (.bin .mul (T 93) (T 95)),
        D 97 (.bin .add (T 92) (T 96)),
        D 9 (.mv (T 97))]) (
      .trim [0, 1, 5, 7, 9, 11, 13, 85, 86, 87] (
       .ops [D 98 (.mv (T 0)),
        D 99 (.mv (T 11)),
        D 100 (.ia 1 (T 98) (T 99)),
        D 101 (.ld1 (T 100)),
        D 102 (.cvi .u64 (T 101)),
        D 103 (.mv (T 9)),
        D 104 (.cvi .u32 (T 103)),
        D 105 (.cvi .u64 (T 104)),
        D 106 (.bin .sub (T 102) (T 105)),
        D 107 (.mv (T 10)),
        D 108 (.bin .sub (T 106) (T 107)),
        D 13 (.mv (T 108))]) (
      .trim [0, 1, 5, 7, 9, 13, 85, 86, 87] (
       .ops [D 109 (.mv (T 0)),
        D 110 (.mv (T 11)),
        D 111 (.mv (T 13)),
        D 112 (.cvi .u32 (T 111)),
        D 113 (.ia 1 (T 109) (T 110)),
        E (.st 1 (T 113) (T 112))]) (
      .seq (
       .ops [D 114 (.mv (T 9)),
        D 115 (.shrc (T 114) 32),
        D 9 (.mv (T 115))]) (
      .ops [D 116 (.mv (T 13)),
       D 117 (.shrc (T 116) 63),
       D 10 (.mv (T 117))]))))))) (
    .ops [D 118 (.bin .add (T 87) (I 1)),
     D 87 (.mv (T 118))]))))))) (
 .trim [0, 1, 5, 7, 14] (
  .ops [D 119 (.mv (T 0)),
   D 120 (.mv (T 5)),
   D 121 (.ia 1 (T 119) (T 120)),
   D 122 (.ld1 (T 121)),
   D 123 (.cvi .u64 (T 122)),
   D 124 (.mv (T 9)),
   D 125 (.bin .sub (T 123) (T 124)),
   D 126 (.mv (T 10)),
   D 127 (.bin .sub (T 125) (T 126)),
   D 14 (.mv (T 127))]) (
 .trim [0, 1, 5, 7, 14] (
  .ops [D 128 (.mv (T 0)),
   D 129 (.mv (T 5)),
   D 130 (.mv (T 14)),
   D 131 (.cvi .u32 (T 130)),
   D 132 (.ia 1 (T 128) (T 129)),
   E (.st 1 (T 132) (T 131))]) (
 .trim [0, 1, 5, 7] (
  .seq (
   .ops [D 133 (.mv (T 14)),
    D 134 (.shrc (T 133) 63),
    D 135 (.bin .eql (T 134) (.const (.int .u64 0)))]) (
  .cond (T 135) (
   .seq (
    .ops [D 136 (.mv (T 7)),
     D 137 (.cvi .u32 (T 136)),
     D 4 (.mv (T 137))]) (
   .ret)) (
   .skip))) (
 .seq (
  .ops [D 15 (.mv (.const (.int .u64 0)))]) (
 .trim [0, 5, 7, 15] (
  .seq (
   .ops [D 138 (.mv (T 1)),
    D 139 (.len (T 138)),
    D 140 (.mv (I 0))]) (
  .block 4 (
   .loop [0, 5, 7, 15, 138, 139, 140] (
    .seq (
     .ops [D 141 (.bin .lss (T 140) (T 139))]) (
    .seq (
     .cond (T 141) (
      .skip) (
      .exit 4)) (
    .trim [0, 5, 7, 15, 138, 139, 140] (
     .block 5 (
      .seq (
       .ops [D 142 (.mv (T 140)),
        D 143 (.ia 1 (T 138) (T 140)),
        D 144 (.ld1 (T 143)),
        D 16 (.mv (T 142)),
        D 17 (.mv (T 144))]) (
      .trim [0, 5, 7, 15, 16, 138, 139, 140] (
       .ops [D 145 (.mv (T 15)),
        D 146 (.mv (T 0)),
        D 147 (.mv (T 16)),
        D 148 (.ia 1 (T 146) (T 147)),
        D 149 (.ld1 (T 148)),
        D 150 (.cvi .u64 (T 149)),
        D 151 (.mv (T 17)),
        D 152 (.cvi .u64 (T 151)),
        D 153 (.bin .add (T 150) (T 152)),
        D 154 (.bin .add (T 145) (T 153)),
        D 15 (.mv (T 154))]) (
      .trim [0, 5, 7, 15, 138, 139, 140] (
       .ops [D 155 (.mv (T 0)),
        D 156 (.mv (T 16)),
        D 157 (.mv (T 15)),
        D 158 (.cvi .u32 (T 157)),
        D 159 (.ia 1 (T 155) (T 156)),
        E (.st 1 (T 159) (T 158))]) (
      .ops [D 160 (.mv (T 15)),
       D 161 (.shrc (T 160) 32),
       D 15 (.mv (T 161))]))))) (
    .ops [D 162 (.bin .add (T 140) (I 1)),
     D 140 (.mv (T 162))]))))))) (
 .trim [7] (
  .ops [D 163 (.mv (T 0)),
   D 164 (.mv (T 5)),
   D 165 (.ia 1 (T 163) (T 164)),
   D 166 (.ld1 (T 165)),
   D 167 (.mv (T 15)),
   D 168 (.cvi .u32 (T 167)),
   D 169 (.bin .add (T 166) (T 168)),
   D 170 (.ia 1 (T 163) (T 164)),
   E (.st 1 (T 170) (T 169))]) (
 .seq (
  .ops [D 171 (.mv (T 7)),
   D 172 (.bin .sub (T 171) (.const (.int .u64 1))),
   D 173 (.cvi .u32 (T 172)),
   D 4 (.mv (T 173))]) (
 .ret))))))))))))))⟩
theorem num_digit_ok : Ok Try.prog 134 num_digit := ⟨by kernel_rfl, by kernel_rfl⟩

/-- diorama/num.sign -/
def num_sign : AF := ⟨6, [.tmp 2],
 .seq (
  .ops [D 2 (.mv (I 0))]) (
 .seq (
  .ops [D 3 (.mv (T 0)),
   D 4 (.mn [(I 1), (T 3)]),
   D 5 (.mx [(I (-1)), (T 4)]),
   D 2 (.mv (T 5))]) (
 .ret))⟩
theorem num_sign_ok : Ok Try.prog 135 num_sign := ⟨by kernel_rfl, by kernel_rfl⟩

/-- diorama/dioramaref00.plus -/
def dioramaref00_plus : AF := ⟨46, [.cellN 2 4],
 .seq (
  .ops [D 2 (.box (T 0)),
   D 3 (.box (T 1)),
   D 4 (.alloc [(.bool false), (.slice none 0 0)])]) (
 .seq (
  .ops [D 5 (.alloc [(.bool false), (.slice none 0 0)])]) (
 .seq (
  .ops [D 6 (.mv (I 0))]) (
 .trim [4, 5] (
  .seq (
   .ops [D 7 (.mv (I 0))]) (
  .block 0 (
   .loop [2, 3, 4, 5, 6, 7] (
    .trim [2, 3, 4, 5, 6, 7] (
     .trim [2, 3, 4, 5, 6, 7, 24] (
      .ops [D 9 (.mv (T 7)),
       D 10 (.fa 1 (T 2)),
       D 11 (.ld1 (T 10)),
       D 12 (.len (T 11)),
       D 13 (.bin .lss (T 9) (T 12)),
       D 14 (.mv (T 13)),
       ⟨(some 15), some (14, false), .mv (T 7)⟩,
       ⟨(some 16), some (14, false), .fa 1 (T 3)⟩,
       ⟨(some 17), some (14, false), .ld1 (T 16)⟩,
       ⟨(some 18), some (14, false), .len (T 17)⟩,
       ⟨(some 19), some (14, false), .bin .lss (T 15) (T 18)⟩,
       D 20 (.pick (T 14) (.const (.bool true)) (T 19)),
       D 21 (.mv (T 20)),
       ⟨(some 22), some (21, false), .mv (T 6)⟩,
       ⟨(some 23), some (21, false), .bin .gtr (T 22) (I 0)⟩,
       D 24 (.pick (T 21) (.const (.bool true)) (T 23))]) (
     .cond (T 24) (
      .skip) (
      .exit 0))) (
    .trim [2, 3, 4, 5, 6, 7] (
     .block 1 (
      .trim [2, 3, 4, 5, 7, 8] (
       .draw [⟨0, 1, 0, D 27 (.ldN 2 (T 2))⟩,
        ⟨1, 0, 0, D 28 (.mv (T 7))⟩,
        ⟨3, 1, 0, D 30 (.ldN 2 (T 3))⟩,
        ⟨4, 0, 0, D 31 (.mv (T 7))⟩,
        ⟨7, 0, 0, D 34 (.mv (T 6))⟩,
        ⟨2, 4, 3, D 29 (.call 89 [(T 27), (T 28)])⟩,
        ⟨5, 4, 31, D 32 (.call 89 [(T 30), (T 31)])⟩,
        ⟨6, 0, 63, D 33 (.bin .add (T 29) (T 32))⟩,
        ⟨8, 0, 255, D 35 (.bin .add (T 33) (T 34))⟩,
        ⟨9, 0, 511, D 8 (.mv (T 35))⟩]) (
      .trim [2, 3, 4, 5, 7, 8] (
       .ops [D 36 (.fa 1 (T 5)),
        D 37 (.ld1 (T 36)),
        D 38 (.mv (T 8)),
        D 39 (.bin .rem (T 38) (I 16777216)),
        D 40 (.bslice [(.int .i64 0)] 1 [(0, 1, (T 39))]),
        D 41 (.app 1 8 (T 37) (T 40)),
        D 42 (.fa 1 (T 5)),
        E (.st 1 (T 42) (T 41))]) (
      .ops [D 43 (.mv (T 8)),
       D 44 (.bin .quo (T 43) (I 16777216)),
       D 6 (.mv (T 44))])))) (
    .ops [D 25 (.mv (T 7)),
     D 26 (.bin .add (T 25) (I 1)),
     D 7 (.mv (T 26))])))))) (
 .seq (
  .ops [D 45 (.ldN 2 (T 5)),
   E (.st 2 (T 4) (T 45))]) (
 .ret)))))⟩
theorem dioramaref00_plus_ok : Ok Try.prog 136 dioramaref00_plus := ⟨by kernel_rfl, by kernel_rfl⟩

/-- diorama/dioramaref00.minus -/
def dioramaref00_minus : AF := ⟨39, [.cellN 2 4],
 .seq (
  .ops [D 2 (.box (T 0)),
   D 3 (.box (T 1)),
   D 4 (.alloc [(.bool false), (.slice none 0 0)])]) (
 .seq (
  .ops [D 5 (.alloc [(.bool false), (.slice none 0 0)])]) (
 .seq (
  .ops [D 6 (.mv (I 0))]) (
 .trim [4, 5] (
  .seq (
   .ops [D 7 (.mv (I 0))]) (
  .block 0 (
   .loop [2, 3, 4, 5, 6, 7] (
    .trim [2, 3, 4, 5, 6, 7] (
     .seq (
      .ops [D 9 (.mv (T 7)),
       D 10 (.fa 1 (T 2)),
       D 11 (.ld1 (T 10)),
       D 12 (.len (T 11)),
       D 13 (.bin .lss (T 9) (T 12))]) (
     .cond (T 13) (
      .skip) (
      .exit 0))) (
    .trim [2, 3, 4, 5, 6, 7] (
     .block 1 (
      .trim [2, 3, 4, 5, 7, 8] (
       .draw [⟨0, 0, 0, D 16 (.fa 1 (T 2))⟩,
        ⟨1, 1, 1, D 17 (.ld1 (T 16))⟩,
        ⟨2, 0, 0, D 18 (.mv (T 7))⟩,
        ⟨3, 0, 7, D 19 (.ia 1 (T 17) (T 18))⟩,
        ⟨4, 1, 15, D 20 (.ld1 (T 19))⟩,
        ⟨5, 1, 0, D 21 (.ldN 2 (T 3))⟩,
        ⟨6, 0, 0, D 22 (.mv (T 7))⟩,
        ⟨9, 0, 0, D 25 (.mv (T 6))⟩,
        ⟨7, 4, 96, D 23 (.call 89 [(T 21), (T 22)])⟩,
        ⟨8, 0, 255, D 24 (.bin .sub (T 20) (T 23))⟩,
        ⟨10, 0, 1023, D 26 (.bin .sub (T 24) (T 25))⟩,
        ⟨11, 0, 2047, D 8 (.mv (T 26))⟩]) (
      .seq (
       .ops [D 6 (.mv (I 0))]) (
      .seq (
       .seq (
        .ops [D 27 (.mv (T 8)),
         D 28 (.bin .lss (T 27) (I 0))]) (
       .cond (T 28) (
        .seq (
         .ops [D 29 (.mv (T 8)),
          D 30 (.bin .add (T 29) (I 16777216)),
          D 8 (.mv (T 30))]) (
        .ops [D 6 (.mv (I 1))])) (
        .skip))) (
      .ops [D 31 (.fa 1 (T 5)),
       D 32 (.ld1 (T 31)),
       D 33 (.mv (T 8)),
       D 34 (.bslice [(.int .i64 0)] 1 [(0, 1, (T 33))]),
       D 35 (.app 1 8 (T 32) (T 34)),
       D 36 (.fa 1 (T 5)),
       E (.st 1 (T 36) (T 35))]))))) (
    .ops [D 14 (.mv (T 7)),
     D 15 (.bin .add (T 14) (I 1)),
     D 7 (.mv (T 15))])))))) (
 .seq (
  .ops [D 37 (.ldN 2 (T 5)),
   D 38 (.call 90 [(T 37)]),
   E (.st 2 (T 4) (T 38))]) (
 .ret)))))⟩
theorem dioramaref00_minus_ok : Ok Try.prog 137 dioramaref00_minus := ⟨by kernel_rfl, by kernel_rfl⟩

/-- diorama/dioramaref00.shifted -/
def dioramaref00_shifted : AF := ⟨17, [.cellN 2 4],
 .seq (
  .ops [D 2 (.box (T 0)),
   D 4 (.alloc [(.bool false), (.slice none 0 0)])]) (
 .seq (
  .ops [D 6 (.mv (T 1)),
   D 7 (.bslice [(.int .i64 0)] 1 [(0, 1, (T 6))]),
   D 8 (.build [(.bool false), (.slice none 0 0)] [(1, 1, (T 7))]),
   D 5 (.alloc [(.bool false), (.slice none 0 0)]),
   E (.st 2 (T 5) (T 8))]) (
 .trim [4, 5] (
  .ops [D 9 (.fa 1 (T 5)),
   D 10 (.ld1 (T 9)),
   D 11 (.fa 1 (T 2)),
   D 12 (.ld1 (T 11)),
   D 13 (.app 1 8 (T 10) (T 12)),
   D 14 (.fa 1 (T 5)),
   E (.st 1 (T 14) (T 13))]) (
 .seq (
  .ops [D 15 (.ldN 2 (T 5)),
   D 16 (.call 90 [(T 15)]),
   E (.st 2 (T 4) (T 16))]) (
 .ret))))⟩
theorem dioramaref00_shifted_ok : Ok Try.prog 138 dioramaref00_shifted := ⟨by kernel_rfl, by kernel_rfl⟩

/-- diorama/dioramaref00.times -/
def dioramaref00_times : AF := ⟨11, [.cellN 2 4],
 .seq (
  .ops [D 2 (.box (T 0)),
   D 4 (.alloc [(.bool false), (.slice none 0 0)])]) (
 .trim [4] (
  .draw [⟨0, 0, 0, D 5 (.fa 1 (T 2))⟩,
   ⟨1, 1, 1, D 6 (.ld1 (T 5))⟩,
   ⟨2, 0, 3, D 7 (.build [(.bool false), (.slice none 0 0)] [(1, 1, (T 6))])⟩,
   ⟨3, 0, 0, D 8 (.mv (T 1))⟩,
   ⟨4, 4, 8, D 9 (.call 92 [(T 8)])⟩,
   ⟨5, 4, 31, D 10 (.call 47 [(T 7), (T 9)])⟩,
   ⟨6, 4, 63, E (.st 2 (T 4) (T 10))⟩]) (
 .ret))⟩
theorem dioramaref00_times_ok : Ok Try.prog 139 dioramaref00_times := ⟨by kernel_rfl, by kernel_rfl⟩

/-- diorama/model.Check -/
def model_Check : AF := ⟨121, [.tmp 2, .tmp 3],
 .seq (
  .ops [D 1 (.box (T 0)),
   D 2 (.mv (I 0)),
   D 3 (.mv (I 0))]) (
 .trim [1] (
  .trim [1, 24] (
   .ops [D 15 (.fa 0 (T 1)),
    D 16 (.ld1 (T 15)),
    D 17 (.call 150 [(T 16), (I 1), (I 1000000)]),
    D 18 (.un .not (T 17)),
    D 19 (.mv (T 18)),
    ⟨(some 20), some (19, false), .fa 1 (T 1)⟩,
    ⟨(some 21), some (19, false), .ld1 (T 20)⟩,
    ⟨(some 22), some (19, false), .call 151 [(T 21)]⟩,
    ⟨(some 23), some (19, false), .un .not (T 22)⟩,
    D 24 (.pick (T 19) (.const (.bool true)) (T 23))]) (
  .cond (T 24) (
   .seq (
    .ops [D 2 (.mv (I 1)),
     D 3 (.mv (I (-1)))]) (
   .ret)) (
   .skip))) (
 .trim [1] (
  .trim [1, 46] (
   .ops [D 25 (.fa 2 (T 1)),
    D 26 (.ld1 (T 25)),
    D 27 (.len (T 26)),
    D 28 (.bin .gtr (T 27) (I 8)),
    D 29 (.mv (T 28)),
    ⟨(some 30), some (29, false), .fa 3 (T 1)⟩,
    ⟨(some 31), some (29, false), .ld1 (T 30)⟩,
    ⟨(some 32), some (29, false), .len (T 31)⟩,
    ⟨(some 33), some (29, false), .bin .gtr (T 32) (I 4)⟩,
    D 34 (.pick (T 29) (.const (.bool true)) (T 33)),
    D 35 (.mv (T 34)),
    ⟨(some 36), some (35, false), .fa 4 (T 1)⟩,
    ⟨(some 37), some (35, false), .ld1 (T 36)⟩,
    ⟨(some 38), some (35, false), .len (T 37)⟩,
    ⟨(some 39), some (35, false), .bin .gtr (T 38) (I 20)⟩,
    D 40 (.pick (T 35) (.const (.bool true)) (T 39)),
    D 41 (.mv (T 40)),
    ⟨(some 42), some (41, false), .fa 5 (T 1)⟩,
    ⟨(some 43), some (41, false), .ld1 (T 42)⟩,
    ⟨(some 44), some (41, false), .len (T 43)⟩,
    ⟨(some 45), some (41, false), .bin .gtr (T 44) (I 6)⟩,
    D 46 (.pick (T 41) (.const (.bool true)) (T 45))]) (
  .cond (T 46) (
   .seq (
    .ops [D 2 (.mv (I 2)),
     D 3 (.mv (I (-1)))]) (
   .ret)) (
   .skip))) (
 .trim [1] (
  .seq (
   .ops [D 47 (.fa 2 (T 1)),
    D 48 (.ld1 (T 47)),
    D 49 (.len (T 48)),
    D 50 (.mv (I 0))]) (
  .block 0 (
   .loop [1, 48, 49, 50] (
    .seq (
     .ops [D 51 (.bin .lss (T 50) (T 49))]) (
    .seq (
     .cond (T 51) (
      .skip) (
      .exit 0)) (
    .trim [1, 48, 49, 50] (
     .block 1 (
      .seq (
       .ops [D 52 (.mv (T 50)),
        D 53 (.ia 11 (T 48) (T 50)),
        D 54 (.ldN 11 (T 53)),
        D 5 (.alloc [(.int .i64 0), (.int .i64 0), (.string ⟨#[]⟩), (.int .i64 0), (.slice none 0 0), (.string ⟨#[]⟩), (.string ⟨#[]⟩), (.int .i64 0), (.slice none 0 0), (.slice none 0 0), (.slice none 0 0)]),
        D 4 (.mv (T 52)),
        E (.st 11 (T 5) (T 54))]) (
      .seq (
       .ops [D 55 (.ldN 11 (T 5)),
        D 56 (.call 152 [(T 55)]),
        D 6 (.mv (T 56))]) (
      .seq (
       .ops [D 57 (.mv (T 6)),
        D 58 (.bin .neq (T 57) (I 0))]) (
      .cond (T 58) (
       .seq (
        .ops [D 59 (.mv (T 6)),
         D 60 (.mv (T 4)),
         D 2 (.mv (T 59)),
         D 3 (.mv (T 60))]) (
       .ret)) (
       .skip)))))) (
    .ops [D 61 (.bin .add (T 50) (I 1)),
     D 50 (.mv (T 61))]))))))) (
 .trim [1] (
  .seq (
   .ops [D 62 (.fa 2 (T 1)),
    D 63 (.ld1 (T 62)),
    D 64 (.len (T 63)),
    D 65 (.mv (I 0))]) (
  .block 2 (
   .loop [1, 63, 64, 65] (
    .seq (
     .ops [D 66 (.bin .lss (T 65) (T 64))]) (
    .seq (
     .cond (T 66) (
      .skip) (
      .exit 2)) (
    .trim [1, 63, 64, 65] (
     .block 3 (
      .seq (
       .ops [D 67 (.mv (T 65)),
        D 68 (.ia 11 (T 63) (T 65)),
        D 69 (.ldN 11 (T 68)),
        D 8 (.alloc [(.int .i64 0), (.int .i64 0), (.string ⟨#[]⟩), (.int .i64 0), (.slice none 0 0), (.string ⟨#[]⟩), (.string ⟨#[]⟩), (.int .i64 0), (.slice none 0 0), (.slice none 0 0), (.slice none 0 0)]),
        D 7 (.mv (T 67)),
        E (.st 11 (T 8) (T 69))]) (
      .trim [1, 7, 63, 64, 65, 75] (
       .ops [D 70 (.ldN 6 (T 1)),
        D 71 (.fa 0 (T 8)),
        D 72 (.ld1 (T 71)),
        D 73 (.call 141 [(T 70), (T 72)]),
        D 74 (.mv (T 7)),
        D 75 (.bin .lss (T 73) (T 74))]) (
      .cond (T 75) (
       .seq (
        .ops [D 76 (.mv (T 7)),
         D 2 (.mv (I 30)),
         D 3 (.mv (T 76))]) (
       .ret)) (
       .skip))))) (
    .ops [D 77 (.bin .add (T 65) (I 1)),
     D 65 (.mv (T 77))]))))))) (
 .trim [1] (
  .seq (
   .ops [D 78 (.fa 2 (T 1)),
    D 79 (.ld1 (T 78)),
    D 80 (.len (T 79)),
    D 81 (.mv (I 0))]) (
  .block 4 (
   .loop [1, 79, 80, 81] (
    .seq (
     .ops [D 82 (.bin .lss (T 81) (T 80))]) (
    .seq (
     .cond (T 82) (
      .skip) (
      .exit 4)) (
    .trim [1, 79, 80, 81] (
     .block 5 (
      .seq (
       .ops [D 83 (.mv (T 81)),
        D 84 (.ia 11 (T 79) (T 81)),
        D 85 (.ldN 11 (T 84)),
        D 10 (.alloc [(.int .i64 0), (.int .i64 0), (.string ⟨#[]⟩), (.int .i64 0), (.slice none 0 0), (.string ⟨#[]⟩), (.string ⟨#[]⟩), (.int .i64 0), (.slice none 0 0), (.slice none 0 0), (.slice none 0 0)]),
        D 9 (.mv (T 83)),
        E (.st 11 (T 10) (T 85))]) (
      .seq (
       .ops [D 86 (.fa 9 (T 10)),
        D 87 (.ld1 (T 86)),
        D 88 (.len (T 87)),
        D 89 (.mv (I 0))]) (
      .block 6 (
       .loop [1, 9, 10, 79, 80, 81, 87, 88, 89] (
        .seq (
         .ops [D 90 (.bin .lss (T 89) (T 88))]) (
        .seq (
         .cond (T 90) (
          .skip) (
          .exit 6)) (
        .trim [1, 9, 10, 79, 80, 81, 87, 88, 89] (
         .block 7 (
          .seq (
           .ops [D 91 (.ia 2 (T 87) (T 89)),
            D 92 (.ldN 2 (T 91)),
            D 12 (.alloc [(.string ⟨#[]⟩), (.int .i64 0)]),
            E (.st 2 (T 12) (T 92))]) (
          .trim [1, 9, 10, 79, 80, 81, 87, 88, 89, 104] (
           .ops [D 93 (.fa 1 (T 12)),
            D 94 (.ld1 (T 93)),
            D 95 (.fa 0 (T 10)),
            D 96 (.ld1 (T 95)),
            D 97 (.bin .eql (T 94) (T 96)),
            D 98 (.mv (T 97)),
            ⟨(some 99), some (98, false), .ldN 6 (T 1)⟩,
            ⟨(some 100), some (98, false), .fa 1 (T 12)⟩,
            ⟨(some 101), some (98, false), .ld1 (T 100)⟩,
            ⟨(some 102), some (98, false), .call 141 [(T 99), (T 101)]⟩,
            ⟨(some 103), some (98, false), .bin .lss (T 102) (I 0)⟩,
            D 104 (.pick (T 98) (.const (.bool true)) (T 103))]) (
          .cond (T 104) (
           .seq (
            .ops [D 105 (.mv (T 9)),
             D 2 (.mv (I 30)),
             D 3 (.mv (T 105))]) (
           .ret)) (
           .skip))))) (
        .ops [D 106 (.bin .add (T 89) (I 1)),
         D 89 (.mv (T 106))]))))))))) (
    .ops [D 107 (.bin .add (T 81) (I 1)),
     D 81 (.mv (T 107))]))))))) (
 .trim [1] (
  .seq (
   .ops [D 108 (.ldN 6 (T 1)),
    D 109 (.call 153 [(T 108)]),
    D 13 (.mv (T 109))]) (
  .seq (
   .ops [D 110 (.mv (T 13)),
    D 111 (.bin .neq (T 110) (I 0))]) (
  .cond (T 111) (
   .seq (
    .ops [D 112 (.mv (T 13)),
     D 2 (.mv (T 112)),
     D 3 (.mv (I (-1)))]) (
   .ret)) (
   .skip)))) (
 .trim [1] (
  .seq (
   .ops [D 113 (.ldN 6 (T 1)),
    D 114 (.call 154 [(T 113)]),
    D 14 (.mv (T 114))]) (
  .seq (
   .ops [D 115 (.mv (T 14)),
    D 116 (.bin .neq (T 115) (I 0))]) (
  .cond (T 116) (
   .seq (
    .ops [D 117 (.mv (T 14)),
     D 2 (.mv (T 117)),
     D 3 (.mv (I (-1)))]) (
   .ret)) (
   .skip)))) (
 .trim [] (
  .seq (
   .ops [D 118 (.ldN 6 (T 1)),
    D 119 (.call 155 [(T 118)]),
    D 120 (.bin .gtr (T 119) (I 524288))]) (
  .cond (T 120) (
   .seq (
    .ops [D 2 (.mv (I 2)),
     D 3 (.mv (I (-1)))]) (
   .ret)) (
   .skip))) (
 .seq (
  .ops [D 2 (.mv (I 0)),
   D 3 (.mv (I (-1)))]) (
 .ret))))))))))⟩
theorem model_Check_ok : Ok Try.prog 140 model_Check := ⟨by kernel_rfl, by kernel_rfl⟩

/-- diorama/model.Find -/
def model_Find : AF := ⟨9, [.tmp 4],
 .seq (
  .ops [D 2 (.box (T 0)),
   D 3 (.box (T 1)),
   D 4 (.mv (I 0))]) (
 .seq (
  .ops [D 5 (.fa 2 (T 2)),
   D 6 (.ld1 (T 5)),
   D 7 (.mkf 157 [] [(T 3)]),
   D 8 (.call 156 [(T 6), (T 7)]),
   D 4 (.mv (T 8))]) (
 .ret))⟩
theorem model_Find_ok : Ok Try.prog 141 model_Find := ⟨by kernel_rfl, by kernel_rfl⟩

/-- diorama/model.media -/
def model_media : AF := ⟨69, [.tmp 6],
 .seq (
  .ops [D 3 (.box (T 0)),
   D 4 (.box (T 1)),
   D 6 (.mv (.const (.pointer none)))]) (
 .seq (
  .seq (
   .ops [D 10 (.mv (T 2)),
    D 11 (.call 158 [(T 10)]),
    D 12 (.bin .lss (T 11) (I 0))]) (
  .cond (T 12) (
   .seq (
    .ops [D 6 (.mv (.const (.pointer none)))]) (
   .ret)) (
   .skip))) (
 .trim [2, 3, 4] (
  .seq (
   .ops [D 13 (.fa 8 (T 4)),
    D 14 (.ld1 (T 13)),
    D 15 (.len (T 14)),
    D 16 (.bin .eql (T 15) (I 0))]) (
  .cond (T 16) (
   .seq (
    .ops [D 17 (.mv (T 2)),
     D 6 (.mv (T 17))]) (
   .ret)) (
   .skip))) (
 .trim [3, 4, 7] (
  .ops [D 18 (.alloc [(.bool false), (.slice none 0 0), (.bool false), (.slice none 0 0)]),
   D 19 (.mv (T 2)),
   D 20 (.fa 0 (T 3)),
   D 21 (.ld1 (T 20)),
   D 22 (.call 144 [(T 21), (I 1)]),
   D 23 (.call 159 [(T 18), (T 19), (T 22)]),
   D 7 (.mv (T 23))]) (
 .trim [] (
  .seq (
   .ops [D 24 (.fa 8 (T 4)),
    D 25 (.ld1 (T 24)),
    D 26 (.len (T 25)),
    D 27 (.mv (I 0))]) (
  .block 0 (
   .loop [3, 4, 7, 25, 26, 27] (
    .seq (
     .ops [D 28 (.bin .lss (T 27) (T 26))]) (
    .seq (
     .cond (T 28) (
      .skip) (
      .exit 0)) (
    .trim [3, 4, 7, 25, 26, 27] (
     .block 1 (
      .seq (
       .ops [D 29 (.ia 4 (T 25) (T 27)),
        D 30 (.ldN 4 (T 29)),
        D 9 (.alloc [(.int .i64 0), (.int .i64 0), (.int .i64 0), (.int .i64 0)]),
        E (.st 4 (T 9) (T 30))]) (
      .trim [3, 4, 7, 9] (
       .trim [3, 4, 7, 9, 25, 26, 27, 36] (
        .ops [D 31 (.mv (T 7)),
         D 32 (.fa 0 (T 9)),
         D 33 (.ld1 (T 32)),
         D 34 (.call 144 [(T 33), (I 1)]),
         D 35 (.call 160 [(T 31), (T 34)]),
         D 36 (.bin .geq (T 35) (I 0))]) (
       .cond (T 36) (
        .trim [3, 4, 7, 25, 26, 27] (
         .ops [D 37 (.mv (T 7)),
          D 38 (.mv (T 7)),
          D 39 (.fa 0 (T 9)),
          D 40 (.ld1 (T 39)),
          D 41 (.call 144 [(T 40), (I 1)]),
          D 42 (.call 161 [(T 37), (T 38), (T 41)])]) (
        .exit 1)) (
        .skip))) (
      .seq (
       .seq (
        .ops [D 43 (.fa 1 (T 9)),
         D 44 (.ld1 (T 43)),
         D 45 (.bin .lss (T 44) (I 0))]) (
       .cond (T 45) (
        .seq (
         .ops [D 6 (.mv (.const (.pointer none)))]) (
        .ret)) (
        .skip))) (
      .trim [3, 4, 7, 9] (
       .ops [D 46 (.mv (T 7)),
        D 47 (.mv (T 7)),
        D 48 (.fa 2 (T 9)),
        D 49 (.ld1 (T 48)),
        D 50 (.fa 3 (T 9)),
        D 51 (.ld1 (T 50)),
        D 52 (.call 144 [(T 49), (T 51)]),
        D 53 (.call 159 [(T 46), (T 47), (T 52)])]) (
      .trim [4, 7, 9] (
       .ops [D 54 (.mv (T 7)),
        D 55 (.mv (T 7)),
        D 56 (.fa 0 (T 3)),
        D 57 (.ld1 (T 56)),
        D 58 (.call 144 [(T 57), (I 1)]),
        D 59 (.call 162 [(T 54), (T 55), (T 58)])]) (
      .trim [6] (
       .ops [D 60 (.mv (T 7)),
        D 61 (.mv (T 7)),
        D 62 (.fa 1 (T 9)),
        D 63 (.ld1 (T 62)),
        D 64 (.fa 3 (T 4)),
        D 65 (.ld1 (T 64)),
        D 66 (.call 144 [(T 63), (T 65)]),
        D 67 (.call 163 [(T 60), (T 61), (T 66)]),
        D 6 (.mv (T 67))]) (
      .ret)))))))) (
    .ops [D 68 (.bin .add (T 27) (I 1)),
     D 27 (.mv (T 68))]))))))) (
 .seq (
  .ops [D 6 (.mv (.const (.pointer none)))]) (
 .ret))))))⟩
theorem model_media_ok : Ok Try.prog 142 model_media := ⟨by kernel_rfl, by kernel_rfl⟩

/-- diorama/model.shownAt -/
def model_shownAt : AF := ⟨56, [.tmp 4],
 .seq (
  .ops [D 2 (.box (T 0)),
   D 4 (.mv (I 0))]) (
 .trim [2, 5] (
  .ops [D 9 (.alloc [(.bool false), (.slice none 0 0), (.bool false), (.slice none 0 0)]),
   D 10 (.mv (T 1)),
   D 11 (.fa 3 (T 2)),
   D 12 (.ld1 (T 11)),
   D 13 (.call 144 [(T 12), (I 1)]),
   D 14 (.call 159 [(T 9), (T 10), (T 13)]),
   D 5 (.mv (T 14))]) (
 .seq (
  .ops [D 6 (.mv (I (-1)))]) (
 .trim [6] (
  .seq (
   .ops [D 15 (.fa 10 (T 2)),
    D 16 (.ld1 (T 15)),
    D 17 (.len (T 16)),
    D 18 (.mv (I 0))]) (
  .block 0 (
   .loop [2, 5, 6, 16, 17, 18] (
    .seq (
     .ops [D 19 (.bin .lss (T 18) (T 17))]) (
    .seq (
     .cond (T 19) (
      .skip) (
      .exit 0)) (
    .trim [2, 5, 6, 16, 17, 18] (
     .block 1 (
      .seq (
       .ops [D 20 (.mv (T 18)),
        D 21 (.ia 6 (T 16) (T 18)),
        D 22 (.ldN 6 (T 21)),
        D 8 (.alloc [(.int .i64 0), (.int .i64 0), (.int .i64 0), (.bool false), (.slice none 0 0), (.slice none 0 0)]),
        D 7 (.mv (T 20)),
        E (.st 6 (T 8) (T 22))]) (
      .trim [2, 5, 6, 7, 8, 16, 17, 18] (
       .trim [2, 5, 6, 7, 8, 16, 17, 18, 39] (
        .ops [D 23 (.fa 1 (T 8)),
         D 24 (.ld1 (T 23)),
         D 25 (.call 144 [(T 24), (I 1)]),
         D 26 (.mv (T 5)),
         D 27 (.call 160 [(T 25), (T 26)]),
         D 28 (.bin .gtr (T 27) (I 0)),
         D 29 (.mv (T 28)),
         ⟨(some 30), some (29, false), .mv (T 5)⟩,
         ⟨(some 31), some (29, false), .fa 1 (T 8)⟩,
         ⟨(some 32), some (29, false), .ld1 (T 31)⟩,
         ⟨(some 33), some (29, false), .fa 2 (T 8)⟩,
         ⟨(some 34), some (29, false), .ld1 (T 33)⟩,
         ⟨(some 35), some (29, false), .bin .add (T 32) (T 34)⟩,
         ⟨(some 36), some (29, false), .call 144 [(T 35), (I 1)]⟩,
         ⟨(some 37), some (29, false), .call 160 [(T 30), (T 36)]⟩,
         ⟨(some 38), some (29, false), .bin .geq (T 37) (I 0)⟩,
         D 39 (.pick (T 29) (.const (.bool true)) (T 38))]) (
       .cond (T 39) (
        .exit 1) (
        .skip))) (
      .trim [2, 5, 6, 7, 16, 17, 18, 52] (
       .draw [⟨0, 0, 0, D 40 (.mv (T 6))⟩,
        ⟨1, 0, 1, D 41 (.bin .lss (T 40) (I 0))⟩,
        ⟨2, 0, 3, D 42 (.mv (T 41))⟩,
        ⟨3, 0, 7, ⟨(some 43), some (42, false), .fa 1 (T 8)⟩⟩,
        ⟨4, 1, 15, ⟨(some 44), some (42, false), .ld1 (T 43)⟩⟩,
        ⟨5, 0, 7, ⟨(some 45), some (42, false), .fa 10 (T 2)⟩⟩,
        ⟨6, 1, 39, ⟨(some 46), some (42, false), .ld1 (T 45)⟩⟩,
        ⟨7, 0, 7, ⟨(some 47), some (42, false), .mv (T 6)⟩⟩,
        ⟨8, 0, 231, ⟨(some 48), some (42, false), .ia 6 (T 46) (T 47)⟩⟩,
        ⟨9, 0, 487, ⟨(some 49), some (42, false), .fa 1 (T 48)⟩⟩,
        ⟨10, 1, 999, ⟨(some 50), some (42, false), .ld1 (T 49)⟩⟩,
        ⟨11, 0, 2047, ⟨(some 51), some (42, false), .bin .geq (T 44) (T 50)⟩⟩,
        ⟨12, 0, 4095, D 52 (.pick (T 42) (.const (.bool true)) (T 51))⟩]) (
      .cond (T 52) (
       .ops [D 53 (.mv (T 7)),
        D 6 (.mv (T 53))]) (
       .skip)))))) (
    .ops [D 54 (.bin .add (T 18) (I 1)),
     D 18 (.mv (T 54))]))))))) (
 .seq (
  .ops [D 55 (.mv (T 6)),
   D 4 (.mv (T 55))]) (
 .ret)))))⟩
theorem model_shownAt_ok : Ok Try.prog 143 model_shownAt := ⟨by kernel_rfl, by kernel_rfl⟩

/-- diorama/model.rat -/
def model_rat : AF := ⟨8, [.tmp 4],
 .seq (
  .ops [D 4 (.mv (.const (.pointer none)))]) (
 .seq (
  .ops [D 5 (.mv (T 0)),
   D 6 (.mv (T 1)),
   D 7 (.call 164 [(T 5), (T 6)]),
   D 4 (.mv (T 7))]) (
 .ret))⟩
theorem model_rat_ok : Ok Try.prog 144 model_rat := ⟨by kernel_rfl, by kernel_rfl⟩

/-- diorama/dioramaref02.Times -/
def dioramaref02_Times : AF := ⟨60, [.tmp 4],
 .seq (
  .ops [D 4 (.mv (.const (.slice none 0 0)))]) (
 .trim [0, 1, 5] (
  .ops [D 10 (.mv (T 0)),
   D 11 (.len (T 10)),
   D 12 (.mv (T 1)),
   D 13 (.len (T 12)),
   D 14 (.bin .add (T 11) (T 13)),
   D 15 (.mks [(.int .i64 0)] 8 (T 14) (T 14)),
   D 5 (.mv (T 15))]) (
 .trim [5] (
  .seq (
   .ops [D 6 (.mv (I 0))]) (
  .block 0 (
   .loop [0, 1, 5, 6] (
    .seq (
     .seq (
      .ops [D 16 (.mv (T 6)),
       D 17 (.mv (T 0)),
       D 18 (.len (T 17)),
       D 19 (.bin .lss (T 16) (T 18))]) (
     .cond (T 19) (
      .skip) (
      .exit 0))) (
    .trim [0, 1, 5, 6] (
     .block 1 (
      .seq (
       .ops [D 7 (.mv (I 0))]) (
      .seq (
       .ops [D 8 (.mv (I 0))]) (
      .block 2 (
       .loop [0, 1, 5, 6, 7, 8] (
        .trim [0, 1, 5, 6, 7, 8] (
         .trim [0, 1, 5, 6, 7, 8, 29] (
          .ops [D 22 (.mv (T 8)),
           D 23 (.mv (T 1)),
           D 24 (.len (T 23)),
           D 25 (.bin .lss (T 22) (T 24)),
           D 26 (.mv (T 25)),
           ⟨(some 27), some (26, false), .mv (T 7)⟩,
           ⟨(some 28), some (26, false), .bin .gtr (T 27) (I 0)⟩,
           D 29 (.pick (T 26) (.const (.bool true)) (T 28))]) (
         .cond (T 29) (
          .skip) (
          .exit 2))) (
        .trim [0, 1, 5, 6, 7, 8] (
         .block 3 (
          .trim [0, 1, 5, 6, 8, 9] (
           .draw [⟨0, 0, 0, D 32 (.mv (T 5))⟩,
            ⟨1, 0, 0, D 33 (.mv (T 6))⟩,
            ⟨2, 0, 0, D 34 (.mv (T 8))⟩,
            ⟨3, 0, 6, D 35 (.bin .add (T 33) (T 34))⟩,
            ⟨4, 0, 15, D 36 (.ia 1 (T 32) (T 35))⟩,
            ⟨5, 1, 31, D 37 (.ld1 (T 36))⟩,
            ⟨6, 0, 0, D 38 (.mv (T 0))⟩,
            ⟨7, 0, 0, D 39 (.mv (T 6))⟩,
            ⟨8, 0, 192, D 40 (.ia 1 (T 38) (T 39))⟩,
            ⟨9, 1, 448, D 41 (.ld1 (T 40))⟩,
            ⟨10, 0, 0, D 42 (.mv (T 1))⟩,
            ⟨11, 0, 0, D 43 (.mv (T 8))⟩,
            ⟨15, 0, 0, D 47 (.mv (T 7))⟩,
            ⟨12, 4, 3072, D 44 (.call 165 [(T 42), (T 43)])⟩,
            ⟨13, 0, 8128, D 45 (.bin .mul (T 41) (T 44))⟩,
            ⟨14, 0, 16383, D 46 (.bin .add (T 37) (T 45))⟩,
            ⟨16, 0, 65535, D 48 (.bin .add (T 46) (T 47))⟩,
            ⟨17, 0, 131071, D 9 (.mv (T 48))⟩]) (
          .trim [0, 1, 5, 6, 8, 9] (
           .ops [D 49 (.mv (T 5)),
            D 50 (.mv (T 6)),
            D 51 (.mv (T 8)),
            D 52 (.bin .add (T 50) (T 51)),
            D 53 (.mv (T 9)),
            D 54 (.bin .rem (T 53) (I 1000000000)),
            D 55 (.ia 1 (T 49) (T 52)),
            E (.st 1 (T 55) (T 54))]) (
          .ops [D 56 (.mv (T 9)),
           D 57 (.bin .quo (T 56) (I 1000000000)),
           D 7 (.mv (T 57))])))) (
        .ops [D 30 (.mv (T 8)),
         D 31 (.bin .add (T 30) (I 1)),
         D 8 (.mv (T 31))])))))))) (
    .ops [D 20 (.mv (T 6)),
     D 21 (.bin .add (T 20) (I 1)),
     D 6 (.mv (T 21))])))))) (
 .seq (
  .ops [D 58 (.mv (T 5)),
   D 59 (.call 166 [(T 58)]),
   D 4 (.mv (T 59))]) (
 .ret))))⟩
theorem dioramaref02_Times_ok : Ok Try.prog 145 dioramaref02_Times := ⟨by kernel_rfl, by kernel_rfl⟩

/-- diorama/dioramaref02.Plus -/
def dioramaref02_Plus : AF := ⟨42, [.tmp 4],
 .seq (
  .ops [D 4 (.mv (.const (.slice none 0 0)))]) (
 .seq (
  .ops [D 5 (.mv (.const (.slice none 0 0)))]) (
 .seq (
  .ops [D 6 (.mv (I 0))]) (
 .trim [5] (
  .seq (
   .ops [D 7 (.mv (I 0))]) (
  .block 0 (
   .loop [0, 1, 5, 6, 7] (
    .trim [0, 1, 5, 6, 7] (
     .trim [0, 1, 5, 6, 7, 22] (
      .ops [D 9 (.mv (T 7)),
       D 10 (.mv (T 0)),
       D 11 (.len (T 10)),
       D 12 (.bin .lss (T 9) (T 11)),
       D 13 (.mv (T 12)),
       ⟨(some 14), some (13, false), .mv (T 7)⟩,
       ⟨(some 15), some (13, false), .mv (T 1)⟩,
       ⟨(some 16), some (13, false), .len (T 15)⟩,
       ⟨(some 17), some (13, false), .bin .lss (T 14) (T 16)⟩,
       D 18 (.pick (T 13) (.const (.bool true)) (T 17)),
       D 19 (.mv (T 18)),
       ⟨(some 20), some (19, false), .mv (T 6)⟩,
       ⟨(some 21), some (19, false), .bin .gtr (T 20) (I 0)⟩,
       D 22 (.pick (T 19) (.const (.bool true)) (T 21))]) (
     .cond (T 22) (
      .skip) (
      .exit 0))) (
    .trim [0, 1, 5, 6, 7] (
     .block 1 (
      .trim [0, 1, 5, 7, 8] (
       .ops [D 25 (.mv (T 0)),
        D 26 (.mv (T 7)),
        D 27 (.call 165 [(T 25), (T 26)]),
        D 28 (.mv (T 1)),
        D 29 (.mv (T 7)),
        D 30 (.call 165 [(T 28), (T 29)]),
        D 31 (.bin .add (T 27) (T 30)),
        D 32 (.mv (T 6)),
        D 33 (.bin .add (T 31) (T 32)),
        D 8 (.mv (T 33))]) (
      .trim [0, 1, 5, 7, 8] (
       .ops [D 34 (.mv (T 5)),
        D 35 (.mv (T 8)),
        D 36 (.bin .rem (T 35) (I 1000000000)),
        D 37 (.bslice [(.int .i64 0)] 1 [(0, 1, (T 36))]),
        D 38 (.app 1 8 (T 34) (T 37)),
        D 5 (.mv (T 38))]) (
      .ops [D 39 (.mv (T 8)),
       D 40 (.bin .quo (T 39) (I 1000000000)),
       D 6 (.mv (T 40))])))) (
    .ops [D 23 (.mv (T 7)),
     D 24 (.bin .add (T 23) (I 1)),
     D 7 (.mv (T 24))])))))) (
 .seq (
  .ops [D 41 (.mv (T 5)),
   D 4 (.mv (T 41))]) (
 .ret)))))⟩
theorem dioramaref02_Plus_ok : Ok Try.prog 146 dioramaref02_Plus := ⟨by kernel_rfl, by kernel_rfl⟩

/-- diorama/dioramaref02.Compare -/
def dioramaref02_Compare : AF := ⟨41, [.tmp 4],
 .seq (
  .ops [D 4 (.mv (I 0))]) (
 .trim [0, 1] (
  .seq (
   .ops [D 6 (.mv (T 0)),
    D 7 (.len (T 6)),
    D 8 (.mv (T 1)),
    D 9 (.len (T 8)),
    D 10 (.bin .neq (T 7) (T 9))]) (
  .cond (T 10) (
   .trim [] (
    .seq (
     .ops [D 11 (.mv (T 0)),
      D 12 (.len (T 11)),
      D 13 (.mv (T 1)),
      D 14 (.len (T 13)),
      D 15 (.bin .lss (T 12) (T 14))]) (
    .cond (T 15) (
     .seq (
      .ops [D 4 (.mv (I (-1)))]) (
     .ret)) (
     .skip))) (
   .seq (
    .ops [D 4 (.mv (I 1))]) (
   .ret))) (
   .skip))) (
 .trim [] (
  .seq (
   .ops [D 16 (.mv (T 0)),
    D 17 (.len (T 16)),
    D 18 (.bin .sub (T 17) (I 1)),
    D 5 (.mv (T 18))]) (
  .block 0 (
   .loop [0, 1, 5] (
    .seq (
     .seq (
      .ops [D 19 (.mv (T 5)),
       D 20 (.bin .geq (T 19) (I 0))]) (
     .cond (T 20) (
      .skip) (
      .exit 0))) (
    .trim [0, 1, 5] (
     .block 1 (
      .trim [0, 1, 5] (
       .trim [0, 1, 5, 31] (
        .draw [⟨0, 0, 0, D 23 (.mv (T 0))⟩,
         ⟨1, 0, 0, D 24 (.mv (T 5))⟩,
         ⟨2, 0, 3, D 25 (.ia 1 (T 23) (T 24))⟩,
         ⟨3, 1, 7, D 26 (.ld1 (T 25))⟩,
         ⟨4, 0, 0, D 27 (.mv (T 1))⟩,
         ⟨5, 0, 0, D 28 (.mv (T 5))⟩,
         ⟨6, 0, 48, D 29 (.ia 1 (T 27) (T 28))⟩,
         ⟨7, 1, 112, D 30 (.ld1 (T 29))⟩,
         ⟨8, 0, 255, D 31 (.bin .lss (T 26) (T 30))⟩]) (
       .cond (T 31) (
        .seq (
         .ops [D 4 (.mv (I (-1)))]) (
        .ret)) (
        .skip))) (
      .trim [0, 1, 5, 40] (
       .draw [⟨0, 0, 0, D 32 (.mv (T 0))⟩,
        ⟨1, 0, 0, D 33 (.mv (T 5))⟩,
        ⟨2, 0, 3, D 34 (.ia 1 (T 32) (T 33))⟩,
        ⟨3, 1, 7, D 35 (.ld1 (T 34))⟩,
        ⟨4, 0, 0, D 36 (.mv (T 1))⟩,
        ⟨5, 0, 0, D 37 (.mv (T 5))⟩,
        ⟨6, 0, 48, D 38 (.ia 1 (T 36) (T 37))⟩,
        ⟨7, 1, 112, D 39 (.ld1 (T 38))⟩,
        ⟨8, 0, 255, D 40 (.bin .gtr (T 35) (T 39))⟩]) (
      .cond (T 40) (
       .seq (
        .ops [D 4 (.mv (I 1))]) (
       .ret)) (
       .skip))))) (
    .ops [D 21 (.mv (T 5)),
     D 22 (.bin .sub (T 21) (I 1)),
     D 5 (.mv (T 22))])))))) (
 .seq (
  .ops [D 4 (.mv (I 0))]) (
 .ret))))⟩
theorem dioramaref02_Compare_ok : Ok Try.prog 147 dioramaref02_Compare := ⟨by kernel_rfl, by kernel_rfl⟩

/-- diorama/dioramaref02.Minus -/
def dioramaref02_Minus : AF := ⟨34, [.tmp 4],
 .seq (
  .ops [D 4 (.mv (.const (.slice none 0 0)))]) (
 .seq (
  .ops [D 5 (.mv (.const (.slice none 0 0)))]) (
 .seq (
  .ops [D 6 (.mv (I 0))]) (
 .trim [5] (
  .seq (
   .ops [D 7 (.mv (I 0))]) (
  .block 0 (
   .loop [0, 1, 5, 6, 7] (
    .seq (
     .seq (
      .ops [D 9 (.mv (T 7)),
       D 10 (.mv (T 0)),
       D 11 (.len (T 10)),
       D 12 (.bin .lss (T 9) (T 11))]) (
     .cond (T 12) (
      .skip) (
      .exit 0))) (
    .trim [0, 1, 5, 6, 7] (
     .block 1 (
      .trim [0, 1, 5, 7, 8] (
       .ops [D 15 (.mv (T 0)),
        D 16 (.mv (T 7)),
        D 17 (.call 165 [(T 15), (T 16)]),
        D 18 (.mv (T 1)),
        D 19 (.mv (T 7)),
        D 20 (.call 165 [(T 18), (T 19)]),
        D 21 (.bin .sub (T 17) (T 20)),
        D 22 (.mv (T 6)),
        D 23 (.bin .sub (T 21) (T 22)),
        D 8 (.mv (T 23))]) (
      .seq (
       .ops [D 6 (.mv (I 0))]) (
      .seq (
       .seq (
        .ops [D 24 (.mv (T 8)),
         D 25 (.bin .lss (T 24) (I 0))]) (
       .cond (T 25) (
        .seq (
         .ops [D 26 (.mv (T 8)),
          D 27 (.bin .add (T 26) (I 1000000000)),
          D 8 (.mv (T 27))]) (
        .ops [D 6 (.mv (I 1))])) (
        .skip))) (
      .ops [D 28 (.mv (T 5)),
       D 29 (.mv (T 8)),
       D 30 (.bslice [(.int .i64 0)] 1 [(0, 1, (T 29))]),
       D 31 (.app 1 8 (T 28) (T 30)),
       D 5 (.mv (T 31))]))))) (
    .ops [D 13 (.mv (T 7)),
     D 14 (.bin .add (T 13) (I 1)),
     D 7 (.mv (T 14))])))))) (
 .seq (
  .ops [D 32 (.mv (T 5)),
   D 33 (.call 166 [(T 32)]),
   D 4 (.mv (T 33))]) (
 .ret)))))⟩
theorem dioramaref02_Minus_ok : Ok Try.prog 148 dioramaref02_Minus := ⟨by kernel_rfl, by kernel_rfl⟩

/-- math/bits.Len32 -/
def bits_Len32 : AF := ⟨19, [.tmp 2],
 .seq (
  .ops [D 2 (.mv (I 0))]) (
 .seq (
  .seq (
   .ops [D 3 (.mv (T 0)),
    D 4 (.bin .geq (T 3) (.const (.int .u32 65536)))]) (
  .cond (T 4) (
   .seq (
    .ops [D 5 (.mv (T 0)),
     D 6 (.shrc (T 5) 16),
     D 0 (.mv (T 6))]) (
   .ops [D 2 (.mv (I 16))])) (
   .skip))) (
 .trim [0, 2] (
  .seq (
   .ops [D 7 (.mv (T 0)),
    D 8 (.bin .geq (T 7) (.const (.int .u32 256)))]) (
  .cond (T 8) (
   .seq (
    .ops [D 9 (.mv (T 0)),
     D 10 (.shrc (T 9) 8),
     D 0 (.mv (T 10))]) (
   .ops [D 11 (.mv (T 2)),
    D 12 (.bin .add (T 11) (I 8)),
    D 2 (.mv (T 12))])) (
   .skip))) (
 .trim [2] (
  .ops [D 13 (.mv (T 2)),
   D 14 (.mv (T 0)),
   D 15 (.cvi .u8 (T 14)),
   D 16 (.ixs (.const (.string ⟨#[0, 1, 2, 2, 3, 3, 3, 3, 4, 4, 4, 4, 4, 4, 4, 4, 5, 5, 5, 5, 5, 5, 5, 5, 5, 5, 5, 5, 5, 5, 5, 5, 6, 6, 6, 6, 6, 6, 6, 6, 6, 6, 6, 6, 6, 6, 6, 6, 6, 6, 6, 6, 6, 6, 6, 6, 6, 6, 6, 6, 6, 6, 6, 6, 7, 7, 7, 7, 7, 7, 7, 7, 7, 7, 7, 7, 7, 7, 7, 7, 7, 7, 7, 7, 7, 7, 7, 7, 7, 7, 7, 7, 7, 7, 7, 7, 7, 7, 7, 7, 7, 7, 7, 7, 7, 7, 7, 7, 7, 7, 7, 7, 7, 7, 7, 7, 7, 7, 7, 7, 7, 7, 7, 7, 7, 7, 7, 7, 8, 8, 8, 8, 8, 8, 8, 8, 8, 8, 8, 8, 8, 8, 8, 8, 8, 8, 8, 8, 8, 8, 8, 8, 8, 8, 8, 8, 8, 8, 8, 8, 8, 8, 8, 8, 8, 8, 8, 8, 8, 8, 8, 8, 8, 8, 8, 8, 8, 8, 8, 8, 8, 8, 8, 8, 8, 8, 8, 8, 8, 8, 8, 8, 8, 8, 8, 8, 8, 8, 8, 8, 8, 8, 8, 8, 8, 8, 8, 8, 8, 8, 8, 8, 8, 8, 8, 8, 8, 8, 8, 8, 8, 8, 8, 8, 8, 8, 8, 8, 8, 8, 8, 8, 8, 8, 8, 8, 8, 8, 8, 8, 8, 8, 8, 8, 8, 8, 8, 8, 8, 8, 8, 8, 8, 8, 8, 8]⟩)) (T 15)),
   D 17 (.cvi .i64 (T 16)),
   D 18 (.bin .add (T 13) (T 17)),
   D 2 (.mv (T 18))]) (
 .ret))))⟩
theorem bits_Len32_ok : Ok Try.prog 149 bits_Len32 := ⟨by kernel_rfl, by kernel_rfl⟩

/-- diorama/model.within -/
def model_within : AF := ⟨15, [.tmp 6],
 .seq (
  .ops [D 6 (.mv (.const (.bool false)))]) (
 .trim [6] (
  .ops [D 7 (.mv (T 0)),
   D 8 (.mv (T 1)),
   D 9 (.bin .geq (T 7) (T 8)),
   D 10 (.mv (T 9)),
   ⟨(some 11), some (10, true), .mv (T 0)⟩,
   ⟨(some 12), some (10, true), .mv (T 2)⟩,
   ⟨(some 13), some (10, true), .bin .leq (T 11) (T 12)⟩,
   D 14 (.pick (T 10) (T 13) (.const (.bool false))),
   D 6 (.mv (T 14))]) (
 .ret))⟩
theorem model_within_ok : Ok Try.prog 150 model_within := ⟨by kernel_rfl, by kernel_rfl⟩

/-- diorama/model.isName -/
def model_isName : AF := ⟨23, [.tmp 2],
 .seq (
  .ops [D 2 (.mv (.const (.bool false)))]) (
 .seq (
  .seq (
   .ops [D 4 (.mv (T 0)),
    D 5 (.lens (T 4)),
    D 6 (.bin .gtr (T 5) (I 40))]) (
  .cond (T 6) (
   .seq (
    .ops [D 2 (.mv (.const (.bool false)))]) (
   .ret)) (
   .skip))) (
 .trim [] (
  .seq (
   .ops [D 7 (.mv (T 0)),
    D 8 (.lens (T 7)),
    D 9 (.mv (I 0))]) (
  .block 0 (
   .loop [0, 8, 9] (
    .seq (
     .ops [D 10 (.bin .lss (T 9) (T 8))]) (
    .seq (
     .cond (T 10) (
      .skip) (
      .exit 0)) (
    .trim [0, 8, 9] (
     .block 1 (
      .seq (
       .ops [D 11 (.mv (T 9)),
        D 3 (.mv (T 11))]) (
      .trim [0, 8, 9, 21] (
       .ops [D 12 (.mv (T 0)),
        D 13 (.mv (T 3)),
        D 14 (.ixs (T 12) (T 13)),
        D 15 (.bin .lss (T 14) (.const (.int .u8 32))),
        D 16 (.mv (T 15)),
        ⟨(some 17), some (16, false), .mv (T 0)⟩,
        ⟨(some 18), some (16, false), .mv (T 3)⟩,
        ⟨(some 19), some (16, false), .ixs (T 17) (T 18)⟩,
        ⟨(some 20), some (16, false), .bin .gtr (T 19) (.const (.int .u8 126))⟩,
        D 21 (.pick (T 16) (.const (.bool true)) (T 20))]) (
      .cond (T 21) (
       .seq (
        .ops [D 2 (.mv (.const (.bool false)))]) (
       .ret)) (
       .skip))))) (
    .ops [D 22 (.bin .add (T 9) (I 1)),
     D 9 (.mv (T 22))]))))))) (
 .seq (
  .ops [D 2 (.mv (.const (.bool true)))]) (
 .ret))))⟩
theorem model_isName_ok : Ok Try.prog 151 model_isName := ⟨by kernel_rfl, by kernel_rfl⟩

/-- diorama/model.CheckTrack -/
def model_CheckTrack : AF := ⟨155, [.tmp 2],
 .seq (
  .ops [D 1 (.box (T 0)),
   D 2 (.mv (I 0))]) (
 .trim [1] (
  .trim [1, 51] (
   .ops [D 12 (.fa 0 (T 1)),
    D 13 (.ld1 (T 12)),
    D 14 (.call 150 [(T 13), (I 1), (I 1000)]),
    D 15 (.un .not (T 14)),
    D 16 (.mv (T 15)),
    ⟨(some 17), some (16, false), .fa 1 (T 1)⟩,
    ⟨(some 18), some (16, false), .ld1 (T 17)⟩,
    ⟨(some 19), some (16, false), .call 150 [(T 18), (I 1), (I 7)]⟩,
    ⟨(some 20), some (16, false), .un .not (T 19)⟩,
    D 21 (.pick (T 16) (.const (.bool true)) (T 20)),
    D 22 (.mv (T 21)),
    ⟨(some 23), some (22, false), .fa 2 (T 1)⟩,
    ⟨(some 24), some (22, false), .ld1 (T 23)⟩,
    ⟨(some 25), some (22, false), .call 167 [(T 24), (I 4), (.const (.bool true))]⟩,
    ⟨(some 26), some (22, false), .un .not (T 25)⟩,
    D 27 (.pick (T 22) (.const (.bool true)) (T 26)),
    D 28 (.mv (T 27)),
    ⟨(some 29), some (28, false), .fa 3 (T 1)⟩,
    ⟨(some 30), some (28, false), .ld1 (T 29)⟩,
    ⟨(some 31), some (28, false), .call 150 [(T 30), (I 1), (I 1000000)]⟩,
    ⟨(some 32), some (28, false), .un .not (T 31)⟩,
    D 33 (.pick (T 28) (.const (.bool true)) (T 32)),
    D 34 (.mv (T 33)),
    ⟨(some 35), some (34, false), .fa 5 (T 1)⟩,
    ⟨(some 36), some (34, false), .ld1 (T 35)⟩,
    ⟨(some 37), some (34, false), .call 167 [(T 36), (I 3), (.const (.bool false))]⟩,
    ⟨(some 38), some (34, false), .un .not (T 37)⟩,
    D 39 (.pick (T 34) (.const (.bool true)) (T 38)),
    D 40 (.mv (T 39)),
    ⟨(some 41), some (40, false), .fa 6 (T 1)⟩,
    ⟨(some 42), some (40, false), .ld1 (T 41)⟩,
    ⟨(some 43), some (40, false), .call 151 [(T 42)]⟩,
    ⟨(some 44), some (40, false), .un .not (T 43)⟩,
    D 45 (.pick (T 40) (.const (.bool true)) (T 44)),
    D 46 (.mv (T 45)),
    ⟨(some 47), some (46, false), .fa 7 (T 1)⟩,
    ⟨(some 48), some (46, false), .ld1 (T 47)⟩,
    ⟨(some 49), some (46, false), .call 150 [(T 48), (I 0), (I 1099511627776)]⟩,
    ⟨(some 50), some (46, false), .un .not (T 49)⟩,
    D 51 (.pick (T 46) (.const (.bool true)) (T 50))]) (
  .cond (T 51) (
   .seq (
    .ops [D 2 (.mv (I 1))]) (
   .ret)) (
   .skip))) (
 .trim [1] (
  .seq (
   .ops [D 52 (.fa 9 (T 1)),
    D 53 (.ld1 (T 52)),
    D 54 (.len (T 53)),
    D 55 (.mv (I 0))]) (
  .block 0 (
   .loop [1, 53, 54, 55] (
    .seq (
     .ops [D 56 (.bin .lss (T 55) (T 54))]) (
    .seq (
     .cond (T 56) (
      .skip) (
      .exit 0)) (
    .trim [1, 53, 54, 55] (
     .block 1 (
      .seq (
       .ops [D 57 (.ia 2 (T 53) (T 55)),
        D 58 (.ldN 2 (T 57)),
        D 4 (.alloc [(.string ⟨#[]⟩), (.int .i64 0)]),
        E (.st 2 (T 4) (T 58))]) (
      .seq (
       .ops [D 59 (.fa 0 (T 4)),
        D 60 (.ld1 (T 59)),
        D 61 (.call 167 [(T 60), (I 4), (.const (.bool true))]),
        D 62 (.un .not (T 61))]) (
      .cond (T 62) (
       .seq (
        .ops [D 2 (.mv (I 1))]) (
       .ret)) (
       .skip))))) (
    .ops [D 63 (.bin .add (T 55) (I 1)),
     D 55 (.mv (T 63))]))))))) (
 .trim [1] (
  .trim [1, 85] (
   .ops [D 64 (.fa 4 (T 1)),
    D 65 (.ld1 (T 64)),
    D 66 (.len (T 65)),
    D 67 (.bin .gtr (T 66) (I 1000)),
    D 68 (.mv (T 67)),
    ⟨(some 69), some (68, false), .fa 8 (T 1)⟩,
    ⟨(some 70), some (68, false), .ld1 (T 69)⟩,
    ⟨(some 71), some (68, false), .len (T 70)⟩,
    ⟨(some 72), some (68, false), .bin .gtr (T 71) (I 20)⟩,
    D 73 (.pick (T 68) (.const (.bool true)) (T 72)),
    D 74 (.mv (T 73)),
    ⟨(some 75), some (74, false), .fa 9 (T 1)⟩,
    ⟨(some 76), some (74, false), .ld1 (T 75)⟩,
    ⟨(some 77), some (74, false), .len (T 76)⟩,
    ⟨(some 78), some (74, false), .bin .gtr (T 77) (I 8)⟩,
    D 79 (.pick (T 74) (.const (.bool true)) (T 78)),
    D 80 (.mv (T 79)),
    ⟨(some 81), some (80, false), .fa 10 (T 1)⟩,
    ⟨(some 82), some (80, false), .ld1 (T 81)⟩,
    ⟨(some 83), some (80, false), .len (T 82)⟩,
    ⟨(some 84), some (80, false), .bin .gtr (T 83) (I 400)⟩,
    D 85 (.pick (T 80) (.const (.bool true)) (T 84))]) (
  .cond (T 85) (
   .seq (
    .ops [D 2 (.mv (I 2))]) (
   .ret)) (
   .skip))) (
 .seq (
  .ops [D 5 (.mv (I 0))]) (
 .trim [1, 5] (
  .seq (
   .ops [D 86 (.fa 8 (T 1)),
    D 87 (.ld1 (T 86)),
    D 88 (.len (T 87)),
    D 89 (.mv (I 0))]) (
  .block 2 (
   .loop [1, 5, 87, 88, 89] (
    .seq (
     .ops [D 90 (.bin .lss (T 89) (T 88))]) (
    .seq (
     .cond (T 90) (
      .skip) (
      .exit 2)) (
    .trim [1, 5, 87, 88, 89] (
     .block 3 (
      .seq (
       .ops [D 91 (.ia 4 (T 87) (T 89)),
        D 92 (.ldN 4 (T 91)),
        D 7 (.alloc [(.int .i64 0), (.int .i64 0), (.int .i64 0), (.int .i64 0)]),
        E (.st 4 (T 7) (T 92))]) (
      .trim [1, 5, 7, 87, 88, 89] (
       .ops [D 93 (.mv (T 5)),
        D 94 (.fa 0 (T 7)),
        D 95 (.ld1 (T 94)),
        D 96 (.mn [(T 95), (I 1099511627776)]),
        D 97 (.bin .add (T 93) (T 96)),
        D 5 (.mv (T 97))]) (
      .trim [1, 5, 7, 8, 87, 88, 89] (
       .ops [D 98 (.fa 1 (T 7)),
        D 99 (.ld1 (T 98)),
        D 100 (.bin .eql (T 99) (I (-1))),
        D 101 (.mv (T 100)),
        ⟨(some 102), some (101, true), .fa 2 (T 7)⟩,
        ⟨(some 103), some (101, true), .ld1 (T 102)⟩,
        ⟨(some 104), some (101, true), .bin .neq (T 103) (I 1)⟩,
        ⟨(some 105), some (101, true), .mv (T 104)⟩,
        ⟨(some 106), some (105, false), .fa 3 (T 7)⟩,
        ⟨(some 107), some (105, false), .ld1 (T 106)⟩,
        ⟨(some 108), some (105, false), .bin .neq (T 107) (I 1)⟩,
        ⟨(some 109), some (101, true), .pick (T 105) (.const (.bool true)) (T 108)⟩,
        D 110 (.pick (T 101) (T 109) (.const (.bool false))),
        D 8 (.mv (T 110))]) (
      .trim [1, 5, 87, 88, 89, 135] (
       .ops [D 111 (.fa 0 (T 7)),
        D 112 (.ld1 (T 111)),
        D 113 (.call 150 [(T 112), (I 1), (I 1099511627776)]),
        D 114 (.un .not (T 113)),
        D 115 (.mv (T 114)),
        ⟨(some 116), some (115, false), .fa 1 (T 7)⟩,
        ⟨(some 117), some (115, false), .ld1 (T 116)⟩,
        ⟨(some 118), some (115, false), .call 150 [(T 117), (I (-1)), (I 1099511627776)]⟩,
        ⟨(some 119), some (115, false), .un .not (T 118)⟩,
        D 120 (.pick (T 115) (.const (.bool true)) (T 119)),
        D 121 (.mv (T 120)),
        ⟨(some 122), some (121, false), .fa 2 (T 7)⟩,
        ⟨(some 123), some (121, false), .ld1 (T 122)⟩,
        ⟨(some 124), some (121, false), .call 150 [(T 123), (I 0), (I 1000)]⟩,
        ⟨(some 125), some (121, false), .un .not (T 124)⟩,
        D 126 (.pick (T 121) (.const (.bool true)) (T 125)),
        D 127 (.mv (T 126)),
        ⟨(some 128), some (127, false), .fa 3 (T 7)⟩,
        ⟨(some 129), some (127, false), .ld1 (T 128)⟩,
        ⟨(some 130), some (127, false), .call 150 [(T 129), (I 1), (I 1000)]⟩,
        ⟨(some 131), some (127, false), .un .not (T 130)⟩,
        D 132 (.pick (T 127) (.const (.bool true)) (T 131)),
        D 133 (.mv (T 132)),
        ⟨(some 134), some (133, false), .mv (T 8)⟩,
        D 135 (.pick (T 133) (.const (.bool true)) (T 134))]) (
      .cond (T 135) (
       .seq (
        .ops [D 2 (.mv (I 33))]) (
       .ret)) (
       .skip))))))) (
    .ops [D 136 (.bin .add (T 89) (I 1)),
     D 89 (.mv (T 136))]))))))) (
 .seq (
  .seq (
   .ops [D 137 (.mv (T 5)),
    D 138 (.bin .gtr (T 137) (I 1099511627776))]) (
  .cond (T 138) (
   .seq (
    .ops [D 2 (.mv (I 33))]) (
   .ret)) (
   .skip))) (
 .trim [] (
  .seq (
   .ops [D 139 (.fa 10 (T 1)),
    D 140 (.ld1 (T 139)),
    D 141 (.len (T 140)),
    D 142 (.mv (I 0))]) (
  .block 4 (
   .loop [1, 140, 141, 142] (
    .seq (
     .ops [D 143 (.bin .lss (T 142) (T 141))]) (
    .seq (
     .cond (T 143) (
      .skip) (
      .exit 4)) (
    .trim [1, 140, 141, 142] (
     .block 5 (
      .seq (
       .ops [D 144 (.mv (T 142)),
        D 145 (.ia 6 (T 140) (T 142)),
        D 146 (.ldN 6 (T 145)),
        D 10 (.alloc [(.int .i64 0), (.int .i64 0), (.int .i64 0), (.bool false), (.slice none 0 0), (.slice none 0 0)]),
        D 9 (.mv (T 144)),
        E (.st 6 (T 10) (T 146))]) (
      .seq (
       .ops [D 147 (.ldN 11 (T 1)),
        D 148 (.mv (T 9)),
        D 149 (.ldN 6 (T 10)),
        D 150 (.call 168 [(T 147), (T 148), (T 149)]),
        D 11 (.mv (T 150))]) (
      .seq (
       .ops [D 151 (.mv (T 11)),
        D 152 (.bin .neq (T 151) (I 0))]) (
      .cond (T 152) (
       .seq (
        .ops [D 153 (.mv (T 11)),
         D 2 (.mv (T 153))]) (
       .ret)) (
       .skip)))))) (
    .ops [D 154 (.bin .add (T 142) (I 1)),
     D 142 (.mv (T 154))]))))))) (
 .seq (
  .ops [D 2 (.mv (I 0))]) (
 .ret)))))))))⟩
theorem model_CheckTrack_ok : Ok Try.prog 152 model_CheckTrack := ⟨by kernel_rfl, by kernel_rfl⟩

/-- diorama/model.Bytes -/
def model_Bytes : AF := ⟨45, [.tmp 2],
 .seq (
  .ops [D 1 (.box (T 0)),
   D 2 (.mv (I 0))]) (
 .seq (
  .ops [D 3 (.mv (I 0))]) (
 .trim [1, 3] (
  .seq (
   .ops [D 10 (.fa 2 (T 1)),
    D 11 (.ld1 (T 10)),
    D 12 (.len (T 11)),
    D 13 (.mv (I 0))]) (
  .block 0 (
   .loop [1, 3, 11, 12, 13] (
    .seq (
     .ops [D 14 (.bin .lss (T 13) (T 12))]) (
    .seq (
     .cond (T 14) (
      .skip) (
      .exit 0)) (
    .trim [1, 3, 11, 12, 13] (
     .block 1 (
      .seq (
       .ops [D 15 (.ia 11 (T 11) (T 13)),
        D 16 (.ldN 11 (T 15)),
        D 5 (.alloc [(.int .i64 0), (.int .i64 0), (.string ⟨#[]⟩), (.int .i64 0), (.slice none 0 0), (.string ⟨#[]⟩), (.string ⟨#[]⟩), (.int .i64 0), (.slice none 0 0), (.slice none 0 0), (.slice none 0 0)]),
        E (.st 11 (T 5) (T 16))]) (
      .seq (
       .ops [D 17 (.fa 10 (T 5)),
        D 18 (.ld1 (T 17)),
        D 19 (.len (T 18)),
        D 20 (.mv (I 0))]) (
      .block 2 (
       .loop [1, 3, 11, 12, 13, 18, 19, 20] (
        .seq (
         .ops [D 21 (.bin .lss (T 20) (T 19))]) (
        .seq (
         .cond (T 21) (
          .skip) (
          .exit 2)) (
        .trim [1, 3, 11, 12, 13, 18, 19, 20] (
         .block 3 (
          .seq (
           .ops [D 22 (.ia 6 (T 18) (T 20)),
            D 23 (.ldN 6 (T 22)),
            D 7 (.alloc [(.int .i64 0), (.int .i64 0), (.int .i64 0), (.bool false), (.slice none 0 0), (.slice none 0 0)]),
            E (.st 6 (T 7) (T 23))]) (
          .ops [D 24 (.mv (T 3)),
           D 25 (.fa 5 (T 7)),
           D 26 (.ld1 (T 25)),
           D 27 (.len (T 26)),
           D 28 (.bin .add (T 24) (T 27)),
           D 3 (.mv (T 28))]))) (
        .ops [D 29 (.bin .add (T 20) (I 1)),
         D 20 (.mv (T 29))]))))))))) (
    .ops [D 30 (.bin .add (T 13) (I 1)),
     D 13 (.mv (T 30))]))))))) (
 .trim [3] (
  .seq (
   .ops [D 31 (.fa 5 (T 1)),
    D 32 (.ld1 (T 31)),
    D 33 (.len (T 32)),
    D 34 (.mv (I 0))]) (
  .block 4 (
   .loop [3, 32, 33, 34] (
    .seq (
     .ops [D 35 (.bin .lss (T 34) (T 33))]) (
    .seq (
     .cond (T 35) (
      .skip) (
      .exit 4)) (
    .trim [3, 32, 33, 34] (
     .block 5 (
      .seq (
       .ops [D 36 (.ia 4 (T 32) (T 34)),
        D 37 (.ldN 4 (T 36)),
        D 9 (.alloc [(.int .i64 0), (.string ⟨#[]⟩), (.string ⟨#[]⟩), (.slice none 0 0)]),
        E (.st 4 (T 9) (T 37))]) (
      .ops [D 38 (.mv (T 3)),
       D 39 (.fa 3 (T 9)),
       D 40 (.ld1 (T 39)),
       D 41 (.len (T 40)),
       D 42 (.bin .add (T 38) (T 41)),
       D 3 (.mv (T 42))]))) (
    .ops [D 43 (.bin .add (T 34) (I 1)),
     D 34 (.mv (T 43))]))))))) (
 .seq (
  .ops [D 44 (.mv (T 3)),
   D 2 (.mv (T 44))]) (
 .ret)))))⟩
theorem model_Bytes_ok : Ok Try.prog 155 model_Bytes := ⟨by kernel_rfl, by kernel_rfl⟩

/-- slices.IndexFunc[[]diorama/api.Track,diorama/api.Track] -/
def slices_IndexFunc___api_Track_api_Track_ : AF := ⟨19, [.tmp 4],
 .seq (
  .ops [D 4 (.mv (I 0))]) (
 .trim [] (
  .seq (
   .ops [D 6 (.mv (T 0)),
    D 7 (.len (T 6)),
    D 8 (.mv (I 0))]) (
  .block 0 (
   .loop [0, 1, 7, 8] (
    .seq (
     .ops [D 9 (.bin .lss (T 8) (T 7))]) (
    .seq (
     .cond (T 9) (
      .skip) (
      .exit 0)) (
    .trim [0, 1, 7, 8] (
     .block 1 (
      .seq (
       .ops [D 10 (.mv (T 8)),
        D 5 (.mv (T 10))]) (
      .trim [0, 1, 5, 7, 8, 16] (
       .ops [D 11 (.mv (T 1)),
        D 12 (.mv (T 0)),
        D 13 (.mv (T 5)),
        D 14 (.ia 11 (T 12) (T 13)),
        D 15 (.ldN 11 (T 14)),
        D 16 (.callv (T 11) [(T 15)])]) (
      .cond (T 16) (
       .seq (
        .ops [D 17 (.mv (T 5)),
         D 4 (.mv (T 17))]) (
       .ret)) (
       .skip))))) (
    .ops [D 18 (.bin .add (T 8) (I 1)),
     D 8 (.mv (T 18))]))))))) (
 .seq (
  .ops [D 4 (.mv (I (-1)))]) (
 .ret)))⟩
theorem slices_IndexFunc___api_Track_api_Track__ok : Ok Try.prog 156 slices_IndexFunc___api_Track_api_Track_ := ⟨by kernel_rfl, by kernel_rfl⟩

/-- diorama/model.Find$1 -/
def model_Find_1 : AF := ⟨8, [.tmp 3],
 .seq (
  .ops [D 2 (.box (T 0)),
   D 3 (.mv (.const (.bool false)))]) (
 .seq (
  .ops [D 4 (.fa 0 (T 2)),
   D 5 (.ld1 (T 4)),
   D 6 (.ld1 (T 1)),
   D 7 (.bin .eql (T 5) (T 6)),
   D 3 (.mv (T 7))]) (
 .ret))⟩
theorem model_Find_1_ok : Ok Try.prog 157 model_Find_1 := ⟨by kernel_rfl, by kernel_rfl⟩

/-- (*diorama/num.Rat).Sign -/
def num_Rat__Sign : AF := ⟨7, [.tmp 2],
 .seq (
  .ops [D 2 (.mv (I 0))]) (
 .seq (
  .ops [D 3 (.mv (T 0)),
   D 4 (.nil (T 3)),
   D 5 (.fa 0 (T 4)),
   D 6 (.call 70 [(T 5)]),
   D 2 (.mv (T 6))]) (
 .ret))⟩
theorem num_Rat__Sign_ok : Ok Try.prog 158 num_Rat__Sign := ⟨by kernel_rfl, by kernel_rfl⟩

/-- (*diorama/num.Rat).Mul -/
def num_Rat__Mul : AF := ⟨21, [.tmp 6],
 .seq (
  .ops [D 6 (.mv (.const (.pointer none)))]) (
 .trim [6] (
  .draw [⟨0, 0, 0, D 7 (.mv (T 0))⟩,
   ⟨1, 0, 0, D 8 (.mv (T 1))⟩,
   ⟨2, 0, 2, D 9 (.nil (T 8))⟩,
   ⟨3, 0, 6, D 10 (.fa 0 (T 9))⟩,
   ⟨4, 0, 0, D 11 (.mv (T 2))⟩,
   ⟨5, 0, 16, D 12 (.nil (T 11))⟩,
   ⟨6, 0, 48, D 13 (.fa 0 (T 12))⟩,
   ⟨8, 0, 0, D 15 (.mv (T 1))⟩,
   ⟨10, 0, 0, D 17 (.mv (T 2))⟩,
   ⟨7, 4, 126, D 14 (.call 171 [(T 10), (T 13)])⟩,
   ⟨9, 4, 510, D 16 (.call 116 [(T 15)])⟩,
   ⟨11, 4, 2046, D 18 (.call 116 [(T 17)])⟩,
   ⟨12, 4, 4094, D 19 (.call 171 [(T 16), (T 18)])⟩,
   ⟨13, 4, 8191, D 20 (.call 76 [(T 7), (T 14), (T 19)])⟩,
   ⟨14, 0, 16383, D 6 (.mv (T 20))⟩]) (
 .ret))⟩
theorem num_Rat__Mul_ok : Ok Try.prog 159 num_Rat__Mul := ⟨by kernel_rfl, by kernel_rfl⟩

/-- (*diorama/num.Rat).Cmp -/
def num_Rat__Cmp : AF := ⟨18, [.tmp 4],
 .seq (
  .ops [D 4 (.mv (I 0))]) (
 .trim [4] (
  .draw [⟨0, 0, 0, D 5 (.mv (T 0))⟩,
   ⟨1, 0, 1, D 6 (.nil (T 5))⟩,
   ⟨2, 0, 3, D 7 (.fa 0 (T 6))⟩,
   ⟨3, 0, 0, D 8 (.mv (T 1))⟩,
   ⟨6, 0, 0, D 11 (.mv (T 1))⟩,
   ⟨7, 0, 64, D 12 (.nil (T 11))⟩,
   ⟨8, 0, 192, D 13 (.fa 0 (T 12))⟩,
   ⟨9, 0, 0, D 14 (.mv (T 0))⟩,
   ⟨4, 4, 8, D 9 (.call 116 [(T 8)])⟩,
   ⟨5, 4, 31, D 10 (.call 171 [(T 7), (T 9)])⟩,
   ⟨10, 4, 575, D 15 (.call 116 [(T 14)])⟩,
   ⟨11, 4, 2047, D 16 (.call 171 [(T 13), (T 15)])⟩,
   ⟨12, 4, 4095, D 17 (.call 74 [(T 10), (T 16)])⟩,
   ⟨13, 0, 8191, D 4 (.mv (T 17))⟩]) (
 .ret))⟩
theorem num_Rat__Cmp_ok : Ok Try.prog 160 num_Rat__Cmp := ⟨by kernel_rfl, by kernel_rfl⟩

/-- (*diorama/num.Rat).Sub -/
def num_Rat__Sub : AF := ⟨31, [.tmp 6],
 .seq (
  .ops [D 6 (.mv (.const (.pointer none)))]) (
 .trim [0, 1, 2, 7] (
  .draw [⟨0, 0, 0, D 8 (.mv (T 1))⟩,
   ⟨1, 0, 1, D 9 (.nil (T 8))⟩,
   ⟨2, 0, 3, D 10 (.fa 0 (T 9))⟩,
   ⟨3, 0, 0, D 11 (.mv (T 2))⟩,
   ⟨4, 4, 8, D 12 (.call 116 [(T 11)])⟩,
   ⟨5, 4, 31, D 13 (.call 171 [(T 10), (T 12)])⟩,
   ⟨6, 0, 63, D 7 (.mv (T 13))⟩]) (
 .trim [0, 1, 2, 7] (
  .draw [⟨0, 0, 0, D 14 (.mv (T 7))⟩,
   ⟨1, 0, 0, D 15 (.mv (T 7))⟩,
   ⟨2, 0, 0, D 16 (.mv (T 2))⟩,
   ⟨3, 0, 4, D 17 (.nil (T 16))⟩,
   ⟨4, 0, 12, D 18 (.fa 0 (T 17))⟩,
   ⟨5, 0, 0, D 19 (.mv (T 1))⟩,
   ⟨6, 4, 32, D 20 (.call 116 [(T 19)])⟩,
   ⟨7, 4, 124, D 21 (.call 171 [(T 18), (T 20)])⟩,
   ⟨8, 4, 255, D 22 (.call 51 [(T 14), (T 15), (T 21)])⟩]) (
 .trim [6] (
  .ops [D 23 (.mv (T 0)),
   D 24 (.mv (T 7)),
   D 25 (.mv (T 1)),
   D 26 (.call 116 [(T 25)]),
   D 27 (.mv (T 2)),
   D 28 (.call 116 [(T 27)]),
   D 29 (.call 171 [(T 26), (T 28)]),
   D 30 (.call 76 [(T 23), (T 24), (T 29)]),
   D 6 (.mv (T 30))]) (
 .ret))))⟩
theorem num_Rat__Sub_ok : Ok Try.prog 161 num_Rat__Sub := ⟨by kernel_rfl, by kernel_rfl⟩

/-- (*diorama/num.Rat).Quo -/
def num_Rat__Quo : AF := ⟨21, [.tmp 6],
 .seq (
  .ops [D 6 (.mv (.const (.pointer none)))]) (
 .trim [6] (
  .draw [⟨0, 0, 0, D 7 (.mv (T 0))⟩,
   ⟨1, 0, 0, D 8 (.mv (T 1))⟩,
   ⟨2, 0, 2, D 9 (.nil (T 8))⟩,
   ⟨3, 0, 6, D 10 (.fa 0 (T 9))⟩,
   ⟨4, 0, 0, D 11 (.mv (T 2))⟩,
   ⟨7, 0, 0, D 14 (.mv (T 1))⟩,
   ⟨9, 0, 0, D 16 (.mv (T 2))⟩,
   ⟨10, 0, 512, D 17 (.nil (T 16))⟩,
   ⟨11, 0, 1536, D 18 (.fa 0 (T 17))⟩,
   ⟨5, 4, 16, D 12 (.call 116 [(T 11)])⟩,
   ⟨6, 4, 62, D 13 (.call 171 [(T 10), (T 12)])⟩,
   ⟨8, 4, 254, D 15 (.call 116 [(T 14)])⟩,
   ⟨12, 4, 4094, D 19 (.call 171 [(T 15), (T 18)])⟩,
   ⟨13, 4, 8191, D 20 (.call 76 [(T 7), (T 13), (T 19)])⟩,
   ⟨14, 0, 16383, D 6 (.mv (T 20))⟩]) (
 .ret))⟩
theorem num_Rat__Quo_ok : Ok Try.prog 162 num_Rat__Quo := ⟨by kernel_rfl, by kernel_rfl⟩

/-- (*diorama/num.Rat).Add -/
def num_Rat__Add : AF := ⟨31, [.tmp 6],
 .seq (
  .ops [D 6 (.mv (.const (.pointer none)))]) (
 .trim [0, 1, 2, 7] (
  .draw [⟨0, 0, 0, D 8 (.mv (T 1))⟩,
   ⟨1, 0, 1, D 9 (.nil (T 8))⟩,
   ⟨2, 0, 3, D 10 (.fa 0 (T 9))⟩,
   ⟨3, 0, 0, D 11 (.mv (T 2))⟩,
   ⟨4, 4, 8, D 12 (.call 116 [(T 11)])⟩,
   ⟨5, 4, 31, D 13 (.call 171 [(T 10), (T 12)])⟩,
   ⟨6, 0, 63, D 7 (.mv (T 13))⟩]) (
 .trim [0, 1, 2, 7] (
  .draw [⟨0, 0, 0, D 14 (.mv (T 7))⟩,
   ⟨1, 0, 0, D 15 (.mv (T 7))⟩,
   ⟨2, 0, 0, D 16 (.mv (T 2))⟩,
   ⟨3, 0, 4, D 17 (.nil (T 16))⟩,
   ⟨4, 0, 12, D 18 (.fa 0 (T 17))⟩,
   ⟨5, 0, 0, D 19 (.mv (T 1))⟩,
   ⟨6, 4, 32, D 20 (.call 116 [(T 19)])⟩,
   ⟨7, 4, 124, D 21 (.call 171 [(T 18), (T 20)])⟩,
   ⟨8, 4, 255, D 22 (.call 72 [(T 14), (T 15), (T 21)])⟩]) (
 .trim [6] (
  .ops [D 23 (.mv (T 0)),
   D 24 (.mv (T 7)),
   D 25 (.mv (T 1)),
   D 26 (.call 116 [(T 25)]),
   D 27 (.mv (T 2)),
   D 28 (.call 116 [(T 27)]),
   D 29 (.call 171 [(T 26), (T 28)]),
   D 30 (.call 76 [(T 23), (T 24), (T 29)]),
   D 6 (.mv (T 30))]) (
 .ret))))⟩
theorem num_Rat__Add_ok : Ok Try.prog 163 num_Rat__Add := ⟨by kernel_rfl, by kernel_rfl⟩

/-- diorama/num.NewRat -/
def num_NewRat : AF := ⟨11, [.tmp 4],
 .seq (
  .ops [D 4 (.mv (.const (.pointer none)))]) (
 .trim [4] (
  .ops [D 5 (.alloc [(.bool false), (.slice none 0 0), (.bool false), (.slice none 0 0)]),
   D 6 (.mv (T 0)),
   D 7 (.call 68 [(T 6)]),
   D 8 (.mv (T 1)),
   D 9 (.call 68 [(T 8)]),
   D 10 (.call 76 [(T 5), (T 7), (T 9)]),
   D 4 (.mv (T 10))]) (
 .ret))⟩
theorem num_NewRat_ok : Ok Try.prog 164 num_NewRat := ⟨by kernel_rfl, by kernel_rfl⟩

/-- diorama/dioramaref02.digit -/
def dioramaref02_digit : AF := ⟨13, [.tmp 4],
 .seq (
  .ops [D 4 (.mv (I 0))]) (
 .trim [] (
  .seq (
   .ops [D 5 (.mv (T 1)),
    D 6 (.mv (T 0)),
    D 7 (.len (T 6)),
    D 8 (.bin .lss (T 5) (T 7))]) (
  .cond (T 8) (
   .seq (
    .ops [D 9 (.mv (T 0)),
     D 10 (.mv (T 1)),
     D 11 (.ia 1 (T 9) (T 10)),
     D 12 (.ld1 (T 11)),
     D 4 (.mv (T 12))]) (
   .ret)) (
   .skip))) (
 .seq (
  .ops [D 4 (.mv (I 0))]) (
 .ret)))⟩
theorem dioramaref02_digit_ok : Ok Try.prog 165 dioramaref02_digit := ⟨by kernel_rfl, by kernel_rfl⟩

/-- diorama/dioramaref02.trimmed -/
def dioramaref02_trimmed : AF := ⟨21, [.tmp 2],
 .seq (
  .ops [D 2 (.mv (.const (.slice none 0 0)))]) (
 .seq (
  .ops [D 4 (.mv (T 0)),
   D 5 (.len (T 4)),
   D 3 (.mv (T 5))]) (
 .trim [0, 3] (
  .block 0 (
   .loop [0, 3] (
    .trim [0, 3] (
     .trim [0, 3, 15] (
      .ops [D 6 (.mv (T 3)),
       D 7 (.bin .gtr (T 6) (I 0)),
       D 8 (.mv (T 7)),
       ⟨(some 9), some (8, true), .mv (T 0)⟩,
       ⟨(some 10), some (8, true), .mv (T 3)⟩,
       ⟨(some 11), some (8, true), .bin .sub (T 10) (I 1)⟩,
       ⟨(some 12), some (8, true), .ia 1 (T 9) (T 11)⟩,
       ⟨(some 13), some (8, true), .ld1 (T 12)⟩,
       ⟨(some 14), some (8, true), .bin .eql (T 13) (I 0)⟩,
       D 15 (.pick (T 8) (T 14) (.const (.bool false)))]) (
     .cond (T 15) (
      .skip) (
      .exit 0))) (
    .block 1 (
     .ops [D 16 (.mv (T 3)),
      D 17 (.bin .sub (T 16) (I 1)),
      D 3 (.mv (T 17))]))))) (
 .seq (
  .ops [D 18 (.mv (T 0)),
   D 19 (.mv (T 3)),
   D 20 (.slc 1 (T 18) none (some (T 19)) none),
   D 2 (.mv (T 20))]) (
 .ret))))⟩
theorem dioramaref02_trimmed_ok : Ok Try.prog 166 dioramaref02_trimmed := ⟨by kernel_rfl, by kernel_rfl⟩

/-- diorama/model.letters -/
def model_letters : AF := ⟨49, [.tmp 6],
 .seq (
  .ops [D 6 (.mv (.const (.bool false)))]) (
 .trim [0, 1] (
  .seq (
   .ops [D 10 (.mv (T 0)),
    D 11 (.lens (T 10)),
    D 12 (.mv (I 0))]) (
  .block 0 (
   .loop [0, 1, 2, 11, 12] (
    .seq (
     .ops [D 13 (.bin .lss (T 12) (T 11))]) (
    .seq (
     .cond (T 13) (
      .skip) (
      .exit 0)) (
    .trim [0, 1, 2, 11, 12] (
     .block 1 (
      .seq (
       .ops [D 14 (.mv (T 12)),
        D 7 (.mv (T 14))]) (
      .trim [0, 1, 2, 7, 8, 11, 12] (
       .ops [D 15 (.mv (T 0)),
        D 16 (.mv (T 7)),
        D 17 (.ixs (T 15) (T 16)),
        D 18 (.bin .geq (T 17) (.const (.int .u8 97))),
        D 19 (.mv (T 18)),
        ⟨(some 20), some (19, true), .mv (T 0)⟩,
        ⟨(some 21), some (19, true), .mv (T 7)⟩,
        ⟨(some 22), some (19, true), .ixs (T 20) (T 21)⟩,
        ⟨(some 23), some (19, true), .bin .leq (T 22) (.const (.int .u8 122))⟩,
        D 24 (.pick (T 19) (T 23) (.const (.bool false))),
        D 8 (.mv (T 24))]) (
      .trim [0, 1, 2, 8, 9, 11, 12] (
       .ops [D 25 (.mv (T 0)),
        D 26 (.mv (T 7)),
        D 27 (.ixs (T 25) (T 26)),
        D 28 (.bin .geq (T 27) (.const (.int .u8 48))),
        D 29 (.mv (T 28)),
        ⟨(some 30), some (29, true), .mv (T 0)⟩,
        ⟨(some 31), some (29, true), .mv (T 7)⟩,
        ⟨(some 32), some (29, true), .ixs (T 30) (T 31)⟩,
        ⟨(some 33), some (29, true), .bin .leq (T 32) (.const (.int .u8 57))⟩,
        D 34 (.pick (T 29) (T 33) (.const (.bool false))),
        D 9 (.mv (T 34))]) (
      .trim [0, 1, 2, 11, 12, 43] (
       .ops [D 35 (.mv (T 8)),
        D 36 (.un .not (T 35)),
        D 37 (.mv (T 36)),
        ⟨(some 38), some (37, true), .mv (T 9)⟩,
        ⟨(some 39), some (37, true), .mv (T 38)⟩,
        ⟨(some 40), some (39, true), .mv (T 2)⟩,
        ⟨(some 41), some (37, true), .pick (T 39) (T 40) (.const (.bool false))⟩,
        ⟨(some 42), some (37, true), .un .not (T 41)⟩,
        D 43 (.pick (T 37) (T 42) (.const (.bool false)))]) (
      .cond (T 43) (
       .seq (
        .ops [D 6 (.mv (.const (.bool false)))]) (
       .ret)) (
       .skip))))))) (
    .ops [D 44 (.bin .add (T 12) (I 1)),
     D 12 (.mv (T 44))]))))))) (
 .seq (
  .ops [D 45 (.mv (T 0)),
   D 46 (.lens (T 45)),
   D 47 (.mv (T 1)),
   D 48 (.bin .eql (T 46) (T 47)),
   D 6 (.mv (T 48))]) (
 .ret)))⟩
theorem model_letters_ok : Ok Try.prog 167 model_letters := ⟨by kernel_rfl, by kernel_rfl⟩

/-- diorama/model.checkSample -/
def model_checkSample : AF := ⟨79, [.tmp 6],
 .seq (
  .ops [D 3 (.box (T 0)),
   D 5 (.box (T 2)),
   D 6 (.mv (I 0))]) (
 .trim [1, 5] (
  .block 0 (
   .trim [1, 3, 5, 10] (
    .ops [D 11 (.fa 0 (T 5)),
     D 12 (.ld1 (T 11)),
     D 13 (.call 172 [(T 12)]),
     D 14 (.un .not (T 13)),
     D 15 (.mv (T 14)),
     ⟨(some 16), some (15, false), .fa 1 (T 5)⟩,
     ⟨(some 17), some (15, false), .ld1 (T 16)⟩,
     ⟨(some 18), some (15, false), .call 172 [(T 17)]⟩,
     ⟨(some 19), some (15, false), .un .not (T 18)⟩,
     D 20 (.pick (T 15) (.const (.bool true)) (T 19)),
     D 21 (.mv (T 20)),
     ⟨(some 22), some (21, false), .fa 2 (T 5)⟩,
     ⟨(some 23), some (21, false), .ld1 (T 22)⟩,
     ⟨(some 24), some (21, false), .call 150 [(T 23), (I 0), (I 1099511627776)]⟩,
     ⟨(some 25), some (21, false), .un .not (T 24)⟩,
     D 26 (.pick (T 21) (.const (.bool true)) (T 25)),
     D 10 (.mv (T 26))]) (
   .cond (T 10) (
    .seq (
     .ops [D 6 (.mv (I 1))]) (
    .ret)) (
    .trim [1, 3, 5, 27] (
     .ops [D 28 (.fa 5 (T 5)),
      D 29 (.ld1 (T 28)),
      D 30 (.len (T 29)),
      D 31 (.bin .gtr (T 30) (I 65536)),
      D 32 (.mv (T 31)),
      ⟨(some 33), some (32, false), .fa 4 (T 5)⟩,
      ⟨(some 34), some (32, false), .ld1 (T 33)⟩,
      ⟨(some 35), some (32, false), .len (T 34)⟩,
      ⟨(some 36), some (32, false), .bin .gtr (T 35) (I 4)⟩,
      D 37 (.pick (T 32) (.const (.bool true)) (T 36)),
      D 27 (.mv (T 37))]) (
    .cond (T 27) (
     .seq (
      .ops [D 6 (.mv (I 2))]) (
     .ret)) (
     .trim [1, 5, 38] (
      .draw [⟨0, 0, 0, D 39 (.mv (T 1))⟩,
       ⟨1, 0, 1, D 40 (.bin .gtr (T 39) (I 0))⟩,
       ⟨2, 0, 3, D 41 (.mv (T 40))⟩,
       ⟨3, 0, 7, ⟨(some 42), some (41, true), .fa 0 (T 5)⟩⟩,
       ⟨4, 1, 15, ⟨(some 43), some (41, true), .ld1 (T 42)⟩⟩,
       ⟨5, 0, 7, ⟨(some 44), some (41, true), .fa 10 (T 3)⟩⟩,
       ⟨6, 1, 39, ⟨(some 45), some (41, true), .ld1 (T 44)⟩⟩,
       ⟨7, 0, 7, ⟨(some 46), some (41, true), .mv (T 1)⟩⟩,
       ⟨8, 0, 135, ⟨(some 47), some (41, true), .bin .sub (T 46) (I 1)⟩⟩,
       ⟨9, 0, 487, ⟨(some 48), some (41, true), .ia 6 (T 45) (T 47)⟩⟩,
       ⟨10, 0, 999, ⟨(some 49), some (41, true), .fa 0 (T 48)⟩⟩,
       ⟨11, 1, 2023, ⟨(some 50), some (41, true), .ld1 (T 49)⟩⟩,
       ⟨12, 0, 4095, ⟨(some 51), some (41, true), .bin .leq (T 43) (T 50)⟩⟩,
       ⟨13, 0, 8191, D 52 (.pick (T 41) (T 51) (.const (.bool false)))⟩,
       ⟨14, 0, 16383, D 38 (.mv (T 52))⟩]) (
     .cond (T 38) (
      .seq (
       .ops [D 6 (.mv (I 31))]) (
      .ret)) (
      .trim [1, 5, 53] (
       .ops [D 54 (.fa 3 (T 5)),
        D 55 (.ld1 (T 54)),
        D 56 (.mv (T 55)),
        ⟨(some 57), some (56, true), .fa 4 (T 5)⟩,
        ⟨(some 58), some (56, true), .ld1 (T 57)⟩,
        ⟨(some 59), some (56, true), .len (T 58)⟩,
        ⟨(some 60), some (56, true), .bin .gtr (T 59) (I 0)⟩,
        D 61 (.pick (T 56) (T 60) (.const (.bool false))),
        D 53 (.mv (T 61))]) (
      .cond (T 53) (
       .seq (
        .ops [D 6 (.mv (I 32))]) (
       .ret)) (
       .skip)))))))))) (
 .seq (
  .ops [D 7 (.mv (I (-1)))]) (
 .trim [] (
  .seq (
   .ops [D 62 (.fa 4 (T 5)),
    D 63 (.ld1 (T 62)),
    D 64 (.len (T 63)),
    D 65 (.mv (I 0))]) (
  .block 1 (
   .loop [1, 7, 63, 64, 65] (
    .seq (
     .ops [D 66 (.bin .lss (T 65) (T 64))]) (
    .seq (
     .cond (T 66) (
      .skip) (
      .exit 1)) (
    .trim [1, 7, 63, 64, 65] (
     .block 2 (
      .seq (
       .ops [D 67 (.ia 1 (T 63) (T 65)),
        D 68 (.ld1 (T 67)),
        D 9 (.mv (T 68))]) (
      .trim [1, 9, 63, 64, 65] (
       .trim [1, 9, 63, 64, 65, 76] (
        .ops [D 69 (.mv (T 9)),
         D 70 (.mv (T 7)),
         D 71 (.bin .leq (T 69) (T 70)),
         D 72 (.mv (T 71)),
         ⟨(some 73), some (72, false), .mv (T 9)⟩,
         ⟨(some 74), some (72, false), .mv (T 1)⟩,
         ⟨(some 75), some (72, false), .bin .geq (T 73) (T 74)⟩,
         D 76 (.pick (T 72) (.const (.bool true)) (T 75))]) (
       .cond (T 76) (
        .seq (
         .ops [D 6 (.mv (I 32))]) (
        .ret)) (
        .skip))) (
      .ops [D 77 (.mv (T 9)),
       D 7 (.mv (T 77))])))) (
    .ops [D 78 (.bin .add (T 65) (I 1)),
     D 65 (.mv (T 78))]))))))) (
 .seq (
  .ops [D 6 (.mv (I 0))]) (
 .ret)))))⟩
theorem model_checkSample_ok : Ok Try.prog 168 model_checkSample := ⟨by kernel_rfl, by kernel_rfl⟩

/-- diorama/num.product -/
def num_product : AF := ⟨9, [.tmp 4],
 .seq (
  .ops [D 4 (.mv (.const (.pointer none)))]) (
 .seq (
  .ops [D 5 (.alloc [(.bool false), (.slice none 0 0)]),
   D 6 (.mv (T 0)),
   D 7 (.mv (T 1)),
   D 8 (.call 67 [(T 5), (T 6), (T 7)]),
   D 4 (.mv (T 8))]) (
 .ret))⟩
theorem num_product_ok : Ok Try.prog 171 num_product := ⟨by kernel_rfl, by kernel_rfl⟩

/-- diorama/model.tick -/
def model_tick : AF := ⟨5, [.tmp 2],
 .seq (
  .ops [D 2 (.mv (.const (.bool false)))]) (
 .seq (
  .ops [D 3 (.mv (T 0)),
   D 4 (.call 150 [(T 3), (I (-1099511627776)), (I 1099511627776)]),
   D 2 (.mv (T 4))]) (
 .ret))⟩
theorem model_tick_ok : Ok Try.prog 172 model_tick := ⟨by kernel_rfl, by kernel_rfl⟩

end Go.Proofs.Ytikbdeobghoglaa.Af
