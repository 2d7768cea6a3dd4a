/- The functions of the program in the abstract machine's words, printed by a program of ours; each is the program's by the kernel's reckoning.
   Conditions: none. -/
import Derived.Test.YtmkcngcnedjfkaaGreatAmZ
import Derived.Test.YtmkcngcnedjfkaaGreatProg
namespace Go.Proofs.YtmkcngcnedjfkaaGreat.Af
open Go Go.RowKit Go.Proofs.YtmkcngcnedjfkaaGreat.Am
theorem hm : Tryz.prog.follows .mixedOrders = true := by kernel_rfl
/-- diorama/dioramalaw15.ItemTurns -/
def dioramalaw15_ItemTurns : AF := ⟨108, [.tmp 2],
 .seq (
  .ops [D 1 (.box (T 0)),
   D 2 (.mv (.const (.bool false)))]) (
 .trim [3, 4, 5, 6] (
  .draw [⟨0, 0, 0, D 12 (.fa 0 (T 1))⟩,
   ⟨1, 1, 1, D 13 (.ldN 4 (T 12))⟩,
   ⟨2, 0, 0, D 14 (.fa 4 (T 1))⟩,
   ⟨3, 1, 4, D 15 (.ld1 (T 14))⟩,
   ⟨4, 0, 0, D 16 (.fa 5 (T 1))⟩,
   ⟨5, 1, 16, D 17 (.ld1 (T 16))⟩,
   ⟨6, 0, 0, D 18 (.fa 6 (T 1))⟩,
   ⟨7, 1, 64, D 19 (.ld1 (T 18))⟩,
   ⟨8, 2, 0, D 3 (.alloc [(.int .i64 0), (.int .i64 0), (.int .i64 0), (.slice none 0 0)])⟩,
   ⟨9, 4, 259, E (.st 4 (T 3) (T 13))⟩,
   ⟨10, 0, 783, D 4 (.mv (T 15))⟩,
   ⟨11, 0, 1855, D 5 (.mv (T 17))⟩,
   ⟨12, 0, 4095, D 6 (.mv (T 19))⟩]) (
 .seq (
  .seq (
   .ops [D 20 (.ldN 4 (T 3)),
    D 21 (.call 12 [(T 20)]),
    D 22 (.un .not (T 21))]) (
  .cond (T 22) (
   .seq (
    .ops [D 2 (.mv (.const (.bool true)))]) (
   .ret)) (
   .skip))) (
 .trim [3, 4, 5, 6, 7, 8] (
  .ops [D 24 (.ldN 4 (T 3)),
   D 25 (.mv (T 4)),
   D 26 (.mv (T 6)),
   D 27 (.call 13 [(T 24), (T 25), (T 26)]),
   D 23 (.mv (T 27)),
   D 28 (.ext (T 23) 0),
   D 29 (.ext (T 23) 1),
   D 7 (.alloc [(.int .i64 0), (.int .i64 0), (.int .i64 0), (.slice none 0 0)]),
   E (.st 4 (T 7) (T 28)),
   D 8 (.mv (T 29))]) (
 .trim [3, 4, 5, 7, 8, 9, 10] (
  .ops [D 31 (.ldN 4 (T 3)),
   D 32 (.mv (T 4)),
   D 33 (.mv (T 6)),
   D 34 (.call 14 [(T 31), (T 32), (T 33)]),
   D 30 (.mv (T 34)),
   D 35 (.ext (T 30) 0),
   D 36 (.ext (T 30) 1),
   D 9 (.alloc [(.int .i64 0), (.int .i64 0), (.int .i64 0), (.slice none 0 0)]),
   E (.st 4 (T 9) (T 35)),
   D 10 (.mv (T 36))]) (
 .trim [3, 4, 5, 7, 8, 9] (
  .trim [3, 4, 5, 7, 8, 9, 45] (
   .ops [D 37 (.mv (T 8)),
    D 38 (.mv (T 10)),
    D 39 (.bin .neq (T 37) (T 38)),
    D 40 (.mv (T 39)),
    ⟨(some 41), some (40, false), .ldN 4 (T 7)⟩,
    ⟨(some 42), some (40, false), .ldN 4 (T 9)⟩,
    ⟨(some 43), some (40, false), .call 15 [(T 41), (T 42)]⟩,
    ⟨(some 44), some (40, false), .un .not (T 43)⟩,
    D 45 (.pick (T 40) (.const (.bool true)) (T 44))]) (
  .cond (T 45) (
   .seq (
    .ops [D 2 (.mv (.const (.bool false)))]) (
   .ret)) (
   .skip))) (
 .seq (
  .seq (
   .ops [D 46 (.mv (T 8)),
    D 47 (.bin .neq (T 46) (I 0))]) (
  .cond (T 47) (
   .seq (
    .ops [D 48 (.call 16 []),
     D 2 (.mv (T 48))]) (
   .ret)) (
   .skip))) (
 .seq (
  .ops [D 49 (.mv (T 5)),
   D 50 (.call 17 [(T 49), (I 4)]),
   D 11 (.mv (T 50))]) (
 .trim [3, 4, 7, 8, 9, 11] (
  .ops [D 52 (.ldN 4 (T 3)),
   D 53 (.mv (T 4)),
   D 54 (.call 13 [(T 52), (T 53), (.const (.bool false))]),
   D 51 (.mv (T 54)),
   D 55 (.ext (T 51) 0),
   D 56 (.ext (T 51) 1),
   E (.st 4 (T 7) (T 55)),
   D 8 (.mv (T 56))]) (
 .seq (
  .seq (
   .ops [D 57 (.mv (T 8)),
    D 58 (.bin .neq (T 57) (I 0))]) (
  .cond (T 58) (
   .seq (
    .ops [D 2 (.mv (.const (.bool false)))]) (
   .ret)) (
   .skip))) (
 .trim [3, 4, 7, 8, 9, 11] (
  .ops [D 60 (.ldN 4 (T 7)),
   D 61 (.mv (T 11)),
   D 62 (.call 13 [(T 60), (T 61), (.const (.bool false))]),
   D 59 (.mv (T 62)),
   D 63 (.ext (T 59) 0),
   D 64 (.ext (T 59) 1),
   E (.st 4 (T 7) (T 63)),
   D 8 (.mv (T 64))]) (
 .trim [3, 7, 8, 9, 10] (
  .ops [D 66 (.ldN 4 (T 3)),
   D 67 (.mv (T 4)),
   D 68 (.mv (T 11)),
   D 69 (.bin .add (T 67) (T 68)),
   D 70 (.bin .rem (T 69) (I 4)),
   D 71 (.call 13 [(T 66), (T 70), (.const (.bool false))]),
   D 65 (.mv (T 71)),
   D 72 (.ext (T 65) 0),
   D 73 (.ext (T 65) 1),
   E (.st 4 (T 9) (T 72)),
   D 10 (.mv (T 73))]) (
 .trim [3, 7] (
  .trim [3, 7, 85] (
   .ops [D 74 (.mv (T 8)),
    D 75 (.bin .neq (T 74) (I 0)),
    D 76 (.mv (T 75)),
    ⟨(some 77), some (76, false), .mv (T 10)⟩,
    ⟨(some 78), some (76, false), .bin .neq (T 77) (I 0)⟩,
    D 79 (.pick (T 76) (.const (.bool true)) (T 78)),
    D 80 (.mv (T 79)),
    ⟨(some 81), some (80, false), .ldN 4 (T 7)⟩,
    ⟨(some 82), some (80, false), .ldN 4 (T 9)⟩,
    ⟨(some 83), some (80, false), .call 15 [(T 81), (T 82)]⟩,
    ⟨(some 84), some (80, false), .un .not (T 83)⟩,
    D 85 (.pick (T 80) (.const (.bool true)) (T 84))]) (
  .cond (T 85) (
   .seq (
    .ops [D 2 (.mv (.const (.bool false)))]) (
   .ret)) (
   .skip))) (
 .trim [3, 7, 8] (
  .ops [D 87 (.ldN 4 (T 3)),
   D 88 (.call 13 [(T 87), (I 0), (.const (.bool true))]),
   D 86 (.mv (T 88)),
   D 89 (.ext (T 86) 0),
   D 90 (.ext (T 86) 1),
   E (.st 4 (T 7) (T 89)),
   D 8 (.mv (T 90))]) (
 .seq (
  .seq (
   .ops [D 91 (.mv (T 8)),
    D 92 (.bin .neq (T 91) (I 0))]) (
  .cond (T 92) (
   .seq (
    .ops [D 2 (.mv (.const (.bool false)))]) (
   .ret)) (
   .skip))) (
 .trim [3, 7, 8] (
  .ops [D 94 (.ldN 4 (T 7)),
   D 95 (.call 13 [(T 94), (I 0), (.const (.bool true))]),
   D 93 (.mv (T 95)),
   D 96 (.ext (T 93) 0),
   D 97 (.ext (T 93) 1),
   E (.st 4 (T 7) (T 96)),
   D 8 (.mv (T 97))]) (
 .trim [2] (
  .ops [D 98 (.mv (T 8)),
   D 99 (.bin .eql (T 98) (I 0)),
   D 100 (.mv (T 99)),
   ⟨(some 101), some (100, true), .ldN 4 (T 7)⟩,
   ⟨(some 102), some (100, true), .ldN 4 (T 3)⟩,
   ⟨(some 103), some (100, true), .call 15 [(T 101), (T 102)]⟩,
   D 104 (.pick (T 100) (T 103) (.const (.bool false))),
   D 105 (.mv (T 104)),
   ⟨(some 106), some (105, true), .call 16 []⟩,
   D 107 (.pick (T 105) (T 106) (.const (.bool false))),
   D 2 (.mv (T 107))]) (
 .ret)))))))))))))))))⟩
theorem dioramalaw15_ItemTurns_ok : Ok Tryz.prog 3 dioramalaw15_ItemTurns := ⟨by kernel_rfl, by kernel_rfl⟩

/-- diorama/dioramalaw15.ItemChecks -/
def dioramalaw15_ItemChecks : AF := ⟨57, [.tmp 4],
 .seq (
  .ops [D 4 (.mv (.const (.bool false)))]) (
 .seq (
  .seq (
   .ops [D 13 (.mv (T 0)),
    D 14 (.call 18 [(T 13)]),
    D 15 (.un .not (T 14))]) (
  .cond (T 15) (
   .seq (
    .ops [D 4 (.mv (.const (.bool true)))]) (
   .ret)) (
   .skip))) (
 .trim [0, 1, 5, 6] (
  .ops [D 17 (.mv (T 0)),
   D 18 (.call 19 [(T 17)]),
   D 16 (.mv (T 18)),
   D 19 (.ext (T 16) 0),
   D 20 (.ext (T 16) 1),
   D 5 (.mv (T 19)),
   D 6 (.mv (T 20))]) (
 .trim [0, 1, 5, 6, 7, 8] (
  .ops [D 22 (.mv (T 0)),
   D 23 (.call 20 [(T 22)]),
   D 21 (.mv (T 23)),
   D 24 (.ext (T 21) 0),
   D 25 (.ext (T 21) 1),
   D 7 (.mv (T 24)),
   D 8 (.mv (T 25))]) (
 .trim [0, 1] (
  .trim [0, 1, 33] (
   .ops [D 26 (.mv (T 5)),
    D 27 (.mv (T 7)),
    D 28 (.bin .neq (T 26) (T 27)),
    D 29 (.mv (T 28)),
    ⟨(some 30), some (29, false), .mv (T 6)⟩,
    ⟨(some 31), some (29, false), .mv (T 8)⟩,
    ⟨(some 32), some (29, false), .bin .neq (T 30) (T 31)⟩,
    D 33 (.pick (T 29) (.const (.bool true)) (T 32))]) (
  .cond (T 33) (
   .seq (
    .ops [D 4 (.mv (.const (.bool false)))]) (
   .ret)) (
   .skip))) (
 .trim [0, 1, 9, 10] (
  .ops [D 35 (.mv (T 0)),
   D 36 (.mv (T 1)),
   D 37 (.call 21 [(T 35), (T 36)]),
   D 34 (.mv (T 37)),
   D 38 (.ext (T 34) 0),
   D 39 (.ext (T 34) 1),
   D 9 (.mv (T 38)),
   D 10 (.mv (T 39))]) (
 .trim [9, 10, 11, 12] (
  .ops [D 41 (.mv (T 0)),
   D 42 (.mv (T 1)),
   D 43 (.call 22 [(T 41), (T 42)]),
   D 40 (.mv (T 43)),
   D 44 (.ext (T 40) 0),
   D 45 (.ext (T 40) 1),
   D 11 (.mv (T 44)),
   D 12 (.mv (T 45))]) (
 .trim [4] (
  .ops [D 46 (.mv (T 10)),
   D 47 (.mv (T 12)),
   D 48 (.bin .eql (T 46) (T 47)),
   D 49 (.mv (T 48)),
   ⟨(some 50), some (49, true), .mv (T 9)⟩,
   ⟨(some 51), some (49, true), .mv (T 11)⟩,
   ⟨(some 52), some (49, true), .call 23 [(T 50), (T 51)]⟩,
   D 53 (.pick (T 49) (T 52) (.const (.bool false))),
   D 54 (.mv (T 53)),
   ⟨(some 55), some (54, true), .call 16 []⟩,
   D 56 (.pick (T 54) (T 55) (.const (.bool false))),
   D 4 (.mv (T 56))]) (
 .ret))))))))⟩
theorem dioramalaw15_ItemChecks_ok : Ok Tryz.prog 4 dioramalaw15_ItemChecks := ⟨by kernel_rfl, by kernel_rfl⟩

/-- diorama/dioramalaw15.ItemOver -/
def dioramalaw15_ItemOver : AF := ⟨62, [.tmp 2],
 .seq (
  .ops [D 1 (.box (T 0)),
   D 2 (.mv (.const (.bool false)))]) (
 .trim [3, 4, 5, 6] (
  .draw [⟨0, 0, 0, D 12 (.fa 0 (T 1))⟩,
   ⟨1, 1, 1, D 13 (.ldN 4 (T 12))⟩,
   ⟨2, 0, 0, D 14 (.fa 4 (T 1))⟩,
   ⟨3, 1, 4, D 15 (.ldN 4 (T 14))⟩,
   ⟨4, 0, 0, D 16 (.fa 8 (T 1))⟩,
   ⟨5, 1, 16, D 17 (.ld1 (T 16))⟩,
   ⟨6, 0, 0, D 18 (.fa 9 (T 1))⟩,
   ⟨7, 1, 64, D 19 (.ld1 (T 18))⟩,
   ⟨9, 2, 0, D 4 (.alloc [(.int .i64 0), (.int .i64 0), (.int .i64 0), (.slice none 0 0)])⟩,
   ⟨8, 3, 0, D 3 (.alloc [(.int .i64 0), (.int .i64 0), (.int .i64 0), (.slice none 0 0)])⟩,
   ⟨10, 4, 771, E (.st 4 (T 3) (T 13))⟩,
   ⟨11, 4, 1807, E (.st 4 (T 4) (T 15))⟩,
   ⟨12, 0, 3903, D 5 (.mv (T 17))⟩,
   ⟨13, 0, 8191, D 6 (.mv (T 19))⟩]) (
 .trim [3, 4, 5, 6] (
  .trim [3, 4, 5, 6, 27] (
   .ops [D 20 (.ldN 4 (T 3)),
    D 21 (.call 12 [(T 20)]),
    D 22 (.un .not (T 21)),
    D 23 (.mv (T 22)),
    ⟨(some 24), some (23, false), .ldN 4 (T 4)⟩,
    ⟨(some 25), some (23, false), .call 12 [(T 24)]⟩,
    ⟨(some 26), some (23, false), .un .not (T 25)⟩,
    D 27 (.pick (T 23) (.const (.bool true)) (T 26))]) (
  .cond (T 27) (
   .seq (
    .ops [D 2 (.mv (.const (.bool true)))]) (
   .ret)) (
   .skip))) (
 .seq (
  .ops [D 28 (.ldN 4 (T 3)),
   D 29 (.call 24 [(T 28)]),
   D 7 (.alloc [(.int .i64 0), (.int .i64 0), (.int .i64 0), (.slice none 0 0)]),
   E (.st 4 (T 7) (T 29))]) (
 .trim [3, 4, 5, 6, 7, 8, 9] (
  .ops [D 31 (.ldN 4 (T 7)),
   D 32 (.ldN 4 (T 4)),
   D 33 (.mv (T 5)),
   D 34 (.mv (T 6)),
   D 35 (.call 25 [(T 31), (T 32), (T 33), (T 34)]),
   D 30 (.mv (T 35)),
   D 36 (.ext (T 30) 0),
   D 37 (.ext (T 30) 1),
   D 8 (.alloc [(.int .i64 0), (.int .i64 0), (.int .i64 0), (.slice none 0 0)]),
   E (.st 4 (T 8) (T 36)),
   D 9 (.mv (T 37))]) (
 .trim [3, 7, 8, 9, 10, 11] (
  .ops [D 39 (.ldN 4 (T 3)),
   D 40 (.ldN 4 (T 4)),
   D 41 (.mv (T 5)),
   D 42 (.mv (T 6)),
   D 43 (.call 26 [(T 39), (T 40), (T 41), (T 42)]),
   D 38 (.mv (T 43)),
   D 44 (.ext (T 38) 0),
   D 45 (.ext (T 38) 1),
   D 10 (.alloc [(.int .i64 0), (.int .i64 0), (.int .i64 0), (.slice none 0 0)]),
   E (.st 4 (T 10) (T 44)),
   D 11 (.mv (T 45))]) (
 .trim [2] (
  .ops [D 46 (.mv (T 9)),
   D 47 (.mv (T 11)),
   D 48 (.bin .eql (T 46) (T 47)),
   D 49 (.mv (T 48)),
   ⟨(some 50), some (49, true), .ldN 4 (T 8)⟩,
   ⟨(some 51), some (49, true), .ldN 4 (T 10)⟩,
   ⟨(some 52), some (49, true), .call 15 [(T 50), (T 51)]⟩,
   D 53 (.pick (T 49) (T 52) (.const (.bool false))),
   D 54 (.mv (T 53)),
   ⟨(some 55), some (54, true), .ldN 4 (T 7)⟩,
   ⟨(some 56), some (54, true), .ldN 4 (T 3)⟩,
   ⟨(some 57), some (54, true), .call 15 [(T 55), (T 56)]⟩,
   D 58 (.pick (T 54) (T 57) (.const (.bool false))),
   D 59 (.mv (T 58)),
   ⟨(some 60), some (59, true), .call 16 []⟩,
   D 61 (.pick (T 59) (T 60) (.const (.bool false))),
   D 2 (.mv (T 61))]) (
 .ret)))))))⟩
theorem dioramalaw15_ItemOver_ok : Ok Tryz.prog 5 dioramalaw15_ItemOver := ⟨by kernel_rfl, by kernel_rfl⟩

/-- diorama/dioramalaw15.ItemGrids -/
def dioramalaw15_ItemGrids : AF := ⟨54, [.tmp 2],
 .seq (
  .ops [D 1 (.box (T 0)),
   D 2 (.mv (.const (.bool false)))]) (
 .trim [3, 4, 5, 6, 7] (
  .draw [⟨0, 0, 0, D 12 (.fa 0 (T 1))⟩,
   ⟨1, 1, 1, D 13 (.ld1 (T 12))⟩,
   ⟨2, 0, 0, D 14 (.fa 1 (T 1))⟩,
   ⟨3, 1, 4, D 15 (.ld1 (T 14))⟩,
   ⟨4, 0, 0, D 16 (.fa 2 (T 1))⟩,
   ⟨5, 1, 16, D 17 (.ld1 (T 16))⟩,
   ⟨6, 0, 0, D 18 (.fa 3 (T 1))⟩,
   ⟨7, 1, 64, D 19 (.ld1 (T 18))⟩,
   ⟨8, 0, 0, D 20 (.fa 4 (T 1))⟩,
   ⟨9, 1, 256, D 21 (.ld1 (T 20))⟩,
   ⟨10, 0, 3, D 3 (.mv (T 13))⟩,
   ⟨11, 0, 1039, D 4 (.mv (T 15))⟩,
   ⟨12, 0, 3135, D 5 (.mv (T 17))⟩,
   ⟨13, 0, 7423, D 6 (.mv (T 19))⟩,
   ⟨14, 0, 16383, D 7 (.mv (T 21))⟩]) (
 .seq (
  .seq (
   .ops [D 22 (.mv (T 3)),
    D 23 (.call 27 [(T 22)]),
    D 24 (.un .not (T 23))]) (
  .cond (T 24) (
   .seq (
    .ops [D 2 (.mv (.const (.bool true)))]) (
   .ret)) (
   .skip))) (
 .trim [3, 4, 5, 6, 7, 8, 9] (
  .ops [D 26 (.mv (T 3)),
   D 27 (.mv (T 4)),
   D 28 (.mv (T 5)),
   D 29 (.mv (T 6)),
   D 30 (.mv (T 7)),
   D 31 (.call 28 [(T 26), (T 27), (T 28), (T 29), (T 30)]),
   D 25 (.mv (T 31)),
   D 32 (.ext (T 25) 0),
   D 33 (.ext (T 25) 1),
   D 8 (.alloc [(.int .i64 0), (.int .i64 0), (.int .i64 0), (.slice none 0 0)]),
   E (.st 4 (T 8) (T 32)),
   D 9 (.mv (T 33))]) (
 .trim [8, 9, 10, 11] (
  .ops [D 35 (.mv (T 3)),
   D 36 (.mv (T 4)),
   D 37 (.mv (T 5)),
   D 38 (.mv (T 6)),
   D 39 (.mv (T 7)),
   D 40 (.call 29 [(T 35), (T 36), (T 37), (T 38), (T 39)]),
   D 34 (.mv (T 40)),
   D 41 (.ext (T 34) 0),
   D 42 (.ext (T 34) 1),
   D 10 (.alloc [(.int .i64 0), (.int .i64 0), (.int .i64 0), (.slice none 0 0)]),
   E (.st 4 (T 10) (T 41)),
   D 11 (.mv (T 42))]) (
 .trim [2] (
  .ops [D 43 (.mv (T 9)),
   D 44 (.mv (T 11)),
   D 45 (.bin .eql (T 43) (T 44)),
   D 46 (.mv (T 45)),
   ⟨(some 47), some (46, true), .ldN 4 (T 8)⟩,
   ⟨(some 48), some (46, true), .ldN 4 (T 10)⟩,
   ⟨(some 49), some (46, true), .call 15 [(T 47), (T 48)]⟩,
   D 50 (.pick (T 46) (T 49) (.const (.bool false))),
   D 51 (.mv (T 50)),
   ⟨(some 52), some (51, true), .call 16 []⟩,
   D 53 (.pick (T 51) (T 52) (.const (.bool false))),
   D 2 (.mv (T 53))]) (
 .ret))))))⟩
theorem dioramalaw15_ItemGrids_ok : Ok Tryz.prog 6 dioramalaw15_ItemGrids := ⟨by kernel_rfl, by kernel_rfl⟩

/-- diorama/dioramalaw15.ItemParts -/
def dioramalaw15_ItemParts : AF := ⟨102, [.tmp 6],
 .seq (
  .ops [D 3 (.box (T 0)),
   D 6 (.mv (.const (.bool false)))]) (
 .trim [1, 2, 3] (
  .trim [1, 2, 3, 23] (
   .ops [D 16 (.ldN 4 (T 3)),
    D 17 (.call 12 [(T 16)]),
    D 18 (.un .not (T 17)),
    D 19 (.mv (T 18)),
    ⟨(some 20), some (19, false), .ldN 4 (T 3)⟩,
    ⟨(some 21), some (19, false), .call 30 [(T 20)]⟩,
    ⟨(some 22), some (19, false), .bin .neq (T 21) (I 0)⟩,
    D 23 (.pick (T 19) (.const (.bool true)) (T 22))]) (
  .cond (T 23) (
   .seq (
    .ops [D 24 (.call 16 []),
     D 6 (.mv (T 24))]) (
   .ret)) (
   .skip))) (
 .trim [3, 7, 8] (
  .draw [⟨0, 0, 0, D 25 (.mv (T 1))⟩,
   ⟨1, 0, 1, D 26 (.cvi .i64 (T 25))⟩,
   ⟨2, 0, 0, D 27 (.fa 0 (T 3))⟩,
   ⟨3, 1, 4, D 28 (.ld1 (T 27))⟩,
   ⟨4, 0, 15, D 29 (.bin .rem (T 26) (T 28))⟩,
   ⟨5, 0, 31, D 30 (.bin .add (T 29) (I 1))⟩,
   ⟨6, 0, 0, D 31 (.mv (T 2))⟩,
   ⟨7, 0, 64, D 32 (.cvi .i64 (T 31))⟩,
   ⟨8, 0, 0, D 33 (.fa 1 (T 3))⟩,
   ⟨9, 1, 256, D 34 (.ld1 (T 33))⟩,
   ⟨10, 0, 960, D 35 (.bin .rem (T 32) (T 34))⟩,
   ⟨11, 0, 1984, D 36 (.bin .add (T 35) (I 1))⟩,
   ⟨12, 0, 63, D 7 (.mv (T 30))⟩,
   ⟨13, 0, 8191, D 8 (.mv (T 36))⟩]) (
 .trim [3, 7, 8, 9, 10] (
  .draw [⟨0, 0, 0, D 37 (.fa 0 (T 3))⟩,
   ⟨1, 1, 1, D 38 (.ld1 (T 37))⟩,
   ⟨2, 0, 0, D 39 (.mv (T 7))⟩,
   ⟨3, 0, 7, D 40 (.bin .add (T 38) (T 39))⟩,
   ⟨4, 0, 15, D 41 (.bin .sub (T 40) (I 1))⟩,
   ⟨5, 0, 0, D 42 (.mv (T 7))⟩,
   ⟨6, 0, 63, D 43 (.bin .quo (T 41) (T 42))⟩,
   ⟨7, 0, 0, D 44 (.fa 1 (T 3))⟩,
   ⟨8, 1, 128, D 45 (.ld1 (T 44))⟩,
   ⟨9, 0, 0, D 46 (.mv (T 8))⟩,
   ⟨10, 0, 896, D 47 (.bin .add (T 45) (T 46))⟩,
   ⟨11, 0, 1920, D 48 (.bin .sub (T 47) (I 1))⟩,
   ⟨12, 0, 0, D 49 (.mv (T 8))⟩,
   ⟨13, 0, 8064, D 50 (.bin .quo (T 48) (T 49))⟩,
   ⟨14, 0, 127, D 9 (.mv (T 43))⟩,
   ⟨15, 0, 32767, D 10 (.mv (T 50))⟩]) (
 .trim [3, 7, 8, 9, 10] (
  .trim [3, 7, 8, 9, 10, 56] (
   .ops [D 51 (.mv (T 9)),
    D 52 (.bin .gtr (T 51) (I 8)),
    D 53 (.mv (T 52)),
    ⟨(some 54), some (53, false), .mv (T 10)⟩,
    ⟨(some 55), some (53, false), .bin .gtr (T 54) (I 8)⟩,
    D 56 (.pick (T 53) (.const (.bool true)) (T 55))]) (
  .cond (T 56) (
   .seq (
    .ops [D 57 (.call 16 []),
     D 6 (.mv (T 57))]) (
   .ret)) (
   .skip))) (
 .seq (
  .ops [D 11 (.mv (.const (.slice none 0 0)))]) (
 .trim [3, 9, 10, 11] (
  .seq (
   .ops [D 12 (.mv (I 0))]) (
  .block 0 (
   .loop [3, 7, 8, 9, 10, 11, 12] (
    .seq (
     .seq (
      .ops [D 58 (.mv (T 12)),
       D 59 (.mv (T 10)),
       D 60 (.bin .lss (T 58) (T 59))]) (
     .cond (T 60) (
      .skip) (
      .exit 0))) (
    .trim [3, 7, 8, 9, 10, 11, 12] (
     .block 1 (
      .seq (
       .ops [D 13 (.mv (I 0))]) (
      .block 2 (
       .loop [3, 7, 8, 9, 10, 11, 12, 13] (
        .seq (
         .seq (
          .ops [D 63 (.mv (T 13)),
           D 64 (.mv (T 9)),
           D 65 (.bin .lss (T 63) (T 64))]) (
         .cond (T 65) (
          .skip) (
          .exit 2))) (
        .trim [3, 7, 8, 9, 10, 11, 12, 13] (
         .block 3 (
          .ops [D 68 (.mv (T 11)),
           D 69 (.ldN 4 (T 3)),
           D 70 (.mv (T 13)),
           D 71 (.mv (T 7)),
           D 72 (.bin .mul (T 70) (T 71)),
           D 73 (.mv (T 12)),
           D 74 (.mv (T 8)),
           D 75 (.bin .mul (T 73) (T 74)),
           D 76 (.mv (T 7)),
           D 77 (.mv (T 8)),
           D 78 (.call 31 [(T 69), (T 72), (T 75), (T 76), (T 77)]),
           D 79 (.bslice [(.int .i64 0), (.int .i64 0), (.int .i64 0), (.slice none 0 0)] 1 [(0, 4, (T 78))]),
           D 80 (.app 4 48 (T 68) (T 79)),
           D 11 (.mv (T 80))])) (
        .ops [D 66 (.mv (T 13)),
         D 67 (.bin .add (T 66) (I 1)),
         D 13 (.mv (T 67))]))))))) (
    .ops [D 61 (.mv (T 12)),
     D 62 (.bin .add (T 61) (I 1)),
     D 12 (.mv (T 62))])))))) (
 .trim [3, 14, 15] (
  .ops [D 82 (.mv (T 11)),
   D 83 (.mv (T 10)),
   D 84 (.mv (T 9)),
   D 85 (.fa 0 (T 3)),
   D 86 (.ld1 (T 85)),
   D 87 (.fa 1 (T 3)),
   D 88 (.ld1 (T 87)),
   D 89 (.call 28 [(T 82), (T 83), (T 84), (T 86), (T 88)]),
   D 81 (.mv (T 89)),
   D 90 (.ext (T 81) 0),
   D 91 (.ext (T 81) 1),
   D 14 (.alloc [(.int .i64 0), (.int .i64 0), (.int .i64 0), (.slice none 0 0)]),
   E (.st 4 (T 14) (T 90)),
   D 15 (.mv (T 91))]) (
 .trim [6] (
  .ops [D 92 (.mv (T 15)),
   D 93 (.bin .eql (T 92) (I 0)),
   D 94 (.mv (T 93)),
   ⟨(some 95), some (94, true), .ldN 4 (T 14)⟩,
   ⟨(some 96), some (94, true), .ldN 4 (T 3)⟩,
   ⟨(some 97), some (94, true), .call 15 [(T 95), (T 96)]⟩,
   D 98 (.pick (T 94) (T 97) (.const (.bool false))),
   D 99 (.mv (T 98)),
   ⟨(some 100), some (99, true), .call 16 []⟩,
   D 101 (.pick (T 99) (T 100) (.const (.bool false))),
   D 6 (.mv (T 101))]) (
 .ret)))))))))⟩
theorem dioramalaw15_ItemParts_ok : Ok Tryz.prog 7 dioramalaw15_ItemParts := ⟨by kernel_rfl, by kernel_rfl⟩

/-- diorama/dioramalaw15.ItemFrom -/
def dioramalaw15_ItemFrom : AF := ⟨31, [.tmp 2],
 .seq (
  .ops [D 1 (.box (T 0)),
   D 2 (.mv (.const (.bool false)))]) (
 .seq (
  .seq (
   .ops [D 7 (.ldN 4 (T 1)),
    D 8 (.call 40 [(T 7), (I 1)]),
    D 9 (.un .not (T 8))]) (
  .cond (T 9) (
   .seq (
    .ops [D 2 (.mv (.const (.bool true)))]) (
   .ret)) (
   .skip))) (
 .trim [1, 3, 4] (
  .ops [D 11 (.ldN 4 (T 1)),
   D 12 (.call 41 [(T 11)]),
   D 10 (.mv (T 12)),
   D 13 (.ext (T 10) 0),
   D 14 (.ext (T 10) 1),
   D 3 (.mv (T 13)),
   D 4 (.mv (T 14))]) (
 .trim [3, 4, 5, 6] (
  .ops [D 16 (.ldN 4 (T 1)),
   D 17 (.call 42 [(T 16)]),
   D 15 (.mv (T 17)),
   D 18 (.ext (T 15) 0),
   D 19 (.ext (T 15) 1),
   D 5 (.mv (T 18)),
   D 6 (.mv (T 19))]) (
 .trim [2] (
  .ops [D 20 (.mv (T 4)),
   D 21 (.mv (T 6)),
   D 22 (.bin .eql (T 20) (T 21)),
   D 23 (.mv (T 22)),
   ⟨(some 24), some (23, true), .mv (T 3)⟩,
   ⟨(some 25), some (23, true), .mv (T 5)⟩,
   ⟨(some 26), some (23, true), .call 43 [(T 24), (T 25)]⟩,
   D 27 (.pick (T 23) (T 26) (.const (.bool false))),
   D 28 (.mv (T 27)),
   ⟨(some 29), some (28, true), .call 16 []⟩,
   D 30 (.pick (T 28) (T 29) (.const (.bool false))),
   D 2 (.mv (T 30))]) (
 .ret)))))⟩
theorem dioramalaw15_ItemFrom_ok : Ok Tryz.prog 10 dioramalaw15_ItemFrom := ⟨by kernel_rfl, by kernel_rfl⟩

/-- diorama/dioramalaw15.ItemNodes -/
def dioramalaw15_ItemNodes : AF := ⟨47, [.tmp 2],
 .seq (
  .ops [D 2 (.mv (.const (.bool false)))]) (
 .seq (
  .seq (
   .ops [D 9 (.mv (T 0)),
    D 10 (.call 18 [(T 9)]),
    D 11 (.un .not (T 10))]) (
  .cond (T 11) (
   .seq (
    .ops [D 2 (.mv (.const (.bool true)))]) (
   .ret)) (
   .skip))) (
 .trim [0, 3, 4] (
  .ops [D 13 (.mv (T 0)),
   D 14 (.call 44 [(T 13)]),
   D 12 (.mv (T 14)),
   D 15 (.ext (T 12) 0),
   D 16 (.ext (T 12) 1),
   D 3 (.alloc [(.int .i64 0), (.slice none 0 0), (.slice none 0 0), (.bool false)]),
   E (.st 4 (T 3) (T 15)),
   D 4 (.mv (T 16))]) (
 .trim [0, 3, 4, 5, 6] (
  .ops [D 18 (.mv (T 0)),
   D 19 (.call 45 [(T 18)]),
   D 17 (.mv (T 19)),
   D 20 (.ext (T 17) 0),
   D 21 (.ext (T 17) 1),
   D 5 (.alloc [(.int .i64 0), (.slice none 0 0), (.slice none 0 0), (.bool false)]),
   E (.st 4 (T 5) (T 20)),
   D 6 (.mv (T 21))]) (
 .trim [0, 3, 4] (
  .trim [0, 3, 4, 30] (
   .ops [D 22 (.mv (T 4)),
    D 23 (.mv (T 6)),
    D 24 (.bin .neq (T 22) (T 23)),
    D 25 (.mv (T 24)),
    ⟨(some 26), some (25, false), .ldN 4 (T 3)⟩,
    ⟨(some 27), some (25, false), .ldN 4 (T 5)⟩,
    ⟨(some 28), some (25, false), .call 46 [(T 26), (T 27)]⟩,
    ⟨(some 29), some (25, false), .un .not (T 28)⟩,
    D 30 (.pick (T 25) (.const (.bool true)) (T 29))]) (
  .cond (T 30) (
   .seq (
    .ops [D 2 (.mv (.const (.bool false)))]) (
   .ret)) (
   .skip))) (
 .trim [] (
  .seq (
   .ops [D 31 (.mv (T 4)),
    D 32 (.bin .eql (T 31) (I 0))]) (
  .cond (T 32) (
   .trim [0, 7, 8] (
    .ops [D 34 (.ldN 4 (T 3)),
     D 35 (.call 41 [(T 34)]),
     D 33 (.mv (T 35)),
     D 36 (.ext (T 33) 0),
     D 37 (.ext (T 33) 1),
     D 7 (.mv (T 36)),
     D 8 (.mv (T 37))]) (
   .trim [45] (
    .ops [D 38 (.mv (T 8)),
     D 39 (.bin .neq (T 38) (I 0)),
     D 40 (.mv (T 39)),
     ⟨(some 41), some (40, false), .mv (T 7)⟩,
     ⟨(some 42), some (40, false), .mv (T 0)⟩,
     ⟨(some 43), some (40, false), .call 43 [(T 41), (T 42)]⟩,
     ⟨(some 44), some (40, false), .un .not (T 43)⟩,
     D 45 (.pick (T 40) (.const (.bool true)) (T 44))]) (
   .cond (T 45) (
    .seq (
     .ops [D 2 (.mv (.const (.bool false)))]) (
    .ret)) (
    .skip)))) (
   .skip))) (
 .seq (
  .ops [D 46 (.call 16 []),
   D 2 (.mv (T 46))]) (
 .ret)))))))⟩
theorem dioramalaw15_ItemNodes_ok : Ok Tryz.prog 11 dioramalaw15_ItemNodes := ⟨by kernel_rfl, by kernel_rfl⟩

/-- diorama/dioramalaw15.plain -/
def dioramalaw15_plain : AF := ⟨22, [.tmp 2],
 .seq (
  .ops [D 1 (.box (T 0)),
   D 2 (.mv (.const (.bool false)))]) (
 .trim [1] (
  .seq (
   .ops [D 3 (.mv (I 0))]) (
  .block 0 (
   .loop [1, 3] (
    .trim [1, 3] (
     .seq (
      .ops [D 4 (.mv (T 3)),
       D 5 (.fa 3 (T 1)),
       D 6 (.ld1 (T 5)),
       D 7 (.len (T 6)),
       D 8 (.bin .lss (T 4) (T 7))]) (
     .cond (T 8) (
      .skip) (
      .exit 0))) (
    .trim [1, 3] (
     .block 1 (
      .trim [1, 3, 17] (
       .ops [D 11 (.fa 3 (T 1)),
        D 12 (.ld1 (T 11)),
        D 13 (.mv (T 3)),
        D 14 (.ia 1 (T 12) (T 13)),
        D 15 (.ld1 (T 14)),
        D 16 (.len (T 15)),
        D 17 (.bin .gtr (T 16) (I 5000))]) (
      .cond (T 17) (
       .seq (
        .ops [D 2 (.mv (.const (.bool false)))]) (
       .ret)) (
       .skip)))) (
    .ops [D 9 (.mv (T 3)),
     D 10 (.bin .add (T 9) (I 1)),
     D 3 (.mv (T 10))])))))) (
 .seq (
  .ops [D 18 (.fa 3 (T 1)),
   D 19 (.ld1 (T 18)),
   D 20 (.len (T 19)),
   D 21 (.bin .leq (T 20) (I 8)),
   D 2 (.mv (T 21))]) (
 .ret)))⟩
theorem dioramalaw15_plain_ok : Ok Tryz.prog 12 dioramalaw15_plain := ⟨by kernel_rfl, by kernel_rfl⟩

/-- diorama/item.Turn -/
def item_Turn : AF := ⟨23, [.cellN 4 6, .tmp 7],
 .seq (
  .ops [D 3 (.box (T 0)),
   D 6 (.alloc [(.int .i64 0), (.int .i64 0), (.int .i64 0), (.slice none 0 0)]),
   D 7 (.mv (I 0))]) (
 .trim [1, 2, 3, 6] (
  .seq (
   .ops [D 9 (.ldN 4 (T 3)),
    D 10 (.call 47 [(T 9)]),
    D 8 (.mv (T 10))]) (
  .seq (
   .ops [D 11 (.mv (T 8)),
    D 12 (.bin .neq (T 11) (I 0))]) (
  .cond (T 12) (
   .seq (
    .ops [D 13 (.build [(.int .i64 0), (.int .i64 0), (.int .i64 0), (.slice none 0 0)] []),
     D 14 (.mv (T 8)),
     E (.st 4 (T 6) (T 13)),
     D 7 (.mv (T 14))]) (
   .ret)) (
   .skip)))) (
 .trim [1, 2, 3, 6] (
  .seq (
   .ops [D 15 (.mv (T 1)),
    D 16 (.call 48 [(T 15), (I 0), (I 3)]),
    D 17 (.un .not (T 16))]) (
  .cond (T 17) (
   .seq (
    .ops [D 18 (.build [(.int .i64 0), (.int .i64 0), (.int .i64 0), (.slice none 0 0)] []),
     E (.st 4 (T 6) (T 18)),
     D 7 (.mv (I 1))]) (
   .ret)) (
   .skip))) (
 .seq (
  .ops [D 19 (.ldN 4 (T 3)),
   D 20 (.mv (T 1)),
   D 21 (.mv (T 2)),
   D 22 (.call 49 [(T 19), (T 20), (T 21)]),
   E (.st 4 (T 6) (T 22)),
   D 7 (.mv (I 0))]) (
 .ret))))⟩
theorem item_Turn_ok : Ok Tryz.prog 13 item_Turn := ⟨by kernel_rfl, by kernel_rfl⟩

/-- diorama/dioramaref15.Turn -/
def dioramaref15_Turn : AF := ⟨23, [.cellN 4 6, .tmp 7],
 .seq (
  .ops [D 3 (.box (T 0)),
   D 6 (.alloc [(.int .i64 0), (.int .i64 0), (.int .i64 0), (.slice none 0 0)]),
   D 7 (.mv (I 0))]) (
 .seq (
  .ops [D 9 (.ldN 4 (T 3)),
   D 10 (.call 30 [(T 9)]),
   D 8 (.mv (T 10))]) (
 .trim [1, 2, 3, 6] (
  .seq (
   .ops [D 11 (.mv (T 8)),
    D 12 (.bin .neq (T 11) (I 0))]) (
  .cond (T 12) (
   .seq (
    .ops [D 13 (.build [(.int .i64 0), (.int .i64 0), (.int .i64 0), (.slice none 0 0)] []),
     D 14 (.mv (T 8)),
     E (.st 4 (T 6) (T 13)),
     D 7 (.mv (T 14))]) (
   .ret)) (
   .skip))) (
 .trim [1, 2, 3, 6] (
  .seq (
   .ops [D 15 (.mv (T 1)),
    D 16 (.call 50 [(T 15), (I 0), (I 3)]),
    D 17 (.un .not (T 16))]) (
  .cond (T 17) (
   .seq (
    .ops [D 18 (.build [(.int .i64 0), (.int .i64 0), (.int .i64 0), (.slice none 0 0)] []),
     E (.st 4 (T 6) (T 18)),
     D 7 (.mv (I 1))]) (
   .ret)) (
   .skip))) (
 .seq (
  .ops [D 19 (.ldN 4 (T 3)),
   D 20 (.mv (T 1)),
   D 21 (.mv (T 2)),
   D 22 (.call 51 [(T 19), (T 20), (T 21)]),
   E (.st 4 (T 6) (T 22)),
   D 7 (.mv (I 0))]) (
 .ret)))))⟩
theorem dioramaref15_Turn_ok : Ok Tryz.prog 14 dioramaref15_Turn := ⟨by kernel_rfl, by kernel_rfl⟩

/-- diorama/dioramaref00.EqImage -/
def dioramaref00_EqImage : AF := ⟨31, [.tmp 4],
 .seq (
  .ops [D 2 (.box (T 0)),
   D 3 (.box (T 1)),
   D 4 (.mv (.const (.bool false)))]) (
 .trim [4] (
  .ops [D 5 (.fa 0 (T 2)),
   D 6 (.ld1 (T 5)),
   D 7 (.fa 0 (T 3)),
   D 8 (.ld1 (T 7)),
   D 9 (.bin .eql (T 6) (T 8)),
   D 10 (.mv (T 9)),
   ⟨(some 11), some (10, true), .fa 1 (T 2)⟩,
   ⟨(some 12), some (10, true), .ld1 (T 11)⟩,
   ⟨(some 13), some (10, true), .fa 1 (T 3)⟩,
   ⟨(some 14), some (10, true), .ld1 (T 13)⟩,
   ⟨(some 15), some (10, true), .bin .eql (T 12) (T 14)⟩,
   D 16 (.pick (T 10) (T 15) (.const (.bool false))),
   D 17 (.mv (T 16)),
   ⟨(some 18), some (17, true), .fa 2 (T 2)⟩,
   ⟨(some 19), some (17, true), .ld1 (T 18)⟩,
   ⟨(some 20), some (17, true), .fa 2 (T 3)⟩,
   ⟨(some 21), some (17, true), .ld1 (T 20)⟩,
   ⟨(some 22), some (17, true), .bin .eql (T 19) (T 21)⟩,
   D 23 (.pick (T 17) (T 22) (.const (.bool false))),
   D 24 (.mv (T 23)),
   ⟨(some 25), some (24, true), .fa 3 (T 2)⟩,
   ⟨(some 26), some (24, true), .ld1 (T 25)⟩,
   ⟨(some 27), some (24, true), .fa 3 (T 3)⟩,
   ⟨(some 28), some (24, true), .ld1 (T 27)⟩,
   ⟨(some 29), some (24, true), .call 52 [(T 26), (T 28)]⟩,
   D 30 (.pick (T 24) (T 29) (.const (.bool false))),
   D 4 (.mv (T 30))]) (
 .ret))⟩
theorem dioramaref00_EqImage_ok : Ok Tryz.prog 15 dioramaref00_EqImage := ⟨by kernel_rfl, by kernel_rfl⟩

/-- diorama/dioramalaw15.awake -/
def dioramalaw15_awake : AF := ⟨38, [.tmp 0],
 .seq (
  .ops [D 0 (.mv (.const (.bool false)))]) (
 .trim [1, 2] (
  .ops [D 6 (.bslice [(.int .i64 0)] 1 [(0, 1, (I 9))]),
   D 7 (.build [(.int .i64 0), (.int .i64 0), (.slice none 0 0), (.slice none 0 0), (.slice none 0 0), (.int .i64 0), (.int .i64 0), (.int .i64 0), (.int .i64 0), (.slice none 0 0), (.int .i64 0), (.bool false)] [(0, 1, (I 4)), (1, 1, (I 2)), (7, 1, (I 2)), (8, 1, (I 1)), (9, 1, (T 6))]),
   D 8 (.bslice [(.int .i64 0), (.int .i64 0), (.slice none 0 0), (.slice none 0 0), (.slice none 0 0), (.int .i64 0), (.int .i64 0), (.int .i64 0), (.int .i64 0), (.slice none 0 0), (.int .i64 0), (.bool false)] 1 [(0, 12, (T 7))]),
   D 9 (.call 32 [(T 8), (I 4)]),
   D 5 (.mv (T 9)),
   D 10 (.ext (T 5) 0),
   D 11 (.ext (T 5) 1),
   D 1 (.alloc [(.int .i64 0), (.int .i64 0), (.int .i64 0), (.slice none 0 0)]),
   E (.st 4 (T 1) (T 10)),
   D 2 (.mv (T 11))]) (
 .trim [] (
  .trim [21] (
   .ops [D 12 (.mv (T 2)),
    D 13 (.bin .neq (T 12) (I 0)),
    D 14 (.mv (T 13)),
    ⟨(some 15), some (14, false), .ldN 4 (T 1)⟩,
    ⟨(some 16), some (14, false), .bslice [(.int .i64 0), (.int .i64 0)] 2 [(0, 1, (I 9)), (1, 1, (I 9))]⟩,
    ⟨(some 17), some (14, false), .bslice [(.slice none 0 0)] 1 [(0, 1, (T 16))]⟩,
    ⟨(some 18), some (14, false), .build [(.int .i64 0), (.int .i64 0), (.int .i64 0), (.slice none 0 0)] [(0, 1, (I 2)), (1, 1, (I 1)), (2, 1, (I 8)), (3, 1, (T 17))]⟩,
    ⟨(some 19), some (14, false), .call 15 [(T 15), (T 18)]⟩,
    ⟨(some 20), some (14, false), .un .not (T 19)⟩,
    D 21 (.pick (T 14) (.const (.bool true)) (T 20))]) (
  .cond (T 21) (
   .seq (
    .ops [D 0 (.mv (.const (.bool false)))]) (
   .ret)) (
   .skip))) (
 .trim [3, 4] (
  .ops [D 23 (.bslice [(.int .i64 0), (.int .i64 0)] 2 [(0, 1, (I 1)), (1, 1, (I 2))]),
   D 24 (.bslice [(.slice none 0 0)] 1 [(0, 1, (T 23))]),
   D 25 (.build [(.int .i64 0), (.int .i64 0), (.int .i64 0), (.slice none 0 0)] [(0, 1, (I 2)), (1, 1, (I 1)), (2, 1, (I 8)), (3, 1, (T 24))]),
   D 26 (.call 13 [(T 25), (I 0), (.const (.bool true))]),
   D 22 (.mv (T 26)),
   D 27 (.ext (T 22) 0),
   D 28 (.ext (T 22) 1),
   D 3 (.alloc [(.int .i64 0), (.int .i64 0), (.int .i64 0), (.slice none 0 0)]),
   E (.st 4 (T 3) (T 27)),
   D 4 (.mv (T 28))]) (
 .trim [0] (
  .ops [D 29 (.mv (T 4)),
   D 30 (.bin .eql (T 29) (I 0)),
   D 31 (.mv (T 30)),
   ⟨(some 32), some (31, true), .ldN 4 (T 3)⟩,
   ⟨(some 33), some (31, true), .bslice [(.int .i64 0), (.int .i64 0)] 2 [(0, 1, (I 2)), (1, 1, (I 1))]⟩,
   ⟨(some 34), some (31, true), .bslice [(.slice none 0 0)] 1 [(0, 1, (T 33))]⟩,
   ⟨(some 35), some (31, true), .build [(.int .i64 0), (.int .i64 0), (.int .i64 0), (.slice none 0 0)] [(0, 1, (I 2)), (1, 1, (I 1)), (2, 1, (I 8)), (3, 1, (T 34))]⟩,
   ⟨(some 36), some (31, true), .call 15 [(T 32), (T 35)]⟩,
   D 37 (.pick (T 31) (T 36) (.const (.bool false))),
   D 0 (.mv (T 37))]) (
 .ret)))))⟩
theorem dioramalaw15_awake_ok : Ok Tryz.prog 16 dioramalaw15_awake := ⟨by kernel_rfl, by kernel_rfl⟩

/-- diorama/dioramaref00.Within -/
def dioramaref00_Within : AF := ⟨11, [.tmp 4],
 .seq (
  .ops [D 4 (.mv (I 0))]) (
 .trim [4] (
  .ops [D 5 (.mv (T 0)),
   D 6 (.cvi .u64 (T 5)),
   D 7 (.mv (T 1)),
   D 8 (.cvi .u64 (T 7)),
   D 9 (.bin .rem (T 6) (T 8)),
   D 10 (.cvi .i64 (T 9)),
   D 4 (.mv (T 10))]) (
 .ret))⟩
theorem dioramaref00_Within_ok : Ok Tryz.prog 17 dioramaref00_Within := ⟨by kernel_rfl, by kernel_rfl⟩

/-- diorama/dioramalaw15.small -/
def dioramalaw15_small : AF := ⟨46, [.tmp 2],
 .seq (
  .ops [D 2 (.mv (.const (.bool false)))]) (
 .trim [0] (
  .seq (
   .ops [D 3 (.mv (I 0))]) (
  .block 0 (
   .loop [0, 3] (
    .seq (
     .seq (
      .ops [D 5 (.mv (T 3)),
       D 6 (.mv (T 0)),
       D 7 (.len (T 6)),
       D 8 (.bin .lss (T 5) (T 7))]) (
     .cond (T 8) (
      .skip) (
      .exit 0))) (
    .trim [0, 3] (
     .block 1 (
      .seq (
       .ops [D 11 (.mv (T 0)),
        D 12 (.mv (T 3)),
        D 13 (.ia 12 (T 11) (T 12)),
        D 14 (.ldN 12 (T 13)),
        D 4 (.alloc [(.int .i64 0), (.int .i64 0), (.slice none 0 0), (.slice none 0 0), (.slice none 0 0), (.int .i64 0), (.int .i64 0), (.int .i64 0), (.int .i64 0), (.slice none 0 0), (.int .i64 0), (.bool false)]),
        E (.st 12 (T 4) (T 14))]) (
      .trim [0, 3, 42] (
       .ops [D 15 (.fa 2 (T 4)),
        D 16 (.ld1 (T 15)),
        D 17 (.len (T 16)),
        D 18 (.bin .gtr (T 17) (I 20000)),
        D 19 (.mv (T 18)),
        ⟨(some 20), some (19, true), .fa 2 (T 4)⟩,
        ⟨(some 21), some (19, true), .ld1 (T 20)⟩,
        ⟨(some 22), some (19, true), .len (T 21)⟩,
        ⟨(some 23), some (19, true), .bin .leq (T 22) (I 65536)⟩,
        D 24 (.pick (T 19) (T 23) (.const (.bool false))),
        D 25 (.mv (T 24)),
        ⟨(some 26), some (25, false), .fa 3 (T 4)⟩,
        ⟨(some 27), some (25, false), .ld1 (T 26)⟩,
        ⟨(some 28), some (25, false), .len (T 27)⟩,
        ⟨(some 29), some (25, false), .bin .gtr (T 28) (I 100)⟩,
        D 30 (.pick (T 25) (.const (.bool true)) (T 29)),
        D 31 (.mv (T 30)),
        ⟨(some 32), some (31, false), .fa 4 (T 4)⟩,
        ⟨(some 33), some (31, false), .ld1 (T 32)⟩,
        ⟨(some 34), some (31, false), .len (T 33)⟩,
        ⟨(some 35), some (31, false), .bin .gtr (T 34) (I 100)⟩,
        D 36 (.pick (T 31) (.const (.bool true)) (T 35)),
        D 37 (.mv (T 36)),
        ⟨(some 38), some (37, false), .fa 9 (T 4)⟩,
        ⟨(some 39), some (37, false), .ld1 (T 38)⟩,
        ⟨(some 40), some (37, false), .len (T 39)⟩,
        ⟨(some 41), some (37, false), .bin .gtr (T 40) (I 100)⟩,
        D 42 (.pick (T 37) (.const (.bool true)) (T 41))]) (
      .cond (T 42) (
       .seq (
        .ops [D 2 (.mv (.const (.bool false)))]) (
       .ret)) (
       .skip))))) (
    .ops [D 9 (.mv (T 3)),
     D 10 (.bin .add (T 9) (I 1)),
     D 3 (.mv (T 10))])))))) (
 .seq (
  .ops [D 43 (.mv (T 0)),
   D 44 (.len (T 43)),
   D 45 (.bin .leq (T 44) (I 16)),
   D 2 (.mv (T 45))]) (
 .ret)))⟩
theorem dioramalaw15_small_ok : Ok Tryz.prog 18 dioramalaw15_small := ⟨by kernel_rfl, by kernel_rfl⟩

/-- diorama/item.Check -/
def item_Check : AF := ⟨64, [.tmp 2, .tmp 3],
 .seq (
  .ops [D 1 (.box (T 0)),
   D 2 (.mv (I 0)),
   D 3 (.mv (I 0))]) (
 .trim [1] (
  .seq (
   .ops [D 9 (.ld1 (T 1)),
    D 10 (.len (T 9)),
    D 11 (.bin .gtr (T 10) (I 12))]) (
  .cond (T 11) (
   .seq (
    .ops [D 2 (.mv (I 2)),
     D 3 (.mv (I (-1)))]) (
   .ret)) (
   .skip))) (
 .trim [1] (
  .seq (
   .ops [D 12 (.ld1 (T 1)),
    D 13 (.len (T 12)),
    D 14 (.mv (I 0))]) (
  .block 0 (
   .loop [1, 12, 13, 14] (
    .seq (
     .ops [D 15 (.bin .lss (T 14) (T 13))]) (
    .seq (
     .cond (T 15) (
      .skip) (
      .exit 0)) (
    .trim [1, 12, 13, 14] (
     .block 1 (
      .seq (
       .ops [D 16 (.mv (T 14)),
        D 17 (.ia 12 (T 12) (T 14)),
        D 18 (.ldN 12 (T 17)),
        D 5 (.alloc [(.int .i64 0), (.int .i64 0), (.slice none 0 0), (.slice none 0 0), (.slice none 0 0), (.int .i64 0), (.int .i64 0), (.int .i64 0), (.int .i64 0), (.slice none 0 0), (.int .i64 0), (.bool false)]),
        D 4 (.mv (T 16)),
        E (.st 12 (T 5) (T 18))]) (
      .trim [1, 4, 5, 12, 13, 14] (
       .seq (
        .ops [D 19 (.ldN 12 (T 5)),
         D 20 (.call 53 [(T 19)]),
         D 21 (.un .not (T 20))]) (
       .cond (T 21) (
        .seq (
         .ops [D 22 (.mv (T 4)),
          D 2 (.mv (I 1)),
          D 3 (.mv (T 22))]) (
        .ret)) (
        .skip))) (
      .trim [1, 4, 12, 13, 14, 31] (
       .ops [D 23 (.ldN 12 (T 5)),
        D 24 (.call 54 [(T 23)]),
        D 25 (.un .not (T 24)),
        D 26 (.mv (T 25)),
        ⟨(some 27), some (26, false), .fa 2 (T 5)⟩,
        ⟨(some 28), some (26, false), .ld1 (T 27)⟩,
        ⟨(some 29), some (26, false), .len (T 28)⟩,
        ⟨(some 30), some (26, false), .bin .gtr (T 29) (I 65536)⟩,
        D 31 (.pick (T 26) (.const (.bool true)) (T 30))]) (
      .cond (T 31) (
       .seq (
        .ops [D 32 (.mv (T 4)),
         D 2 (.mv (I 4)),
         D 3 (.mv (T 32))]) (
       .ret)) (
       .skip)))))) (
    .ops [D 33 (.bin .add (T 14) (I 1)),
     D 14 (.mv (T 33))]))))))) (
 .trim [1] (
  .seq (
   .ops [D 34 (.ld1 (T 1)),
    D 35 (.len (T 34)),
    D 36 (.mv (I 0))]) (
  .block 2 (
   .loop [1, 34, 35, 36] (
    .seq (
     .ops [D 37 (.bin .lss (T 36) (T 35))]) (
    .seq (
     .cond (T 37) (
      .skip) (
      .exit 2)) (
    .trim [1, 34, 35, 36] (
     .block 3 (
      .seq (
       .ops [D 38 (.mv (T 36)),
        D 39 (.ia 12 (T 34) (T 36)),
        D 40 (.ldN 12 (T 39)),
        D 7 (.alloc [(.int .i64 0), (.int .i64 0), (.slice none 0 0), (.slice none 0 0), (.slice none 0 0), (.int .i64 0), (.int .i64 0), (.int .i64 0), (.int .i64 0), (.slice none 0 0), (.int .i64 0), (.bool false)]),
        D 6 (.mv (T 38)),
        E (.st 12 (T 7) (T 40))]) (
      .trim [1, 6, 7, 34, 35, 36] (
       .trim [1, 6, 7, 34, 35, 36, 46] (
        .ops [D 41 (.ld1 (T 1)),
         D 42 (.fa 0 (T 7)),
         D 43 (.ld1 (T 42)),
         D 44 (.call 55 [(T 41), (T 43)]),
         D 45 (.mv (T 6)),
         D 46 (.bin .lss (T 44) (T 45))]) (
       .cond (T 46) (
        .seq (
         .ops [D 47 (.mv (T 6)),
          D 2 (.mv (I 30)),
          D 3 (.mv (T 47))]) (
        .ret)) (
        .skip))) (
      .seq (
       .ops [D 48 (.fa 3 (T 7)),
        D 49 (.ld1 (T 48)),
        D 50 (.mkf 57 [] [(T 1)]),
        D 51 (.call 56 [(T 49), (T 50)])]) (
      .cond (T 51) (
       .seq (
        .ops [D 52 (.mv (T 6)),
         D 2 (.mv (I 5)),
         D 3 (.mv (T 52))]) (
       .ret)) (
       .skip)))))) (
    .ops [D 53 (.bin .add (T 36) (I 1)),
     D 36 (.mv (T 53))]))))))) (
 .trim [] (
  .seq (
   .ops [D 54 (.ld1 (T 1)),
    D 55 (.len (T 54)),
    D 56 (.mv (I 0))]) (
  .block 4 (
   .loop [1, 55, 56] (
    .seq (
     .ops [D 57 (.bin .lss (T 56) (T 55))]) (
    .seq (
     .cond (T 57) (
      .skip) (
      .exit 4)) (
    .trim [1, 55, 56] (
     .block 5 (
      .seq (
       .ops [D 58 (.mv (T 56)),
        D 8 (.mv (T 58))]) (
      .seq (
       .ops [D 59 (.ld1 (T 1)),
        D 60 (.mv (T 8)),
        D 61 (.call 58 [(T 59), (T 60)])]) (
      .cond (T 61) (
       .seq (
        .ops [D 62 (.mv (T 8)),
         D 2 (.mv (I 150)),
         D 3 (.mv (T 62))]) (
       .ret)) (
       .skip))))) (
    .ops [D 63 (.bin .add (T 56) (I 1)),
     D 56 (.mv (T 63))]))))))) (
 .seq (
  .ops [D 2 (.mv (I 0)),
   D 3 (.mv (I (-1)))]) (
 .ret))))))⟩
theorem item_Check_ok : Ok Tryz.prog 19 item_Check := ⟨by kernel_rfl, by kernel_rfl⟩

/-- diorama/dioramaref15.Check -/
def dioramaref15_Check : AF := ⟨82, [.tmp 2, .tmp 3],
 .seq (
  .ops [D 2 (.mv (I 0)),
   D 3 (.mv (I 0))]) (
 .trim [0] (
  .seq (
   .ops [D 8 (.mv (T 0)),
    D 9 (.len (T 8)),
    D 10 (.bin .gtr (T 9) (I 12))]) (
  .cond (T 10) (
   .seq (
    .ops [D 2 (.mv (I 2)),
     D 3 (.mv (I (-1)))]) (
   .ret)) (
   .skip))) (
 .trim [0] (
  .seq (
   .ops [D 4 (.mv (I 0))]) (
  .block 0 (
   .loop [0, 4] (
    .seq (
     .seq (
      .ops [D 11 (.mv (T 4)),
       D 12 (.mv (T 0)),
       D 13 (.len (T 12)),
       D 14 (.bin .lss (T 11) (T 13))]) (
     .cond (T 14) (
      .skip) (
      .exit 0))) (
    .trim [0, 4] (
     .block 1 (
      .trim [0, 4] (
       .trim [0, 4, 22] (
        .ops [D 17 (.mv (T 0)),
         D 18 (.mv (T 4)),
         D 19 (.ia 12 (T 17) (T 18)),
         D 20 (.ldN 12 (T 19)),
         D 21 (.call 59 [(T 20)]),
         D 22 (.un .not (T 21))]) (
       .cond (T 22) (
        .seq (
         .ops [D 23 (.mv (T 4)),
          D 2 (.mv (I 1)),
          D 3 (.mv (T 23))]) (
        .ret)) (
        .skip))) (
      .trim [0, 4, 29] (
       .ops [D 24 (.mv (T 0)),
        D 25 (.mv (T 4)),
        D 26 (.ia 12 (T 24) (T 25)),
        D 27 (.ldN 12 (T 26)),
        D 28 (.call 60 [(T 27)]),
        D 29 (.un .not (T 28))]) (
      .cond (T 29) (
       .seq (
        .ops [D 30 (.mv (T 4)),
         D 2 (.mv (I 4)),
         D 3 (.mv (T 30))]) (
       .ret)) (
       .skip))))) (
    .ops [D 15 (.mv (T 4)),
     D 16 (.bin .add (T 15) (I 1)),
     D 4 (.mv (T 16))])))))) (
 .trim [0] (
  .seq (
   .ops [D 5 (.mv (I 0))]) (
  .block 2 (
   .loop [0, 5] (
    .seq (
     .seq (
      .ops [D 31 (.mv (T 5)),
       D 32 (.mv (T 0)),
       D 33 (.len (T 32)),
       D 34 (.bin .lss (T 31) (T 33))]) (
     .cond (T 34) (
      .skip) (
      .exit 2))) (
    .trim [0, 5] (
     .block 3 (
      .trim [0, 5] (
       .trim [0, 5, 45] (
        .ops [D 37 (.mv (T 0)),
         D 38 (.mv (T 0)),
         D 39 (.mv (T 5)),
         D 40 (.ia 12 (T 38) (T 39)),
         D 41 (.fa 0 (T 40)),
         D 42 (.ld1 (T 41)),
         D 43 (.call 61 [(T 37), (T 42)]),
         D 44 (.mv (T 5)),
         D 45 (.bin .neq (T 43) (T 44))]) (
       .cond (T 45) (
        .seq (
         .ops [D 46 (.mv (T 5)),
          D 2 (.mv (I 30)),
          D 3 (.mv (T 46))]) (
        .ret)) (
        .skip))) (
      .seq (
       .ops [D 6 (.mv (I 0))]) (
      .block 4 (
       .loop [0, 5, 6] (
        .trim [0, 5, 6] (
         .trim [0, 5, 6, 54] (
          .ops [D 47 (.mv (T 6)),
           D 48 (.mv (T 0)),
           D 49 (.mv (T 5)),
           D 50 (.ia 12 (T 48) (T 49)),
           D 51 (.fa 3 (T 50)),
           D 52 (.ld1 (T 51)),
           D 53 (.len (T 52)),
           D 54 (.bin .lss (T 47) (T 53))]) (
         .cond (T 54) (
          .skip) (
          .exit 4))) (
        .trim [0, 5, 6] (
         .block 5 (
          .trim [0, 5, 6, 67] (
           .ops [D 57 (.mv (T 0)),
            D 58 (.mv (T 0)),
            D 59 (.mv (T 5)),
            D 60 (.ia 12 (T 58) (T 59)),
            D 61 (.fa 3 (T 60)),
            D 62 (.ld1 (T 61)),
            D 63 (.mv (T 6)),
            D 64 (.ia 1 (T 62) (T 63)),
            D 65 (.ld1 (T 64)),
            D 66 (.call 61 [(T 57), (T 65)]),
            D 67 (.bin .lss (T 66) (I 0))]) (
          .cond (T 67) (
           .seq (
            .ops [D 68 (.mv (T 5)),
             D 2 (.mv (I 5)),
             D 3 (.mv (T 68))]) (
           .ret)) (
           .skip)))) (
        .ops [D 55 (.mv (T 6)),
         D 56 (.bin .add (T 55) (I 1)),
         D 6 (.mv (T 56))])))))))) (
    .ops [D 35 (.mv (T 5)),
     D 36 (.bin .add (T 35) (I 1)),
     D 5 (.mv (T 36))])))))) (
 .trim [] (
  .seq (
   .ops [D 7 (.mv (I 0))]) (
  .block 6 (
   .loop [0, 7] (
    .seq (
     .seq (
      .ops [D 69 (.mv (T 7)),
       D 70 (.mv (T 0)),
       D 71 (.len (T 70)),
       D 72 (.bin .lss (T 69) (T 71))]) (
     .cond (T 72) (
      .skip) (
      .exit 6))) (
    .trim [0, 7] (
     .block 7 (
      .trim [0, 7, 80] (
       .ops [D 75 (.mv (T 0)),
        D 76 (.mv (T 7)),
        D 77 (.call 62 [(T 75), (T 76)]),
        D 78 (.mv (T 7)),
        D 79 (.ia 1 (T 77) (T 78)),
        D 80 (.ld1 (T 79))]) (
      .cond (T 80) (
       .seq (
        .ops [D 81 (.mv (T 7)),
         D 2 (.mv (I 150)),
         D 3 (.mv (T 81))]) (
       .ret)) (
       .skip)))) (
    .ops [D 73 (.mv (T 7)),
     D 74 (.bin .add (T 73) (I 1)),
     D 7 (.mv (T 74))])))))) (
 .seq (
  .ops [D 2 (.mv (I 0)),
   D 3 (.mv (I (-1)))]) (
 .ret))))))⟩
theorem dioramaref15_Check_ok : Ok Tryz.prog 20 dioramaref15_Check := ⟨by kernel_rfl, by kernel_rfl⟩

/-- diorama/item.Needs -/
def item_Needs : AF := ⟨38, [.tmp 4, .tmp 5],
 .seq (
  .ops [D 4 (.mv (.const (.slice none 0 0))),
   D 5 (.mv (I 0))]) (
 .trim [0, 6, 7] (
  .ops [D 12 (.mv (T 0)),
   D 13 (.mv (T 1)),
   D 14 (.call 63 [(T 12), (T 13)]),
   D 11 (.mv (T 14)),
   D 15 (.ext (T 11) 0),
   D 16 (.ext (T 11) 1),
   D 6 (.mv (T 15)),
   D 7 (.mv (T 16))]) (
 .trim [0, 6] (
  .seq (
   .ops [D 17 (.mv (T 7)),
    D 18 (.bin .neq (T 17) (I 0))]) (
  .cond (T 18) (
   .seq (
    .ops [D 19 (.mv (T 7)),
     D 4 (.mv (.const (.slice none 0 0))),
     D 5 (.mv (T 19))]) (
   .ret)) (
   .skip))) (
 .seq (
  .ops [D 8 (.mv (.const (.slice none 0 0)))]) (
 .trim [8] (
  .seq (
   .ops [D 20 (.mv (T 0)),
    D 21 (.mv (T 6)),
    D 22 (.call 64 [(T 20), (T 21)]),
    D 23 (.len (T 22)),
    D 24 (.mv (I 0))]) (
  .block 0 (
   .loop [0, 8, 22, 23, 24] (
    .seq (
     .ops [D 25 (.bin .lss (T 24) (T 23))]) (
    .seq (
     .cond (T 25) (
      .skip) (
      .exit 0)) (
    .trim [0, 8, 22, 23, 24] (
     .block 1 (
      .seq (
       .ops [D 26 (.ia 1 (T 22) (T 24)),
        D 27 (.ld1 (T 26)),
        D 10 (.mv (T 27))]) (
      .ops [D 28 (.mv (T 8)),
       D 29 (.mv (T 0)),
       D 30 (.mv (T 10)),
       D 31 (.ia 12 (T 29) (T 30)),
       D 32 (.fa 0 (T 31)),
       D 33 (.ld1 (T 32)),
       D 34 (.bslice [(.int .i64 0)] 1 [(0, 1, (T 33))]),
       D 35 (.app 1 8 (T 28) (T 34)),
       D 8 (.mv (T 35))]))) (
    .ops [D 36 (.bin .add (T 24) (I 1)),
     D 24 (.mv (T 36))]))))))) (
 .seq (
  .ops [D 37 (.mv (T 8)),
   D 4 (.mv (T 37)),
   D 5 (.mv (I 0))]) (
 .ret))))))⟩
theorem item_Needs_ok : Ok Tryz.prog 21 item_Needs := ⟨by kernel_rfl, by kernel_rfl⟩

/-- diorama/dioramaref15.Needs -/
def dioramaref15_Needs : AF := ⟨37, [.tmp 4, .tmp 5],
 .seq (
  .ops [D 4 (.mv (.const (.slice none 0 0))),
   D 5 (.mv (I 0))]) (
 .trim [0, 6, 7] (
  .ops [D 11 (.mv (T 0)),
   D 12 (.mv (T 1)),
   D 13 (.call 65 [(T 11), (T 12)]),
   D 10 (.mv (T 13)),
   D 14 (.ext (T 10) 0),
   D 15 (.ext (T 10) 1),
   D 6 (.mv (T 14)),
   D 7 (.mv (T 15))]) (
 .trim [0, 6] (
  .seq (
   .ops [D 16 (.mv (T 7)),
    D 17 (.bin .neq (T 16) (I 0))]) (
  .cond (T 17) (
   .seq (
    .ops [D 18 (.mv (T 7)),
     D 4 (.mv (.const (.slice none 0 0))),
     D 5 (.mv (T 18))]) (
   .ret)) (
   .skip))) (
 .seq (
  .ops [D 8 (.mv (.const (.slice none 0 0)))]) (
 .trim [8] (
  .seq (
   .ops [D 9 (.mv (I 0))]) (
  .block 0 (
   .loop [0, 6, 8, 9] (
    .seq (
     .seq (
      .ops [D 19 (.mv (T 9)),
       D 20 (.mv (T 6)),
       D 21 (.len (T 20)),
       D 22 (.bin .lss (T 19) (T 21))]) (
     .cond (T 22) (
      .skip) (
      .exit 0))) (
    .trim [0, 6, 8, 9] (
     .block 1 (
      .ops [D 25 (.mv (T 8)),
       D 26 (.mv (T 0)),
       D 27 (.mv (T 6)),
       D 28 (.mv (T 9)),
       D 29 (.ia 1 (T 27) (T 28)),
       D 30 (.ld1 (T 29)),
       D 31 (.ia 12 (T 26) (T 30)),
       D 32 (.fa 0 (T 31)),
       D 33 (.ld1 (T 32)),
       D 34 (.bslice [(.int .i64 0)] 1 [(0, 1, (T 33))]),
       D 35 (.app 1 8 (T 25) (T 34)),
       D 8 (.mv (T 35))])) (
    .ops [D 23 (.mv (T 9)),
     D 24 (.bin .add (T 23) (I 1)),
     D 9 (.mv (T 24))])))))) (
 .seq (
  .ops [D 36 (.mv (T 8)),
   D 4 (.mv (T 36)),
   D 5 (.mv (I 0))]) (
 .ret))))))⟩
theorem dioramaref15_Needs_ok : Ok Tryz.prog 22 dioramaref15_Needs := ⟨by kernel_rfl, by kernel_rfl⟩

/-- diorama/dioramaref00.EqInts -/
def dioramaref00_EqInts : AF := ⟨26, [.tmp 4],
 .seq (
  .ops [D 4 (.mv (.const (.bool false)))]) (
 .trim [0, 1] (
  .seq (
   .ops [D 6 (.mv (T 0)),
    D 7 (.len (T 6)),
    D 8 (.mv (T 1)),
    D 9 (.len (T 8)),
    D 10 (.bin .neq (T 7) (T 9))]) (
  .cond (T 10) (
   .seq (
    .ops [D 4 (.mv (.const (.bool false)))]) (
   .ret)) (
   .skip))) (
 .trim [] (
  .seq (
   .ops [D 5 (.mv (I 0))]) (
  .block 0 (
   .loop [0, 1, 5] (
    .seq (
     .seq (
      .ops [D 11 (.mv (T 5)),
       D 12 (.mv (T 0)),
       D 13 (.len (T 12)),
       D 14 (.bin .lss (T 11) (T 13))]) (
     .cond (T 14) (
      .skip) (
      .exit 0))) (
    .trim [0, 1, 5] (
     .block 1 (
      .trim [0, 1, 5, 25] (
       .draw [⟨0, 0, 0, D 17 (.mv (T 0))⟩,
        ⟨1, 0, 0, D 18 (.mv (T 5))⟩,
        ⟨2, 0, 3, D 19 (.ia 1 (T 17) (T 18))⟩,
        ⟨3, 1, 7, D 20 (.ld1 (T 19))⟩,
        ⟨4, 0, 0, D 21 (.mv (T 1))⟩,
        ⟨5, 0, 0, D 22 (.mv (T 5))⟩,
        ⟨6, 0, 48, D 23 (.ia 1 (T 21) (T 22))⟩,
        ⟨7, 1, 112, D 24 (.ld1 (T 23))⟩,
        ⟨8, 0, 255, D 25 (.bin .neq (T 20) (T 24))⟩]) (
      .cond (T 25) (
       .seq (
        .ops [D 4 (.mv (.const (.bool false)))]) (
       .ret)) (
       .skip)))) (
    .ops [D 15 (.mv (T 5)),
     D 16 (.bin .add (T 15) (I 1)),
     D 5 (.mv (T 16))])))))) (
 .seq (
  .ops [D 4 (.mv (.const (.bool true)))]) (
 .ret))))⟩
theorem dioramaref00_EqInts_ok : Ok Tryz.prog 23 dioramaref00_EqInts := ⟨by kernel_rfl, by kernel_rfl⟩

/-- diorama/dioramaref00.CopyImage -/
def dioramaref00_CopyImage : AF := ⟨10, [.cellN 4 2],
 .seq (
  .ops [D 1 (.box (T 0)),
   D 2 (.alloc [(.int .i64 0), (.int .i64 0), (.int .i64 0), (.slice none 0 0)])]) (
 .seq (
  .ops [D 4 (.ldN 4 (T 1)),
   D 3 (.alloc [(.int .i64 0), (.int .i64 0), (.int .i64 0), (.slice none 0 0)]),
   E (.st 4 (T 3) (T 4))]) (
 .seq (
  .ops [D 5 (.fa 3 (T 1)),
   D 6 (.ld1 (T 5)),
   D 7 (.call 66 [(T 6)]),
   D 8 (.fa 3 (T 3)),
   E (.st 1 (T 8) (T 7))]) (
 .seq (
  .ops [D 9 (.ldN 4 (T 3)),
   E (.st 4 (T 2) (T 9))]) (
 .ret))))⟩
theorem dioramaref00_CopyImage_ok : Ok Tryz.prog 24 dioramaref00_CopyImage := ⟨by kernel_rfl, by kernel_rfl⟩

/-- diorama/item.Over -/
def item_Over : AF := ⟨59, [.cellN 4 8, .tmp 9],
 .seq (
  .ops [D 4 (.box (T 0)),
   D 5 (.box (T 1)),
   D 8 (.alloc [(.int .i64 0), (.int .i64 0), (.int .i64 0), (.slice none 0 0)]),
   D 9 (.mv (I 0))]) (
 .trim [2, 3, 4, 5, 8] (
  .seq (
   .ops [D 14 (.ldN 4 (T 4)),
    D 15 (.ldN 4 (T 5)),
    D 16 (.build [(.int .i64 0), (.int .i64 0), (.int .i64 0), (.slice none 0 0), (.int .i64 0), (.int .i64 0), (.int .i64 0), (.slice none 0 0)] [(0, 4, (T 14)), (4, 4, (T 15))]),
    D 17 (.mv (I 0))]) (
  .block 0 (
   .loop [2, 3, 4, 5, 8, 16, 17] (
    .seq (
     .ops [D 18 (.bin .lss (T 17) (I 2))]) (
    .seq (
     .cond (T 18) (
      .skip) (
      .exit 0)) (
    .trim [2, 3, 4, 5, 8, 16, 17] (
     .block 1 (
      .seq (
       .ops [D 19 (.ixaN 2 4 (T 16) (T 17)),
        D 11 (.alloc [(.int .i64 0), (.int .i64 0), (.int .i64 0), (.slice none 0 0)]),
        E (.st 4 (T 11) (T 19))]) (
      .seq (
       .ops [D 20 (.ldN 4 (T 11)),
        D 21 (.call 47 [(T 20)]),
        D 12 (.mv (T 21))]) (
      .seq (
       .ops [D 22 (.mv (T 12)),
        D 23 (.bin .neq (T 22) (I 0))]) (
      .cond (T 23) (
       .seq (
        .ops [D 24 (.build [(.int .i64 0), (.int .i64 0), (.int .i64 0), (.slice none 0 0)] []),
         D 25 (.mv (T 12)),
         E (.st 4 (T 8) (T 24)),
         D 9 (.mv (T 25))]) (
       .ret)) (
       .skip)))))) (
    .ops [D 26 (.bin .add (T 17) (I 1)),
     D 17 (.mv (T 26))]))))))) (
 .trim [2, 3, 4, 5, 8] (
  .trim [2, 3, 4, 5, 8, 34] (
   .ops [D 27 (.mv (T 2)),
    D 28 (.call 48 [(T 27), (I (-64)), (I 64)]),
    D 29 (.un .not (T 28)),
    D 30 (.mv (T 29)),
    ⟨(some 31), some (30, false), .mv (T 3)⟩,
    ⟨(some 32), some (30, false), .call 48 [(T 31), (I (-64)), (I 64)]⟩,
    ⟨(some 33), some (30, false), .un .not (T 32)⟩,
    D 34 (.pick (T 30) (.const (.bool true)) (T 33))]) (
  .cond (T 34) (
   .seq (
    .ops [D 35 (.build [(.int .i64 0), (.int .i64 0), (.int .i64 0), (.slice none 0 0)] []),
     E (.st 4 (T 8) (T 35)),
     D 9 (.mv (I 1))]) (
   .ret)) (
   .skip))) (
 .trim [2, 3, 4, 5, 8] (
  .trim [2, 3, 4, 5, 8, 49] (
   .ops [D 36 (.fa 2 (T 4)),
    D 37 (.ld1 (T 36)),
    D 38 (.fa 2 (T 5)),
    D 39 (.ld1 (T 38)),
    D 40 (.bin .neq (T 37) (T 39)),
    D 41 (.mv (T 40)),
    ⟨(some 42), some (41, false), .fa 3 (T 4)⟩,
    ⟨(some 43), some (41, false), .ld1 (T 42)⟩,
    ⟨(some 44), some (41, false), .len (T 43)⟩,
    ⟨(some 45), some (41, false), .fa 3 (T 5)⟩,
    ⟨(some 46), some (41, false), .ld1 (T 45)⟩,
    ⟨(some 47), some (41, false), .len (T 46)⟩,
    ⟨(some 48), some (41, false), .bin .neq (T 44) (T 47)⟩,
    D 49 (.pick (T 41) (.const (.bool true)) (T 48))]) (
  .cond (T 49) (
   .seq (
    .ops [D 50 (.build [(.int .i64 0), (.int .i64 0), (.int .i64 0), (.slice none 0 0)] []),
     E (.st 4 (T 8) (T 50)),
     D 9 (.mv (I 151))]) (
   .ret)) (
   .skip))) (
 .seq (
  .ops [D 51 (.ldN 4 (T 4)),
   D 52 (.call 67 [(T 51)]),
   D 13 (.alloc [(.int .i64 0), (.int .i64 0), (.int .i64 0), (.slice none 0 0)]),
   E (.st 4 (T 13) (T 52))]) (
 .trim [8, 13] (
  .ops [D 53 (.ldN 4 (T 13)),
   D 54 (.ldN 4 (T 5)),
   D 55 (.mv (T 2)),
   D 56 (.mv (T 3)),
   D 57 (.call 68 [(T 53), (T 54), (T 55), (T 56)])]) (
 .seq (
  .ops [D 58 (.ldN 4 (T 13)),
   E (.st 4 (T 8) (T 58)),
   D 9 (.mv (I 0))]) (
 .ret)))))))⟩
theorem item_Over_ok : Ok Tryz.prog 25 item_Over := ⟨by kernel_rfl, by kernel_rfl⟩

/-- diorama/dioramaref15.Over -/
def dioramaref15_Over : AF := ⟨50, [.cellN 4 8, .tmp 9],
 .seq (
  .ops [D 4 (.box (T 0)),
   D 5 (.box (T 1)),
   D 8 (.alloc [(.int .i64 0), (.int .i64 0), (.int .i64 0), (.slice none 0 0)]),
   D 9 (.mv (I 0))]) (
 .seq (
  .ops [D 11 (.ldN 4 (T 4)),
   D 12 (.call 30 [(T 11)]),
   D 10 (.mv (T 12))]) (
 .seq (
  .seq (
   .ops [D 13 (.mv (T 10)),
    D 14 (.bin .eql (T 13) (I 0))]) (
  .cond (T 14) (
   .ops [D 15 (.ldN 4 (T 5)),
    D 16 (.call 30 [(T 15)]),
    D 10 (.mv (T 16))]) (
   .skip))) (
 .trim [2, 3, 4, 5, 8] (
  .seq (
   .ops [D 17 (.mv (T 10)),
    D 18 (.bin .neq (T 17) (I 0))]) (
  .cond (T 18) (
   .seq (
    .ops [D 19 (.build [(.int .i64 0), (.int .i64 0), (.int .i64 0), (.slice none 0 0)] []),
     D 20 (.mv (T 10)),
     E (.st 4 (T 8) (T 19)),
     D 9 (.mv (T 20))]) (
   .ret)) (
   .skip))) (
 .trim [2, 3, 4, 5, 8] (
  .trim [2, 3, 4, 5, 8, 28] (
   .ops [D 21 (.mv (T 2)),
    D 22 (.call 50 [(T 21), (I (-64)), (I 64)]),
    D 23 (.un .not (T 22)),
    D 24 (.mv (T 23)),
    ⟨(some 25), some (24, false), .mv (T 3)⟩,
    ⟨(some 26), some (24, false), .call 50 [(T 25), (I (-64)), (I 64)]⟩,
    ⟨(some 27), some (24, false), .un .not (T 26)⟩,
    D 28 (.pick (T 24) (.const (.bool true)) (T 27))]) (
  .cond (T 28) (
   .seq (
    .ops [D 29 (.build [(.int .i64 0), (.int .i64 0), (.int .i64 0), (.slice none 0 0)] []),
     E (.st 4 (T 8) (T 29)),
     D 9 (.mv (I 1))]) (
   .ret)) (
   .skip))) (
 .trim [2, 3, 4, 5, 8] (
  .trim [2, 3, 4, 5, 8, 43] (
   .ops [D 30 (.fa 2 (T 4)),
    D 31 (.ld1 (T 30)),
    D 32 (.fa 2 (T 5)),
    D 33 (.ld1 (T 32)),
    D 34 (.bin .neq (T 31) (T 33)),
    D 35 (.mv (T 34)),
    ⟨(some 36), some (35, false), .fa 3 (T 4)⟩,
    ⟨(some 37), some (35, false), .ld1 (T 36)⟩,
    ⟨(some 38), some (35, false), .len (T 37)⟩,
    ⟨(some 39), some (35, false), .fa 3 (T 5)⟩,
    ⟨(some 40), some (35, false), .ld1 (T 39)⟩,
    ⟨(some 41), some (35, false), .len (T 40)⟩,
    ⟨(some 42), some (35, false), .bin .neq (T 38) (T 41)⟩,
    D 43 (.pick (T 35) (.const (.bool true)) (T 42))]) (
  .cond (T 43) (
   .seq (
    .ops [D 44 (.build [(.int .i64 0), (.int .i64 0), (.int .i64 0), (.slice none 0 0)] []),
     E (.st 4 (T 8) (T 44)),
     D 9 (.mv (I 151))]) (
   .ret)) (
   .skip))) (
 .trim [8, 9] (
  .ops [D 45 (.ldN 4 (T 4)),
   D 46 (.ldN 4 (T 5)),
   D 47 (.mv (T 2)),
   D 48 (.mv (T 3)),
   D 49 (.call 69 [(T 45), (T 46), (T 47), (T 48)]),
   E (.st 4 (T 8) (T 49)),
   D 9 (.mv (I 0))]) (
 .ret)))))))⟩
theorem dioramaref15_Over_ok : Ok Tryz.prog 26 dioramaref15_Over := ⟨by kernel_rfl, by kernel_rfl⟩

/-- diorama/dioramalaw15.pictures -/
def dioramalaw15_pictures : AF := ⟨19, [.tmp 2],
 .seq (
  .ops [D 2 (.mv (.const (.bool false)))]) (
 .trim [0] (
  .seq (
   .ops [D 3 (.mv (I 0))]) (
  .block 0 (
   .loop [0, 3] (
    .seq (
     .seq (
      .ops [D 4 (.mv (T 3)),
       D 5 (.mv (T 0)),
       D 6 (.len (T 5)),
       D 7 (.bin .lss (T 4) (T 6))]) (
     .cond (T 7) (
      .skip) (
      .exit 0))) (
    .trim [0, 3] (
     .block 1 (
      .trim [0, 3, 15] (
       .ops [D 10 (.mv (T 0)),
        D 11 (.mv (T 3)),
        D 12 (.ia 4 (T 10) (T 11)),
        D 13 (.ldN 4 (T 12)),
        D 14 (.call 12 [(T 13)]),
        D 15 (.un .not (T 14))]) (
      .cond (T 15) (
       .seq (
        .ops [D 2 (.mv (.const (.bool false)))]) (
       .ret)) (
       .skip)))) (
    .ops [D 8 (.mv (T 3)),
     D 9 (.bin .add (T 8) (I 1)),
     D 3 (.mv (T 9))])))))) (
 .seq (
  .ops [D 16 (.mv (T 0)),
   D 17 (.len (T 16)),
   D 18 (.bin .leq (T 17) (I 70)),
   D 2 (.mv (T 18))]) (
 .ret)))⟩
theorem dioramalaw15_pictures_ok : Ok Tryz.prog 27 dioramalaw15_pictures := ⟨by kernel_rfl, by kernel_rfl⟩

/-- diorama/item.Grid -/
def item_Grid : AF := ⟨81, [.cellN 4 10, .tmp 11],
 .seq (
  .ops [D 10 (.alloc [(.int .i64 0), (.int .i64 0), (.int .i64 0), (.slice none 0 0)]),
   D 11 (.mv (I 0))]) (
 .trim [0, 1, 2, 3, 4, 10] (
  .trim [0, 1, 2, 3, 4, 10, 43] (
   .ops [D 18 (.mv (T 1)),
    D 19 (.call 48 [(T 18), (I 1), (I 8)]),
    D 20 (.un .not (T 19)),
    D 21 (.mv (T 20)),
    ⟨(some 22), some (21, false), .mv (T 2)⟩,
    ⟨(some 23), some (21, false), .call 48 [(T 22), (I 1), (I 8)]⟩,
    ⟨(some 24), some (21, false), .un .not (T 23)⟩,
    D 25 (.pick (T 21) (.const (.bool true)) (T 24)),
    D 26 (.mv (T 25)),
    ⟨(some 27), some (26, false), .mv (T 3)⟩,
    ⟨(some 28), some (26, false), .call 70 [(T 27)]⟩,
    ⟨(some 29), some (26, false), .un .not (T 28)⟩,
    D 30 (.pick (T 26) (.const (.bool true)) (T 29)),
    D 31 (.mv (T 30)),
    ⟨(some 32), some (31, false), .mv (T 4)⟩,
    ⟨(some 33), some (31, false), .call 70 [(T 32)]⟩,
    ⟨(some 34), some (31, false), .un .not (T 33)⟩,
    D 35 (.pick (T 31) (.const (.bool true)) (T 34)),
    D 36 (.mv (T 35)),
    ⟨(some 37), some (36, false), .mv (T 0)⟩,
    ⟨(some 38), some (36, false), .len (T 37)⟩,
    ⟨(some 39), some (36, false), .mv (T 1)⟩,
    ⟨(some 40), some (36, false), .mv (T 2)⟩,
    ⟨(some 41), some (36, false), .bin .mul (T 39) (T 40)⟩,
    ⟨(some 42), some (36, false), .bin .neq (T 38) (T 41)⟩,
    D 43 (.pick (T 36) (.const (.bool true)) (T 42))]) (
  .cond (T 43) (
   .seq (
    .ops [D 44 (.build [(.int .i64 0), (.int .i64 0), (.int .i64 0), (.slice none 0 0)] []),
     E (.st 4 (T 10) (T 44)),
     D 11 (.mv (I 1))]) (
   .ret)) (
   .skip))) (
 .seq (
  .ops [D 12 (.mv (.const (.slice none 0 0)))]) (
 .trim [0, 1, 2, 3, 4, 10, 12] (
  .seq (
   .ops [D 45 (.mv (T 0)),
    D 46 (.len (T 45)),
    D 47 (.mv (I 0))]) (
  .block 0 (
   .loop [0, 1, 2, 3, 4, 10, 12, 45, 46, 47] (
    .seq (
     .ops [D 48 (.bin .lss (T 47) (T 46))]) (
    .seq (
     .cond (T 48) (
      .skip) (
      .exit 0)) (
    .trim [0, 1, 2, 3, 4, 10, 12, 45, 46, 47] (
     .block 1 (
      .seq (
       .ops [D 49 (.ia 4 (T 45) (T 47)),
        D 50 (.ldN 4 (T 49)),
        D 14 (.alloc [(.int .i64 0), (.int .i64 0), (.int .i64 0), (.slice none 0 0)]),
        E (.st 4 (T 14) (T 50))]) (
      .trim [0, 1, 2, 3, 4, 10, 12, 14, 45, 46, 47] (
       .seq (
        .ops [D 51 (.ldN 4 (T 14)),
         D 52 (.call 47 [(T 51)]),
         D 15 (.mv (T 52))]) (
       .seq (
        .ops [D 53 (.mv (T 15)),
         D 54 (.bin .neq (T 53) (I 0))]) (
       .cond (T 54) (
        .seq (
         .ops [D 55 (.build [(.int .i64 0), (.int .i64 0), (.int .i64 0), (.slice none 0 0)] []),
          D 56 (.mv (T 15)),
          E (.st 4 (T 10) (T 55)),
          D 11 (.mv (T 56))]) (
        .ret)) (
        .skip)))) (
      .ops [D 57 (.mv (T 12)),
       D 58 (.ldN 4 (T 14)),
       D 59 (.call 71 [(T 58)]),
       D 60 (.bslice [(.int .i64 0), (.int .i64 0), (.int .i64 0), (.int .i64 0)] 1 [(0, 4, (T 59))]),
       D 61 (.app 4 32 (T 57) (T 60)),
       D 12 (.mv (T 61))])))) (
    .ops [D 62 (.bin .add (T 47) (I 1)),
     D 47 (.mv (T 62))]))))))) (
 .trim [0, 2, 3, 4, 10] (
  .trim [0, 2, 3, 4, 10, 17] (
   .ops [D 64 (.mv (T 12)),
    D 65 (.mv (T 1)),
    D 66 (.mv (T 2)),
    D 67 (.mv (T 3)),
    D 68 (.mv (T 4)),
    D 69 (.call 72 [(T 64), (T 65), (T 66), (T 67), (T 68)]),
    D 63 (.mv (T 69)),
    D 70 (.ext (T 63) 0),
    D 71 (.ext (T 63) 1),
    D 16 (.alloc [(.int .i64 0), (.int .i64 0), (.int .i64 0), (.int .i64 0)]),
    E (.st 4 (T 16) (T 70)),
    D 17 (.mv (T 71))]) (
  .seq (
   .ops [D 72 (.mv (T 17)),
    D 73 (.bin .neq (T 72) (I 0))]) (
  .cond (T 73) (
   .seq (
    .ops [D 74 (.build [(.int .i64 0), (.int .i64 0), (.int .i64 0), (.slice none 0 0)] []),
     D 75 (.mv (T 17)),
     E (.st 4 (T 10) (T 74)),
     D 11 (.mv (T 75))]) (
   .ret)) (
   .skip)))) (
 .trim [10, 11] (
  .ops [D 76 (.mv (T 0)),
   D 77 (.mv (T 2)),
   D 78 (.mv (T 3)),
   D 79 (.mv (T 4)),
   D 80 (.call 73 [(T 76), (T 77), (T 78), (T 79)]),
   E (.st 4 (T 10) (T 80)),
   D 11 (.mv (I 0))]) (
 .ret))))))⟩
theorem item_Grid_ok : Ok Tryz.prog 28 item_Grid := ⟨by kernel_rfl, by kernel_rfl⟩

/-- diorama/dioramaref15.Grid -/
def dioramaref15_Grid : AF := ⟨79, [.cellN 4 10, .tmp 11],
 .seq (
  .ops [D 10 (.alloc [(.int .i64 0), (.int .i64 0), (.int .i64 0), (.slice none 0 0)]),
   D 11 (.mv (I 0))]) (
 .trim [0, 1, 2, 3, 4, 10] (
  .trim [0, 1, 2, 3, 4, 10, 40] (
   .ops [D 15 (.mv (T 1)),
    D 16 (.call 50 [(T 15), (I 1), (I 8)]),
    D 17 (.un .not (T 16)),
    D 18 (.mv (T 17)),
    ⟨(some 19), some (18, false), .mv (T 2)⟩,
    ⟨(some 20), some (18, false), .call 50 [(T 19), (I 1), (I 8)]⟩,
    ⟨(some 21), some (18, false), .un .not (T 20)⟩,
    D 22 (.pick (T 18) (.const (.bool true)) (T 21)),
    D 23 (.mv (T 22)),
    ⟨(some 24), some (23, false), .mv (T 3)⟩,
    ⟨(some 25), some (23, false), .call 50 [(T 24), (I 1), (I 64)]⟩,
    ⟨(some 26), some (23, false), .un .not (T 25)⟩,
    D 27 (.pick (T 23) (.const (.bool true)) (T 26)),
    D 28 (.mv (T 27)),
    ⟨(some 29), some (28, false), .mv (T 4)⟩,
    ⟨(some 30), some (28, false), .call 50 [(T 29), (I 1), (I 64)]⟩,
    ⟨(some 31), some (28, false), .un .not (T 30)⟩,
    D 32 (.pick (T 28) (.const (.bool true)) (T 31)),
    D 33 (.mv (T 32)),
    ⟨(some 34), some (33, false), .mv (T 0)⟩,
    ⟨(some 35), some (33, false), .len (T 34)⟩,
    ⟨(some 36), some (33, false), .mv (T 1)⟩,
    ⟨(some 37), some (33, false), .mv (T 2)⟩,
    ⟨(some 38), some (33, false), .bin .mul (T 36) (T 37)⟩,
    ⟨(some 39), some (33, false), .bin .neq (T 35) (T 38)⟩,
    D 40 (.pick (T 33) (.const (.bool true)) (T 39))]) (
  .cond (T 40) (
   .seq (
    .ops [D 41 (.build [(.int .i64 0), (.int .i64 0), (.int .i64 0), (.slice none 0 0)] []),
     E (.st 4 (T 10) (T 41)),
     D 11 (.mv (I 1))]) (
   .ret)) (
   .skip))) (
 .seq (
  .ops [D 12 (.mv (.const (.slice none 0 0)))]) (
 .trim [0, 1, 2, 3, 4, 10, 12] (
  .seq (
   .ops [D 13 (.mv (I 0))]) (
  .block 0 (
   .loop [0, 1, 2, 3, 4, 10, 12, 13] (
    .seq (
     .seq (
      .ops [D 42 (.mv (T 13)),
       D 43 (.mv (T 0)),
       D 44 (.len (T 43)),
       D 45 (.bin .lss (T 42) (T 44))]) (
     .cond (T 45) (
      .skip) (
      .exit 0))) (
    .trim [0, 1, 2, 3, 4, 10, 12, 13] (
     .block 1 (
      .trim [0, 1, 2, 3, 4, 10, 12, 13, 14] (
       .ops [D 48 (.mv (T 0)),
        D 49 (.mv (T 13)),
        D 50 (.ia 4 (T 48) (T 49)),
        D 51 (.ldN 4 (T 50)),
        D 52 (.call 30 [(T 51)]),
        D 14 (.mv (T 52))]) (
      .trim [0, 1, 2, 3, 4, 10, 12, 13] (
       .seq (
        .ops [D 53 (.mv (T 14)),
         D 54 (.bin .neq (T 53) (I 0))]) (
       .cond (T 54) (
        .seq (
         .ops [D 55 (.build [(.int .i64 0), (.int .i64 0), (.int .i64 0), (.slice none 0 0)] []),
          D 56 (.mv (T 14)),
          E (.st 4 (T 10) (T 55)),
          D 11 (.mv (T 56))]) (
        .ret)) (
        .skip))) (
      .ops [D 57 (.mv (T 12)),
       D 58 (.mv (T 0)),
       D 59 (.mv (T 13)),
       D 60 (.ia 4 (T 58) (T 59)),
       D 61 (.ldN 4 (T 60)),
       D 62 (.call 74 [(T 61)]),
       D 63 (.bslice [(.int .i64 0), (.int .i64 0), (.int .i64 0), (.int .i64 0)] 1 [(0, 4, (T 62))]),
       D 64 (.app 4 32 (T 57) (T 63)),
       D 12 (.mv (T 64))])))) (
    .ops [D 46 (.mv (T 13)),
     D 47 (.bin .add (T 46) (I 1)),
     D 13 (.mv (T 47))])))))) (
 .trim [0, 1, 2, 3, 4, 10] (
  .trim [0, 1, 2, 3, 4, 10, 71] (
   .ops [D 65 (.mv (T 12)),
    D 66 (.mv (T 1)),
    D 67 (.mv (T 2)),
    D 68 (.mv (T 3)),
    D 69 (.mv (T 4)),
    D 70 (.call 75 [(T 65), (T 66), (T 67), (T 68), (T 69)]),
    D 71 (.un .not (T 70))]) (
  .cond (T 71) (
   .seq (
    .ops [D 72 (.build [(.int .i64 0), (.int .i64 0), (.int .i64 0), (.slice none 0 0)] []),
     E (.st 4 (T 10) (T 72)),
     D 11 (.mv (I 151))]) (
   .ret)) (
   .skip))) (
 .trim [10, 11] (
  .ops [D 73 (.mv (T 0)),
   D 74 (.mv (T 1)),
   D 75 (.mv (T 2)),
   D 76 (.mv (T 3)),
   D 77 (.mv (T 4)),
   D 78 (.call 76 [(T 73), (T 74), (T 75), (T 76), (T 77)]),
   E (.st 4 (T 10) (T 78)),
   D 11 (.mv (I 0))]) (
 .ret))))))⟩
theorem dioramaref15_Grid_ok : Ok Tryz.prog 29 dioramaref15_Grid := ⟨by kernel_rfl, by kernel_rfl⟩

/-- diorama/dioramaref14.Check -/
def dioramaref14_Check : AF := ⟨78, [.tmp 2],
 .seq (
  .ops [D 1 (.box (T 0)),
   D 2 (.mv (I 0))]) (
 .trim [1] (
  .trim [1, 28] (
   .ops [D 6 (.fa 0 (T 1)),
    D 7 (.ld1 (T 6)),
    D 8 (.call 77 [(T 7), (I 1), (I 64)]),
    D 9 (.un .not (T 8)),
    D 10 (.mv (T 9)),
    ⟨(some 11), some (10, false), .fa 1 (T 1)⟩,
    ⟨(some 12), some (10, false), .ld1 (T 11)⟩,
    ⟨(some 13), some (10, false), .call 77 [(T 12), (I 1), (I 64)]⟩,
    ⟨(some 14), some (10, false), .un .not (T 13)⟩,
    D 15 (.pick (T 10) (.const (.bool true)) (T 14)),
    D 16 (.mv (T 15)),
    ⟨(some 17), some (16, false), .fa 2 (T 1)⟩,
    ⟨(some 18), some (16, false), .ld1 (T 17)⟩,
    ⟨(some 19), some (16, false), .call 77 [(T 18), (I 1), (I 12)]⟩,
    ⟨(some 20), some (16, false), .un .not (T 19)⟩,
    D 21 (.pick (T 16) (.const (.bool true)) (T 20)),
    D 22 (.mv (T 21)),
    ⟨(some 23), some (22, false), .fa 3 (T 1)⟩,
    ⟨(some 24), some (22, false), .ld1 (T 23)⟩,
    ⟨(some 25), some (22, false), .len (T 24)⟩,
    ⟨(some 26), some (22, false), .call 77 [(T 25), (I 1), (I 4)]⟩,
    ⟨(some 27), some (22, false), .un .not (T 26)⟩,
    D 28 (.pick (T 22) (.const (.bool true)) (T 27))]) (
  .cond (T 28) (
   .seq (
    .ops [D 2 (.mv (I 1))]) (
   .ret)) (
   .skip))) (
 .trim [1] (
  .seq (
   .ops [D 3 (.mv (I 0))]) (
  .block 0 (
   .loop [1, 3] (
    .trim [1, 3] (
     .seq (
      .ops [D 29 (.mv (T 3)),
       D 30 (.fa 3 (T 1)),
       D 31 (.ld1 (T 30)),
       D 32 (.len (T 31)),
       D 33 (.bin .lss (T 29) (T 32))]) (
     .cond (T 33) (
      .skip) (
      .exit 0))) (
    .trim [1, 3] (
     .block 1 (
      .trim [1, 3, 47] (
       .draw [⟨0, 0, 0, D 36 (.fa 3 (T 1))⟩,
        ⟨1, 1, 1, D 37 (.ld1 (T 36))⟩,
        ⟨2, 0, 0, D 38 (.mv (T 3))⟩,
        ⟨3, 0, 7, D 39 (.ia 1 (T 37) (T 38))⟩,
        ⟨4, 1, 15, D 40 (.ld1 (T 39))⟩,
        ⟨5, 0, 31, D 41 (.len (T 40))⟩,
        ⟨6, 0, 0, D 42 (.fa 0 (T 1))⟩,
        ⟨7, 1, 64, D 43 (.ld1 (T 42))⟩,
        ⟨8, 0, 0, D 44 (.fa 1 (T 1))⟩,
        ⟨9, 1, 256, D 45 (.ld1 (T 44))⟩,
        ⟨10, 0, 960, D 46 (.bin .mul (T 43) (T 45))⟩,
        ⟨11, 0, 2047, D 47 (.bin .neq (T 41) (T 46))⟩]) (
      .cond (T 47) (
       .seq (
        .ops [D 2 (.mv (I 4))]) (
       .ret)) (
       .skip)))) (
    .ops [D 34 (.mv (T 3)),
     D 35 (.bin .add (T 34) (I 1)),
     D 3 (.mv (T 35))])))))) (
 .trim [] (
  .seq (
   .ops [D 4 (.mv (I 0))]) (
  .block 2 (
   .loop [1, 4] (
    .trim [1, 4] (
     .seq (
      .ops [D 48 (.mv (T 4)),
       D 49 (.fa 3 (T 1)),
       D 50 (.ld1 (T 49)),
       D 51 (.len (T 50)),
       D 52 (.bin .lss (T 48) (T 51))]) (
     .cond (T 52) (
      .skip) (
      .exit 2))) (
    .trim [1, 4] (
     .block 3 (
      .seq (
       .ops [D 5 (.mv (I 0))]) (
      .block 4 (
       .loop [1, 4, 5] (
        .trim [1, 4, 5] (
         .trim [1, 4, 5, 62] (
          .ops [D 55 (.mv (T 5)),
           D 56 (.fa 3 (T 1)),
           D 57 (.ld1 (T 56)),
           D 58 (.mv (T 4)),
           D 59 (.ia 1 (T 57) (T 58)),
           D 60 (.ld1 (T 59)),
           D 61 (.len (T 60)),
           D 62 (.bin .lss (T 55) (T 61))]) (
         .cond (T 62) (
          .skip) (
          .exit 4))) (
        .trim [1, 4, 5] (
         .block 5 (
          .trim [1, 4, 5, 77] (
           .draw [⟨0, 0, 0, D 65 (.fa 3 (T 1))⟩,
            ⟨1, 1, 1, D 66 (.ld1 (T 65))⟩,
            ⟨2, 0, 0, D 67 (.mv (T 4))⟩,
            ⟨3, 0, 7, D 68 (.ia 1 (T 66) (T 67))⟩,
            ⟨4, 1, 15, D 69 (.ld1 (T 68))⟩,
            ⟨5, 0, 0, D 70 (.mv (T 5))⟩,
            ⟨6, 0, 63, D 71 (.ia 1 (T 69) (T 70))⟩,
            ⟨7, 1, 127, D 72 (.ld1 (T 71))⟩,
            ⟨8, 0, 0, D 73 (.fa 2 (T 1))⟩,
            ⟨9, 1, 256, D 74 (.ld1 (T 73))⟩,
            ⟨10, 4, 768, D 75 (.call 78 [(T 74)])⟩,
            ⟨11, 4, 2047, D 76 (.call 77 [(T 72), (I 0), (T 75)])⟩,
            ⟨12, 0, 4095, D 77 (.un .not (T 76))⟩]) (
          .cond (T 77) (
           .seq (
            .ops [D 2 (.mv (I 1))]) (
           .ret)) (
           .skip)))) (
        .ops [D 63 (.mv (T 5)),
         D 64 (.bin .add (T 63) (I 1)),
         D 5 (.mv (T 64))]))))))) (
    .ops [D 53 (.mv (T 4)),
     D 54 (.bin .add (T 53) (I 1)),
     D 4 (.mv (T 54))])))))) (
 .seq (
  .ops [D 2 (.mv (I 0))]) (
 .ret)))))⟩
theorem dioramaref14_Check_ok : Ok Tryz.prog 30 dioramaref14_Check := ⟨by kernel_rfl, by kernel_rfl⟩

/-- diorama/dioramalaw15.part -/
def dioramalaw15_part : AF := ⟨82, [.cellN 4 10],
 .seq (
  .ops [D 5 (.box (T 0)),
   D 10 (.alloc [(.int .i64 0), (.int .i64 0), (.int .i64 0), (.slice none 0 0)])]) (
 .trim [1, 2, 3, 4, 5, 10, 11] (
  .ops [D 17 (.mv (T 3)),
   D 18 (.mv (T 4)),
   D 19 (.fa 2 (T 5)),
   D 20 (.ld1 (T 19)),
   D 21 (.build [(.int .i64 0), (.int .i64 0), (.int .i64 0), (.slice none 0 0)] [(0, 1, (T 17)), (1, 1, (T 18)), (2, 1, (T 20))]),
   D 11 (.alloc [(.int .i64 0), (.int .i64 0), (.int .i64 0), (.slice none 0 0)]),
   E (.st 4 (T 11) (T 21))]) (
 .trim [10, 11] (
  .seq (
   .ops [D 12 (.mv (I 0))]) (
  .block 0 (
   .loop [1, 2, 3, 4, 5, 10, 11, 12] (
    .trim [1, 2, 3, 4, 5, 10, 11, 12] (
     .seq (
      .ops [D 22 (.mv (T 12)),
       D 23 (.fa 3 (T 5)),
       D 24 (.ld1 (T 23)),
       D 25 (.len (T 24)),
       D 26 (.bin .lss (T 22) (T 25))]) (
     .cond (T 26) (
      .skip) (
      .exit 0))) (
    .trim [1, 2, 3, 4, 5, 10, 11, 12] (
     .block 1 (
      .seq (
       .ops [D 29 (.mv (T 3)),
        D 30 (.mv (T 4)),
        D 31 (.bin .mul (T 29) (T 30)),
        D 32 (.mks [(.int .i64 0)] 8 (T 31) (T 31)),
        D 13 (.mv (T 32))]) (
      .trim [1, 2, 3, 4, 5, 10, 11, 12, 13] (
       .seq (
        .ops [D 14 (.mv (I 0))]) (
       .block 2 (
        .loop [1, 2, 3, 4, 5, 10, 11, 12, 13, 14] (
         .seq (
          .seq (
           .ops [D 33 (.mv (T 14)),
            D 34 (.mv (T 13)),
            D 35 (.len (T 34)),
            D 36 (.bin .lss (T 33) (T 35))]) (
          .cond (T 36) (
           .skip) (
           .exit 2))) (
         .trim [1, 2, 3, 4, 5, 10, 11, 12, 13, 14] (
          .block 3 (
           .trim [1, 2, 3, 4, 5, 10, 11, 12, 13, 14, 15, 16] (
            .draw [⟨0, 0, 0, D 39 (.mv (T 1))⟩,
             ⟨1, 0, 0, D 40 (.mv (T 14))⟩,
             ⟨2, 0, 0, D 41 (.mv (T 3))⟩,
             ⟨3, 0, 6, D 42 (.bin .rem (T 40) (T 41))⟩,
             ⟨4, 0, 15, D 43 (.bin .add (T 39) (T 42))⟩,
             ⟨5, 0, 0, D 44 (.mv (T 2))⟩,
             ⟨6, 0, 0, D 45 (.mv (T 14))⟩,
             ⟨7, 0, 0, D 46 (.mv (T 3))⟩,
             ⟨8, 0, 192, D 47 (.bin .quo (T 45) (T 46))⟩,
             ⟨9, 0, 480, D 48 (.bin .add (T 44) (T 47))⟩,
             ⟨10, 0, 31, D 15 (.mv (T 43))⟩,
             ⟨11, 0, 2047, D 16 (.mv (T 48))⟩]) (
           .trim [1, 2, 3, 4, 5, 10, 11, 12, 13, 14, 15, 16, 58] (
            .ops [D 49 (.mv (T 15)),
             D 50 (.fa 0 (T 5)),
             D 51 (.ld1 (T 50)),
             D 52 (.bin .lss (T 49) (T 51)),
             D 53 (.mv (T 52)),
             ⟨(some 54), some (53, true), .mv (T 16)⟩,
             ⟨(some 55), some (53, true), .fa 1 (T 5)⟩,
             ⟨(some 56), some (53, true), .ld1 (T 55)⟩,
             ⟨(some 57), some (53, true), .bin .lss (T 54) (T 56)⟩,
             D 58 (.pick (T 53) (T 57) (.const (.bool false)))]) (
           .cond (T 58) (
            .draw [⟨0, 0, 0, D 59 (.mv (T 13))⟩,
             ⟨1, 0, 0, D 60 (.mv (T 14))⟩,
             ⟨2, 0, 0, D 61 (.fa 3 (T 5))⟩,
             ⟨3, 1, 4, D 62 (.ld1 (T 61))⟩,
             ⟨4, 0, 0, D 63 (.mv (T 12))⟩,
             ⟨5, 0, 28, D 64 (.ia 1 (T 62) (T 63))⟩,
             ⟨6, 1, 60, D 65 (.ld1 (T 64))⟩,
             ⟨7, 0, 0, D 66 (.mv (T 16))⟩,
             ⟨8, 0, 0, D 67 (.fa 0 (T 5))⟩,
             ⟨9, 1, 256, D 68 (.ld1 (T 67))⟩,
             ⟨10, 0, 896, D 69 (.bin .mul (T 66) (T 68))⟩,
             ⟨11, 0, 0, D 70 (.mv (T 15))⟩,
             ⟨12, 0, 3968, D 71 (.bin .add (T 69) (T 70))⟩,
             ⟨13, 0, 8188, D 72 (.ia 1 (T 65) (T 71))⟩,
             ⟨14, 1, 16380, D 73 (.ld1 (T 72))⟩,
             ⟨15, 0, 32767, D 74 (.ia 1 (T 59) (T 60))⟩,
             ⟨16, 4, 65535, E (.st 1 (T 74) (T 73))⟩]) (
            .skip))))) (
         .ops [D 37 (.mv (T 14)),
          D 38 (.bin .add (T 37) (I 1)),
          D 14 (.mv (T 38))])))))) (
      .ops [D 75 (.fa 3 (T 11)),
       D 76 (.ld1 (T 75)),
       D 77 (.mv (T 13)),
       D 78 (.bslice [(.slice none 0 0)] 1 [(0, 1, (T 77))]),
       D 79 (.app 1 24 (T 76) (T 78)),
       D 80 (.fa 3 (T 11)),
       E (.st 1 (T 80) (T 79))])))) (
    .ops [D 27 (.mv (T 12)),
     D 28 (.bin .add (T 27) (I 1)),
     D 12 (.mv (T 28))])))))) (
 .seq (
  .ops [D 81 (.ldN 4 (T 11)),
   E (.st 4 (T 10) (T 81))]) (
 .ret))))⟩
theorem dioramalaw15_part_ok : Ok Tryz.prog 31 dioramalaw15_part := ⟨by kernel_rfl, by kernel_rfl⟩

/-- diorama/item.Render -/
def item_Render : AF := ⟨105, [.cellN 4 4, .tmp 5],
 .seq (
  .ops [D 4 (.alloc [(.int .i64 0), (.int .i64 0), (.int .i64 0), (.slice none 0 0)]),
   D 5 (.mv (I 0))]) (
 .trim [0, 4, 6, 7] (
  .ops [D 22 (.mv (T 0)),
   D 23 (.mv (T 1)),
   D 24 (.call 63 [(T 22), (T 23)]),
   D 21 (.mv (T 24)),
   D 25 (.ext (T 21) 0),
   D 26 (.ext (T 21) 1),
   D 6 (.mv (T 25)),
   D 7 (.mv (T 26))]) (
 .trim [0, 4, 6] (
  .seq (
   .ops [D 27 (.mv (T 7)),
    D 28 (.bin .neq (T 27) (I 0))]) (
  .cond (T 28) (
   .seq (
    .ops [D 29 (.build [(.int .i64 0), (.int .i64 0), (.int .i64 0), (.slice none 0 0)] []),
     D 30 (.mv (T 7)),
     E (.st 4 (T 4) (T 29)),
     D 5 (.mv (T 30))]) (
   .ret)) (
   .skip))) (
 .seq (
  .ops [D 31 (.mv (T 0)),
   D 32 (.len (T 31)),
   D 33 (.mks [(.int .i64 0), (.int .i64 0), (.int .i64 0), (.slice none 0 0)] 48 (T 32) (T 32)),
   D 8 (.mv (T 33))]) (
 .trim [4, 6, 8] (
  .seq (
   .ops [D 34 (.mv (T 0)),
    D 35 (.mv (T 6)),
    D 36 (.call 64 [(T 34), (T 35)]),
    D 37 (.len (T 36)),
    D 38 (.mv (I 0))]) (
  .block 0 (
   .loop [0, 4, 6, 8, 36, 37, 38] (
    .seq (
     .ops [D 39 (.bin .lss (T 38) (T 37))]) (
    .seq (
     .cond (T 39) (
      .skip) (
      .exit 0)) (
    .trim [0, 4, 6, 8, 36, 37, 38] (
     .block 1 (
      .seq (
       .ops [D 40 (.ia 1 (T 36) (T 38)),
        D 41 (.ld1 (T 40)),
        D 10 (.mv (T 41))]) (
      .seq (
       .ops [D 42 (.mv (T 0)),
        D 43 (.mv (T 10)),
        D 44 (.ia 12 (T 42) (T 43)),
        D 45 (.ldN 12 (T 44)),
        D 11 (.alloc [(.int .i64 0), (.int .i64 0), (.slice none 0 0), (.slice none 0 0), (.slice none 0 0), (.int .i64 0), (.int .i64 0), (.int .i64 0), (.int .i64 0), (.slice none 0 0), (.int .i64 0), (.bool false)]),
        E (.st 12 (T 11) (T 45))]) (
      .seq (
       .ops [D 12 (.mv (.const (.slice none 0 0)))]) (
      .seq (
       .ops [D 13 (.mv (.const (.slice none 0 0)))]) (
      .trim [0, 4, 6, 8, 10, 11, 12, 13, 36, 37, 38] (
       .seq (
        .ops [D 46 (.fa 3 (T 11)),
         D 47 (.ld1 (T 46)),
         D 48 (.len (T 47)),
         D 49 (.mv (I 0))]) (
       .block 2 (
        .loop [0, 4, 6, 8, 10, 11, 12, 13, 36, 37, 38, 47, 48, 49] (
         .seq (
          .ops [D 50 (.bin .lss (T 49) (T 48))]) (
         .seq (
          .cond (T 50) (
           .skip) (
           .exit 2)) (
         .trim [0, 4, 6, 8, 10, 11, 12, 13, 36, 37, 38, 47, 48, 49] (
          .block 3 (
           .seq (
            .ops [D 51 (.ia 1 (T 47) (T 49)),
             D 52 (.ld1 (T 51)),
             D 15 (.mv (T 52))]) (
           .trim [] (
            .ops [D 53 (.mv (T 8)),
             D 54 (.mv (T 0)),
             D 55 (.mv (T 15)),
             D 56 (.call 55 [(T 54), (T 55)]),
             D 57 (.ia 4 (T 53) (T 56)),
             D 58 (.ldN 4 (T 57)),
             D 16 (.alloc [(.int .i64 0), (.int .i64 0), (.int .i64 0), (.slice none 0 0)]),
             E (.st 4 (T 16) (T 58))]) (
           .bad)))) (
         .ops [D 68 (.bin .add (T 49) (I 1)),
          D 49 (.mv (T 68))]))))))) (
      .seq (
       .ops [D 69 (.ldN 12 (T 11)),
        D 70 (.call 79 [(T 69)]),
        D 17 (.mv (T 70))]) (
      .trim [0, 4, 6, 8, 10, 11, 13, 17, 36, 37, 38] (
       .trim [0, 4, 6, 8, 10, 11, 13, 17, 19, 36, 37, 38] (
        .ops [D 72 (.mv (T 17)),
         D 73 (.mv (T 12)),
         D 74 (.inv [(120, 319), (156, 321), (157, 323), (158, 326)] (T 72) [(T 73)]),
         D 71 (.mv (T 74)),
         D 75 (.ext (T 71) 0),
         D 76 (.ext (T 71) 1),
         D 18 (.alloc [(.int .i64 0), (.int .i64 0), (.int .i64 0), (.int .i64 0)]),
         E (.st 4 (T 18) (T 75)),
         D 19 (.mv (T 76))]) (
       .seq (
        .ops [D 77 (.mv (T 19)),
         D 78 (.bin .neq (T 77) (I 0))]) (
       .cond (T 78) (
        .seq (
         .ops [D 79 (.build [(.int .i64 0), (.int .i64 0), (.int .i64 0), (.slice none 0 0)] []),
          D 80 (.mv (T 19)),
          E (.st 4 (T 4) (T 79)),
          D 5 (.mv (T 80))]) (
        .ret)) (
        .skip)))) (
      .trim [0, 4, 6, 8, 10, 11, 13, 17, 36, 37, 38] (
       .seq (
        .ops [D 81 (.mv (T 17))]) (
       .block 4 (
        .seq (
         .ops [D 82 (.tas 120 true [(.int .i64 0), (.int .i64 0), (.slice none 0 0), (.slice none 0 0), (.slice none 0 0), (.int .i64 0), (.int .i64 0), (.int .i64 0), (.int .i64 0), (.slice none 0 0), (.int .i64 0), (.bool false)] true (T 81)),
          D 83 (.ext (T 82) 1),
          D 84 (.ext (T 82) 0)]) (
        .cond (T 83) (
         .seq (
          .ops [D 20 (.alloc [(.int .i64 0), (.int .i64 0), (.slice none 0 0), (.slice none 0 0), (.slice none 0 0), (.int .i64 0), (.int .i64 0), (.int .i64 0), (.int .i64 0), (.slice none 0 0), (.int .i64 0), (.bool false)]),
           E (.st 12 (T 20) (T 84))]) (
         .seq (
          .ops [D 85 (.fa 2 (T 20)),
           D 86 (.ld1 (T 85)),
           D 87 (.call 80 [(T 86)])]) (
         .cond (T 87) (
          .seq (
           .ops [D 88 (.build [(.int .i64 0), (.int .i64 0), (.int .i64 0), (.slice none 0 0)] []),
            E (.st 4 (T 4) (T 88)),
            D 5 (.mv (I 140))]) (
          .ret)) (
          .skip)))) (
         .skip))))) (
      .draw [⟨0, 0, 0, D 89 (.mv (T 8))⟩,
       ⟨1, 0, 0, D 90 (.mv (T 10))⟩,
       ⟨2, 0, 0, D 91 (.mv (T 17))⟩,
       ⟨3, 0, 0, D 92 (.mv (T 13))⟩,
       ⟨5, 0, 0, D 94 (.fa 10 (T 11))⟩,
       ⟨6, 1, 32, D 95 (.ld1 (T 94))⟩,
       ⟨7, 0, 0, D 96 (.fa 11 (T 11))⟩,
       ⟨8, 1, 128, D 97 (.ld1 (T 96))⟩,
       ⟨4, 4, 12, D 93 (.inv [(120, 318), (156, 320), (157, 322), (158, 325)] (T 91) [(T 92)])⟩,
       ⟨9, 4, 508, D 98 (.call 49 [(T 93), (T 95), (T 97)])⟩,
       ⟨10, 0, 1023, D 99 (.ia 4 (T 89) (T 90))⟩,
       ⟨11, 4, 2047, E (.st 4 (T 99) (T 98))⟩])))))))))) (
    .ops [D 100 (.bin .add (T 38) (I 1)),
     D 38 (.mv (T 100))]))))))) (
 .seq (
  .ops [D 101 (.mv (T 8)),
   D 102 (.mv (T 6)),
   D 103 (.ia 4 (T 101) (T 102)),
   D 104 (.ldN 4 (T 103)),
   E (.st 4 (T 4) (T 104)),
   D 5 (.mv (I 0))]) (
 .ret))))))⟩
theorem item_Render_ok : Ok Tryz.prog 32 item_Render := ⟨by kernel_rfl, by kernel_rfl⟩

/-- diorama/dioramaref00.EqItem -/
def dioramaref00_EqItem : AF := ⟨85, [.tmp 4],
 .seq (
  .ops [D 2 (.box (T 0)),
   D 3 (.box (T 1)),
   D 4 (.mv (.const (.bool false)))]) (
 .trim [2, 3] (
  .trim [2, 3, 58] (
   .ops [D 5 (.fa 0 (T 2)),
    D 6 (.ld1 (T 5)),
    D 7 (.fa 0 (T 3)),
    D 8 (.ld1 (T 7)),
    D 9 (.bin .neq (T 6) (T 8)),
    D 10 (.mv (T 9)),
    ⟨(some 11), some (10, false), .fa 1 (T 2)⟩,
    ⟨(some 12), some (10, false), .ld1 (T 11)⟩,
    ⟨(some 13), some (10, false), .fa 1 (T 3)⟩,
    ⟨(some 14), some (10, false), .ld1 (T 13)⟩,
    ⟨(some 15), some (10, false), .bin .neq (T 12) (T 14)⟩,
    D 16 (.pick (T 10) (.const (.bool true)) (T 15)),
    D 17 (.mv (T 16)),
    ⟨(some 18), some (17, false), .fa 5 (T 2)⟩,
    ⟨(some 19), some (17, false), .ld1 (T 18)⟩,
    ⟨(some 20), some (17, false), .fa 5 (T 3)⟩,
    ⟨(some 21), some (17, false), .ld1 (T 20)⟩,
    ⟨(some 22), some (17, false), .bin .neq (T 19) (T 21)⟩,
    D 23 (.pick (T 17) (.const (.bool true)) (T 22)),
    D 24 (.mv (T 23)),
    ⟨(some 25), some (24, false), .fa 6 (T 2)⟩,
    ⟨(some 26), some (24, false), .ld1 (T 25)⟩,
    ⟨(some 27), some (24, false), .fa 6 (T 3)⟩,
    ⟨(some 28), some (24, false), .ld1 (T 27)⟩,
    ⟨(some 29), some (24, false), .bin .neq (T 26) (T 28)⟩,
    D 30 (.pick (T 24) (.const (.bool true)) (T 29)),
    D 31 (.mv (T 30)),
    ⟨(some 32), some (31, false), .fa 7 (T 2)⟩,
    ⟨(some 33), some (31, false), .ld1 (T 32)⟩,
    ⟨(some 34), some (31, false), .fa 7 (T 3)⟩,
    ⟨(some 35), some (31, false), .ld1 (T 34)⟩,
    ⟨(some 36), some (31, false), .bin .neq (T 33) (T 35)⟩,
    D 37 (.pick (T 31) (.const (.bool true)) (T 36)),
    D 38 (.mv (T 37)),
    ⟨(some 39), some (38, false), .fa 8 (T 2)⟩,
    ⟨(some 40), some (38, false), .ld1 (T 39)⟩,
    ⟨(some 41), some (38, false), .fa 8 (T 3)⟩,
    ⟨(some 42), some (38, false), .ld1 (T 41)⟩,
    ⟨(some 43), some (38, false), .bin .neq (T 40) (T 42)⟩,
    D 44 (.pick (T 38) (.const (.bool true)) (T 43)),
    D 45 (.mv (T 44)),
    ⟨(some 46), some (45, false), .fa 10 (T 2)⟩,
    ⟨(some 47), some (45, false), .ld1 (T 46)⟩,
    ⟨(some 48), some (45, false), .fa 10 (T 3)⟩,
    ⟨(some 49), some (45, false), .ld1 (T 48)⟩,
    ⟨(some 50), some (45, false), .bin .neq (T 47) (T 49)⟩,
    D 51 (.pick (T 45) (.const (.bool true)) (T 50)),
    D 52 (.mv (T 51)),
    ⟨(some 53), some (52, false), .fa 11 (T 2)⟩,
    ⟨(some 54), some (52, false), .ld1 (T 53)⟩,
    ⟨(some 55), some (52, false), .fa 11 (T 3)⟩,
    ⟨(some 56), some (52, false), .ld1 (T 55)⟩,
    ⟨(some 57), some (52, false), .beq true (T 54) (T 56)⟩,
    D 58 (.pick (T 52) (.const (.bool true)) (T 57))]) (
  .cond (T 58) (
   .seq (
    .ops [D 4 (.mv (.const (.bool false)))]) (
   .ret)) (
   .skip))) (
 .trim [4] (
  .ops [D 59 (.fa 2 (T 2)),
   D 60 (.ld1 (T 59)),
   D 61 (.fa 2 (T 3)),
   D 62 (.ld1 (T 61)),
   D 63 (.call 86 [(T 60), (T 62)]),
   D 64 (.mv (T 63)),
   ⟨(some 65), some (64, true), .fa 3 (T 2)⟩,
   ⟨(some 66), some (64, true), .ld1 (T 65)⟩,
   ⟨(some 67), some (64, true), .fa 3 (T 3)⟩,
   ⟨(some 68), some (64, true), .ld1 (T 67)⟩,
   ⟨(some 69), some (64, true), .call 23 [(T 66), (T 68)]⟩,
   D 70 (.pick (T 64) (T 69) (.const (.bool false))),
   D 71 (.mv (T 70)),
   ⟨(some 72), some (71, true), .fa 4 (T 2)⟩,
   ⟨(some 73), some (71, true), .ld1 (T 72)⟩,
   ⟨(some 74), some (71, true), .fa 4 (T 3)⟩,
   ⟨(some 75), some (71, true), .ld1 (T 74)⟩,
   ⟨(some 76), some (71, true), .call 23 [(T 73), (T 75)]⟩,
   D 77 (.pick (T 71) (T 76) (.const (.bool false))),
   D 78 (.mv (T 77)),
   ⟨(some 79), some (78, true), .fa 9 (T 2)⟩,
   ⟨(some 80), some (78, true), .ld1 (T 79)⟩,
   ⟨(some 81), some (78, true), .fa 9 (T 3)⟩,
   ⟨(some 82), some (78, true), .ld1 (T 81)⟩,
   ⟨(some 83), some (78, true), .call 23 [(T 80), (T 82)]⟩,
   D 84 (.pick (T 78) (T 83) (.const (.bool false))),
   D 4 (.mv (T 84))]) (
 .ret)))⟩
theorem dioramaref00_EqItem_ok : Ok Tryz.prog 38 dioramaref00_EqItem := ⟨by kernel_rfl, by kernel_rfl⟩

/-- diorama/dioramalaw15.few -/
def dioramalaw15_few : AF := ⟨36, [.tmp 4],
 .seq (
  .ops [D 2 (.box (T 0)),
   D 4 (.mv (.const (.bool false)))]) (
 .trim [1, 2] (
  .trim [1, 2, 19] (
   .ops [D 6 (.fa 2 (T 2)),
    D 7 (.ld1 (T 6)),
    D 8 (.len (T 7)),
    D 9 (.bin .gtr (T 8) (I 40)),
    D 10 (.mv (T 9)),
    ⟨(some 11), some (10, false), .fa 1 (T 2)⟩,
    ⟨(some 12), some (10, false), .ld1 (T 11)⟩,
    ⟨(some 13), some (10, false), .len (T 12)⟩,
    ⟨(some 14), some (10, false), .bin .gtr (T 13) (I 1000)⟩,
    D 15 (.pick (T 10) (.const (.bool true)) (T 14)),
    D 16 (.mv (T 15)),
    ⟨(some 17), some (16, false), .mv (T 1)⟩,
    ⟨(some 18), some (16, false), .bin .gtr (T 17) (I 3)⟩,
    D 19 (.pick (T 16) (.const (.bool true)) (T 18))]) (
  .cond (T 19) (
   .seq (
    .ops [D 4 (.mv (.const (.bool false)))]) (
   .ret)) (
   .skip))) (
 .trim [] (
  .seq (
   .ops [D 5 (.mv (I 0))]) (
  .block 0 (
   .loop [1, 2, 5] (
    .trim [1, 2, 5] (
     .seq (
      .ops [D 20 (.mv (T 5)),
       D 21 (.fa 2 (T 2)),
       D 22 (.ld1 (T 21)),
       D 23 (.len (T 22)),
       D 24 (.bin .lss (T 20) (T 23))]) (
     .cond (T 24) (
      .skip) (
      .exit 0))) (
    .trim [1, 2, 5] (
     .block 1 (
      .trim [1, 2, 5, 35] (
       .ops [D 27 (.fa 2 (T 2)),
        D 28 (.ld1 (T 27)),
        D 29 (.mv (T 5)),
        D 30 (.ia 4 (T 28) (T 29)),
        D 31 (.ldN 4 (T 30)),
        D 32 (.mv (T 1)),
        D 33 (.bin .add (T 32) (I 1)),
        D 34 (.call 40 [(T 31), (T 33)]),
        D 35 (.un .not (T 34))]) (
      .cond (T 35) (
       .seq (
        .ops [D 4 (.mv (.const (.bool false)))]) (
       .ret)) (
       .skip)))) (
    .ops [D 25 (.mv (T 5)),
     D 26 (.bin .add (T 25) (I 1)),
     D 5 (.mv (T 26))])))))) (
 .seq (
  .ops [D 4 (.mv (.const (.bool true)))]) (
 .ret))))⟩
theorem dioramalaw15_few_ok : Ok Tryz.prog 40 dioramalaw15_few := ⟨by kernel_rfl, by kernel_rfl⟩

/-- diorama/item.FromNode -/
def item_FromNode : AF := ⟨60, [.tmp 2, .tmp 3],
 .seq (
  .ops [D 1 (.box (T 0)),
   D 2 (.mv (.const (.slice none 0 0))),
   D 3 (.mv (I 0))]) (
 .trim [1] (
  .trim [1, 4] (
   .ops [D 14 (.fa 0 (T 1)),
    D 15 (.ld1 (T 14)),
    D 16 (.call 89 [(T 15)]),
    D 13 (.mv (T 16)),
    D 17 (.ext (T 13) 0),
    D 18 (.ext (T 13) 1),
    D 4 (.mv (T 17)),
    D 5 (.mv (T 18))]) (
  .trim [1, 25] (
   .ops [D 19 (.mv (T 4)),
    D 20 (.bin .neq (T 19) (.const (.string ⟨#[109, 101, 116, 97]⟩))),
    D 21 (.mv (T 20)),
    ⟨(some 22), some (21, false), .fa 3 (T 1)⟩,
    ⟨(some 23), some (21, false), .ld1 (T 22)⟩,
    ⟨(some 24), some (21, false), .un .not (T 23)⟩,
    D 25 (.pick (T 21) (.const (.bool true)) (T 24))]) (
  .cond (T 25) (
   .seq (
    .ops [D 2 (.mv (.const (.slice none 0 0))),
     D 3 (.mv (I 60))]) (
   .ret)) (
   .skip)))) (
 .seq (
  .ops [D 6 (.mv (.const (.slice none 0 0)))]) (
 .trim [6] (
  .seq (
   .ops [D 26 (.fa 2 (T 1)),
    D 27 (.ld1 (T 26)),
    D 28 (.call 90 [(T 27), (.const (.string ⟨#[105, 116, 101, 109]⟩))]),
    D 29 (.len (T 28)),
    D 30 (.mv (I 0))]) (
  .block 0 (
   .loop [6, 28, 29, 30] (
    .seq (
     .ops [D 31 (.bin .lss (T 30) (T 29))]) (
    .seq (
     .cond (T 31) (
      .skip) (
      .exit 0)) (
    .trim [6, 28, 29, 30] (
     .block 1 (
      .seq (
       .ops [D 32 (.ia 4 (T 28) (T 30)),
        D 33 (.ldN 4 (T 32)),
        D 8 (.alloc [(.int .i64 0), (.slice none 0 0), (.slice none 0 0), (.bool false)]),
        E (.st 4 (T 8) (T 33))]) (
      .seq (
       .seq (
        .ops [D 34 (.fa 3 (T 8)),
         D 35 (.ld1 (T 34)),
         D 36 (.un .not (T 35))]) (
       .cond (T 36) (
        .exit 1) (
        .skip))) (
      .trim [6, 9, 10, 28, 29, 30] (
       .ops [D 38 (.fa 2 (T 8)),
        D 39 (.ld1 (T 38)),
        D 40 (.call 91 [(T 39)]),
        D 37 (.mv (T 40)),
        D 41 (.ext (T 37) 0),
        D 42 (.ext (T 37) 1),
        D 9 (.alloc [(.int .i64 0), (.int .i64 0), (.slice none 0 0), (.slice none 0 0), (.slice none 0 0), (.int .i64 0), (.int .i64 0), (.int .i64 0), (.int .i64 0), (.slice none 0 0), (.int .i64 0), (.bool false)]),
        E (.st 12 (T 9) (T 41)),
        D 10 (.mv (T 42))]) (
      .trim [6, 9, 28, 29, 30] (
       .seq (
        .ops [D 43 (.mv (T 10)),
         D 44 (.bin .neq (T 43) (I 0))]) (
       .cond (T 44) (
        .seq (
         .ops [D 45 (.mv (T 10)),
          D 2 (.mv (.const (.slice none 0 0))),
          D 3 (.mv (T 45))]) (
        .ret)) (
        .skip))) (
      .ops [D 46 (.mv (T 6)),
       D 47 (.ldN 12 (T 9)),
       D 48 (.bslice [(.int .i64 0), (.int .i64 0), (.slice none 0 0), (.slice none 0 0), (.slice none 0 0), (.int .i64 0), (.int .i64 0), (.int .i64 0), (.int .i64 0), (.slice none 0 0), (.int .i64 0), (.bool false)] 1 [(0, 12, (T 47))]),
       D 49 (.app 12 160 (T 46) (T 48)),
       D 6 (.mv (T 49))])))))) (
    .ops [D 50 (.bin .add (T 30) (I 1)),
     D 30 (.mv (T 50))]))))))) (
 .trim [6] (
  .trim [6, 11] (
   .ops [D 52 (.mv (T 6)),
    D 53 (.call 19 [(T 52)]),
    D 51 (.mv (T 53)),
    D 54 (.ext (T 51) 0),
    D 55 (.ext (T 51) 1),
    D 11 (.mv (T 54)),
    D 12 (.mv (T 55))]) (
  .seq (
   .ops [D 56 (.mv (T 11)),
    D 57 (.bin .neq (T 56) (I 0))]) (
  .cond (T 57) (
   .seq (
    .ops [D 58 (.mv (T 11)),
     D 2 (.mv (.const (.slice none 0 0))),
     D 3 (.mv (T 58))]) (
   .ret)) (
   .skip)))) (
 .seq (
  .ops [D 59 (.mv (T 6)),
   D 2 (.mv (T 59)),
   D 3 (.mv (I 0))]) (
 .ret))))))⟩
theorem item_FromNode_ok : Ok Tryz.prog 41 item_FromNode := ⟨by kernel_rfl, by kernel_rfl⟩

/-- diorama/dioramaref15.FromNode -/
def dioramaref15_FromNode : AF := ⟨67, [.tmp 2, .tmp 3],
 .seq (
  .ops [D 1 (.box (T 0)),
   D 2 (.mv (.const (.slice none 0 0))),
   D 3 (.mv (I 0))]) (
 .trim [1] (
  .trim [1, 18] (
   .draw [⟨0, 0, 0, D 10 (.fa 0 (T 1))⟩,
    ⟨1, 1, 1, D 11 (.ld1 (T 10))⟩,
    ⟨2, 4, 0, D 12 (.call 92 [(.const (.string ⟨#[109, 101, 116, 97]⟩))])⟩,
    ⟨3, 0, 7, D 13 (.bin .neq (T 11) (T 12))⟩,
    ⟨4, 0, 15, D 14 (.mv (T 13))⟩,
    ⟨5, 0, 31, ⟨(some 15), some (14, false), .fa 3 (T 1)⟩⟩,
    ⟨6, 1, 63, ⟨(some 16), some (14, false), .ld1 (T 15)⟩⟩,
    ⟨7, 0, 127, ⟨(some 17), some (14, false), .un .not (T 16)⟩⟩,
    ⟨8, 0, 255, D 18 (.pick (T 14) (.const (.bool true)) (T 17))⟩]) (
  .cond (T 18) (
   .seq (
    .ops [D 2 (.mv (.const (.slice none 0 0))),
     D 3 (.mv (I 60))]) (
   .ret)) (
   .skip))) (
 .seq (
  .ops [D 4 (.mv (.const (.slice none 0 0)))]) (
 .trim [4] (
  .seq (
   .ops [D 5 (.mv (I 0))]) (
  .block 0 (
   .loop [1, 4, 5] (
    .trim [1, 4, 5] (
     .seq (
      .ops [D 19 (.mv (T 5)),
       D 20 (.fa 2 (T 1)),
       D 21 (.ld1 (T 20)),
       D 22 (.len (T 21)),
       D 23 (.bin .lss (T 19) (T 22))]) (
     .cond (T 23) (
      .skip) (
      .exit 0))) (
    .trim [1, 4, 5] (
     .block 1 (
      .trim [1, 4, 5, 41] (
       .draw [⟨0, 0, 0, D 26 (.fa 2 (T 1))⟩,
        ⟨1, 1, 1, D 27 (.ld1 (T 26))⟩,
        ⟨2, 0, 0, D 28 (.mv (T 5))⟩,
        ⟨3, 0, 7, D 29 (.ia 4 (T 27) (T 28))⟩,
        ⟨4, 0, 15, D 30 (.fa 0 (T 29))⟩,
        ⟨5, 1, 31, D 31 (.ld1 (T 30))⟩,
        ⟨6, 4, 0, D 32 (.call 92 [(.const (.string ⟨#[105, 116, 101, 109]⟩))])⟩,
        ⟨7, 0, 127, D 33 (.bin .eql (T 31) (T 32))⟩,
        ⟨8, 0, 255, D 34 (.mv (T 33))⟩,
        ⟨9, 0, 511, ⟨(some 35), some (34, true), .fa 2 (T 1)⟩⟩,
        ⟨10, 1, 1023, ⟨(some 36), some (34, true), .ld1 (T 35)⟩⟩,
        ⟨11, 0, 511, ⟨(some 37), some (34, true), .mv (T 5)⟩⟩,
        ⟨12, 0, 4095, ⟨(some 38), some (34, true), .ia 4 (T 36) (T 37)⟩⟩,
        ⟨13, 0, 8191, ⟨(some 39), some (34, true), .fa 3 (T 38)⟩⟩,
        ⟨14, 1, 16383, ⟨(some 40), some (34, true), .ld1 (T 39)⟩⟩,
        ⟨15, 0, 32767, D 41 (.pick (T 34) (T 40) (.const (.bool false)))⟩]) (
      .cond (T 41) (
       .trim [1, 4, 5, 6, 7] (
        .ops [D 43 (.fa 2 (T 1)),
         D 44 (.ld1 (T 43)),
         D 45 (.mv (T 5)),
         D 46 (.ia 4 (T 44) (T 45)),
         D 47 (.ldN 4 (T 46)),
         D 48 (.call 93 [(T 47)]),
         D 42 (.mv (T 48)),
         D 49 (.ext (T 42) 0),
         D 50 (.ext (T 42) 1),
         D 6 (.alloc [(.int .i64 0), (.int .i64 0), (.slice none 0 0), (.slice none 0 0), (.slice none 0 0), (.int .i64 0), (.int .i64 0), (.int .i64 0), (.int .i64 0), (.slice none 0 0), (.int .i64 0), (.bool false)]),
         E (.st 12 (T 6) (T 49)),
         D 7 (.mv (T 50))]) (
       .trim [1, 4, 5, 6] (
        .seq (
         .ops [D 51 (.mv (T 7)),
          D 52 (.bin .neq (T 51) (I 0))]) (
        .cond (T 52) (
         .seq (
          .ops [D 53 (.mv (T 7)),
           D 2 (.mv (.const (.slice none 0 0))),
           D 3 (.mv (T 53))]) (
         .ret)) (
         .skip))) (
       .ops [D 54 (.mv (T 4)),
        D 55 (.ldN 12 (T 6)),
        D 56 (.bslice [(.int .i64 0), (.int .i64 0), (.slice none 0 0), (.slice none 0 0), (.slice none 0 0), (.int .i64 0), (.int .i64 0), (.int .i64 0), (.int .i64 0), (.slice none 0 0), (.int .i64 0), (.bool false)] 1 [(0, 12, (T 55))]),
        D 57 (.app 12 160 (T 54) (T 56)),
        D 4 (.mv (T 57))]))) (
       .skip)))) (
    .ops [D 24 (.mv (T 5)),
     D 25 (.bin .add (T 24) (I 1)),
     D 5 (.mv (T 25))])))))) (
 .trim [4, 8] (
  .ops [D 59 (.mv (T 4)),
   D 60 (.call 20 [(T 59)]),
   D 58 (.mv (T 60)),
   D 61 (.ext (T 58) 0),
   D 62 (.ext (T 58) 1),
   D 8 (.mv (T 61)),
   D 9 (.mv (T 62))]) (
 .trim [4] (
  .seq (
   .ops [D 63 (.mv (T 8)),
    D 64 (.bin .neq (T 63) (I 0))]) (
  .cond (T 64) (
   .seq (
    .ops [D 65 (.mv (T 8)),
     D 2 (.mv (.const (.slice none 0 0))),
     D 3 (.mv (T 65))]) (
   .ret)) (
   .skip))) (
 .seq (
  .ops [D 66 (.mv (T 4)),
   D 2 (.mv (T 66)),
   D 3 (.mv (I 0))]) (
 .ret)))))))⟩
theorem dioramaref15_FromNode_ok : Ok Tryz.prog 42 dioramaref15_FromNode := ⟨by kernel_rfl, by kernel_rfl⟩

/-- diorama/dioramaref00.EqItems -/
def dioramaref00_EqItems : AF := ⟨27, [.tmp 4],
 .seq (
  .ops [D 4 (.mv (.const (.bool false)))]) (
 .trim [0, 1] (
  .seq (
   .ops [D 6 (.mv (T 0)),
    D 7 (.len (T 6)),
    D 8 (.mv (T 1)),
    D 9 (.len (T 8)),
    D 10 (.bin .neq (T 7) (T 9))]) (
  .cond (T 10) (
   .seq (
    .ops [D 4 (.mv (.const (.bool false)))]) (
   .ret)) (
   .skip))) (
 .trim [] (
  .seq (
   .ops [D 5 (.mv (I 0))]) (
  .block 0 (
   .loop [0, 1, 5] (
    .seq (
     .seq (
      .ops [D 11 (.mv (T 5)),
       D 12 (.mv (T 0)),
       D 13 (.len (T 12)),
       D 14 (.bin .lss (T 11) (T 13))]) (
     .cond (T 14) (
      .skip) (
      .exit 0))) (
    .trim [0, 1, 5] (
     .block 1 (
      .trim [0, 1, 5, 26] (
       .draw [⟨0, 0, 0, D 17 (.mv (T 0))⟩,
        ⟨1, 0, 0, D 18 (.mv (T 5))⟩,
        ⟨2, 0, 3, D 19 (.ia 12 (T 17) (T 18))⟩,
        ⟨3, 1, 7, D 20 (.ldN 12 (T 19))⟩,
        ⟨4, 0, 0, D 21 (.mv (T 1))⟩,
        ⟨5, 0, 0, D 22 (.mv (T 5))⟩,
        ⟨6, 0, 48, D 23 (.ia 12 (T 21) (T 22))⟩,
        ⟨7, 1, 112, D 24 (.ldN 12 (T 23))⟩,
        ⟨8, 4, 255, D 25 (.call 38 [(T 20), (T 24)])⟩,
        ⟨9, 0, 511, D 26 (.un .not (T 25))⟩]) (
      .cond (T 26) (
       .seq (
        .ops [D 4 (.mv (.const (.bool false)))]) (
       .ret)) (
       .skip)))) (
    .ops [D 15 (.mv (T 5)),
     D 16 (.bin .add (T 15) (I 1)),
     D 5 (.mv (T 16))])))))) (
 .seq (
  .ops [D 4 (.mv (.const (.bool true)))]) (
 .ret))))⟩
theorem dioramaref00_EqItems_ok : Ok Tryz.prog 43 dioramaref00_EqItems := ⟨by kernel_rfl, by kernel_rfl⟩

/-- diorama/item.Node -/
def item_Node : AF := ⟨164, [.cellN 4 2, .tmp 3],
 .seq (
  .ops [D 2 (.alloc [(.int .i64 0), (.slice none 0 0), (.slice none 0 0), (.bool false)]),
   D 3 (.mv (I 0))]) (
 .trim [0, 2] (
  .trim [0, 2, 4] (
   .ops [D 20 (.mv (T 0)),
    D 21 (.call 19 [(T 20)]),
    D 19 (.mv (T 21)),
    D 22 (.ext (T 19) 0),
    D 23 (.ext (T 19) 1),
    D 4 (.mv (T 22)),
    D 5 (.mv (T 23))]) (
  .seq (
   .ops [D 24 (.mv (T 4)),
    D 25 (.bin .neq (T 24) (I 0))]) (
  .cond (T 25) (
   .seq (
    .ops [D 26 (.build [(.int .i64 0), (.slice none 0 0), (.slice none 0 0), (.bool false)] []),
     D 27 (.mv (T 4)),
     E (.st 4 (T 2) (T 26)),
     D 3 (.mv (T 27))]) (
   .ret)) (
   .skip)))) (
 .seq (
  .ops [D 28 (.call 94 [(.const (.string ⟨#[109, 101, 116, 97]⟩)), (.const (.slice none 0 0))]),
   D 6 (.alloc [(.int .i64 0), (.slice none 0 0), (.slice none 0 0), (.bool false)]),
   E (.st 4 (T 6) (T 28))]) (
 .trim [2, 6] (
  .seq (
   .ops [D 29 (.mv (T 0)),
    D 30 (.len (T 29)),
    D 31 (.mv (I 0))]) (
  .block 0 (
   .loop [2, 6, 29, 30, 31] (
    .seq (
     .ops [D 32 (.bin .lss (T 31) (T 30))]) (
    .seq (
     .cond (T 32) (
      .skip) (
      .exit 0)) (
    .trim [2, 6, 29, 30, 31] (
     .block 1 (
      .seq (
       .ops [D 33 (.ia 12 (T 29) (T 31)),
        D 34 (.ldN 12 (T 33)),
        D 8 (.alloc [(.int .i64 0), (.int .i64 0), (.slice none 0 0), (.slice none 0 0), (.slice none 0 0), (.int .i64 0), (.int .i64 0), (.int .i64 0), (.int .i64 0), (.slice none 0 0), (.int .i64 0), (.bool false)]),
        E (.st 12 (T 8) (T 34))]) (
      .seq (
       .ops [D 35 (.fa 0 (T 8)),
        D 36 (.ld1 (T 35)),
        D 37 (.call 95 [(.const (.slice none 0 0)), (T 36), (I 4)]),
        D 9 (.mv (T 37))]) (
      .trim [2, 6, 8, 10, 29, 30, 31] (
       .draw [⟨0, 0, 0, D 38 (.mv (T 9))⟩,
        ⟨1, 0, 0, D 39 (.fa 1 (T 8))⟩,
        ⟨2, 1, 2, D 40 (.ld1 (T 39))⟩,
        ⟨3, 0, 6, D 41 (.cvi .u8 (T 40))⟩,
        ⟨4, 0, 0, D 42 (.fa 10 (T 8))⟩,
        ⟨5, 1, 16, D 43 (.ld1 (T 42))⟩,
        ⟨6, 0, 48, D 44 (.cvi .u8 (T 43))⟩,
        ⟨7, 0, 0, D 45 (.fa 11 (T 8))⟩,
        ⟨8, 1, 128, D 46 (.ld1 (T 45))⟩,
        ⟨9, 4, 384, D 47 (.call 97 [(T 46)])⟩,
        ⟨10, 0, 896, D 48 (.cvi .u8 (T 47))⟩,
        ⟨11, 2, 2046, D 49 (.bslice [(.int .u8 0), (.int .u8 0), (.int .u8 0)] 3 [(0, 1, (T 41)), (1, 1, (T 44)), (2, 1, (T 48))])⟩,
        ⟨12, 4, 4095, D 50 (.app 1 1 (T 38) (T 49))⟩,
        ⟨13, 4, 8191, D 51 (.call 96 [(.const (.string ⟨#[105, 104, 100, 114]⟩)), (T 50)])⟩,
        ⟨14, 2, 16383, D 52 (.bslice [(.int .i64 0), (.slice none 0 0), (.slice none 0 0), (.bool false)] 1 [(0, 4, (T 51))])⟩,
        ⟨15, 4, 32767, D 53 (.call 94 [(.const (.string ⟨#[105, 116, 101, 109]⟩)), (T 52)])⟩,
        ⟨16, 3, 0, D 10 (.alloc [(.int .i64 0), (.slice none 0 0), (.slice none 0 0), (.bool false)])⟩,
        ⟨17, 4, 131071, E (.st 4 (T 10) (T 53))⟩]) (
      .trim [2, 6, 8, 10, 29, 30, 31] (
       .seq (
        .ops [D 54 (.fa 1 (T 8)),
         D 55 (.ld1 (T 54)),
         D 56 (.bin .eql (T 55) (I 0))]) (
       .cond (T 56) (
        .draw [⟨0, 0, 0, D 57 (.fa 2 (T 10))⟩,
         ⟨1, 1, 1, D 58 (.ld1 (T 57))⟩,
         ⟨2, 0, 0, D 59 (.fa 2 (T 8))⟩,
         ⟨3, 1, 4, D 60 (.ld1 (T 59))⟩,
         ⟨4, 4, 12, D 61 (.call 98 [(T 60)])⟩,
         ⟨5, 4, 28, D 62 (.call 96 [(.const (.string ⟨#[105, 100, 97, 116]⟩)), (T 61)])⟩,
         ⟨6, 2, 60, D 63 (.bslice [(.int .i64 0), (.slice none 0 0), (.slice none 0 0), (.bool false)] 1 [(0, 4, (T 62))])⟩,
         ⟨7, 4, 127, D 64 (.app 4 64 (T 58) (T 63))⟩,
         ⟨8, 0, 255, D 65 (.fa 2 (T 10))⟩,
         ⟨9, 4, 511, E (.st 1 (T 65) (T 64))⟩]) (
        .trim [2, 6, 8, 10, 11, 29, 30, 31] (
         .ops [D 66 (.fa 3 (T 8)),
          D 67 (.ld1 (T 66)),
          D 68 (.len (T 67)),
          D 69 (.cvi .u8 (T 68)),
          D 70 (.bslice [(.int .u8 0)] 1 [(0, 1, (T 69))]),
          D 11 (.mv (T 70))]) (
        .trim [2, 6, 8, 10, 11, 29, 30, 31] (
         .seq (
          .ops [D 71 (.fa 3 (T 8)),
           D 72 (.ld1 (T 71)),
           D 73 (.len (T 72)),
           D 74 (.mv (I 0))]) (
         .block 2 (
          .loop [2, 6, 8, 10, 11, 29, 30, 31, 72, 73, 74] (
           .seq (
            .ops [D 75 (.bin .lss (T 74) (T 73))]) (
           .seq (
            .cond (T 75) (
             .skip) (
             .exit 2)) (
           .trim [2, 6, 8, 10, 11, 29, 30, 31, 72, 73, 74] (
            .block 3 (
             .seq (
              .ops [D 76 (.ia 1 (T 72) (T 74)),
               D 77 (.ld1 (T 76)),
               D 13 (.mv (T 77))]) (
             .ops [D 78 (.mv (T 11)),
              D 79 (.mv (T 13)),
              D 80 (.call 95 [(T 78), (T 79), (I 4)]),
              D 11 (.mv (T 80))]))) (
           .ops [D 81 (.bin .add (T 74) (I 1)),
            D 74 (.mv (T 81))]))))))) (
        .draw [⟨0, 0, 0, D 82 (.fa 2 (T 10))⟩,
         ⟨1, 1, 1, D 83 (.ld1 (T 82))⟩,
         ⟨2, 0, 0, D 84 (.mv (T 11))⟩,
         ⟨3, 4, 4, D 85 (.call 96 [(.const (.string ⟨#[105, 114, 101, 102]⟩)), (T 84)])⟩,
         ⟨4, 2, 12, D 86 (.bslice [(.int .i64 0), (.slice none 0 0), (.slice none 0 0), (.bool false)] 1 [(0, 4, (T 85))])⟩,
         ⟨5, 4, 31, D 87 (.app 4 64 (T 83) (T 86))⟩,
         ⟨6, 0, 63, D 88 (.fa 2 (T 10))⟩,
         ⟨7, 4, 127, E (.st 1 (T 88) (T 87))⟩]))))) (
      .trim [2, 6, 10, 29, 30, 31] (
       .seq (
        .ops [D 89 (.fa 1 (T 8)),
         D 90 (.ld1 (T 89))]) (
       .block 4 (
        .seq (
         .ops [D 92 (.bin .eql (T 90) (I 2)),
          D 91 (.mv (T 92))]) (
        .cond (T 91) (
         .trim [2, 6, 8, 10, 14, 29, 30, 31] (
          .ops [D 93 (.fa 7 (T 8)),
           D 94 (.ld1 (T 93)),
           D 95 (.cvi .u8 (T 94)),
           D 96 (.fa 8 (T 8)),
           D 97 (.ld1 (T 96)),
           D 98 (.cvi .u8 (T 97)),
           D 99 (.fa 9 (T 8)),
           D 100 (.ld1 (T 99)),
           D 101 (.len (T 100)),
           D 102 (.cvi .u8 (T 101)),
           D 103 (.bslice [(.int .u8 0), (.int .u8 0), (.int .u8 0)] 3 [(0, 1, (T 95)), (1, 1, (T 98)), (2, 1, (T 102))]),
           D 14 (.mv (T 103))]) (
         .trim [2, 6, 8, 10, 14, 29, 30, 31] (
          .seq (
           .ops [D 104 (.fa 9 (T 8)),
            D 105 (.ld1 (T 104)),
            D 106 (.len (T 105)),
            D 107 (.mv (I 0))]) (
          .block 5 (
           .loop [2, 6, 8, 10, 14, 29, 30, 31, 105, 106, 107] (
            .seq (
             .ops [D 108 (.bin .lss (T 107) (T 106))]) (
            .seq (
             .cond (T 108) (
              .skip) (
              .exit 5)) (
            .trim [2, 6, 8, 10, 14, 29, 30, 31, 105, 106, 107] (
             .block 6 (
              .seq (
               .ops [D 109 (.ia 1 (T 105) (T 107)),
                D 110 (.ld1 (T 109)),
                D 16 (.mv (T 110))]) (
              .ops [D 111 (.mv (T 14)),
               D 112 (.mv (T 16)),
               D 113 (.call 95 [(T 111), (T 112), (I 2)]),
               D 14 (.mv (T 113))]))) (
            .ops [D 114 (.bin .add (T 107) (I 1)),
             D 107 (.mv (T 114))]))))))) (
         .trim [2, 6, 10, 14, 29, 30, 31] (
          .seq (
           .ops [D 115 (.fa 4 (T 8)),
            D 116 (.ld1 (T 115)),
            D 117 (.len (T 116)),
            D 118 (.mv (I 0))]) (
          .block 7 (
           .loop [2, 6, 10, 14, 29, 30, 31, 116, 117, 118] (
            .seq (
             .ops [D 119 (.bin .lss (T 118) (T 117))]) (
            .seq (
             .cond (T 119) (
              .skip) (
              .exit 7)) (
            .trim [2, 6, 10, 14, 29, 30, 31, 116, 117, 118] (
             .block 8 (
              .seq (
               .ops [D 120 (.ia 1 (T 116) (T 118)),
                D 121 (.ld1 (T 120)),
                D 18 (.mv (T 121))]) (
              .ops [D 122 (.mv (T 14)),
               D 123 (.mv (T 18)),
               D 124 (.cvi .u32 (T 123)),
               D 125 (.cvi .i64 (T 124)),
               D 126 (.call 95 [(T 122), (T 125), (I 4)]),
               D 14 (.mv (T 126))]))) (
            .ops [D 127 (.bin .add (T 118) (I 1)),
             D 118 (.mv (T 127))]))))))) (
         .draw [⟨0, 0, 0, D 128 (.fa 2 (T 10))⟩,
          ⟨1, 1, 1, D 129 (.ld1 (T 128))⟩,
          ⟨2, 0, 0, D 130 (.mv (T 14))⟩,
          ⟨3, 4, 4, D 131 (.call 96 [(.const (.string ⟨#[105, 111, 118, 108]⟩)), (T 130)])⟩,
          ⟨4, 2, 12, D 132 (.bslice [(.int .i64 0), (.slice none 0 0), (.slice none 0 0), (.bool false)] 1 [(0, 4, (T 131))])⟩,
          ⟨5, 4, 31, D 133 (.app 4 64 (T 129) (T 132))⟩,
          ⟨6, 0, 63, D 134 (.fa 2 (T 10))⟩,
          ⟨7, 4, 127, E (.st 1 (T 134) (T 133))⟩])))) (
         .seq (
          .ops [D 136 (.bin .eql (T 90) (I 3)),
           D 135 (.mv (T 136))]) (
         .cond (T 135) (
          .draw [⟨0, 0, 0, D 137 (.fa 2 (T 10))⟩,
           ⟨1, 1, 1, D 138 (.ld1 (T 137))⟩,
           ⟨2, 0, 0, D 139 (.fa 5 (T 8))⟩,
           ⟨3, 1, 4, D 140 (.ld1 (T 139))⟩,
           ⟨4, 0, 12, D 141 (.cvi .u8 (T 140))⟩,
           ⟨5, 0, 0, D 142 (.fa 6 (T 8))⟩,
           ⟨6, 1, 32, D 143 (.ld1 (T 142))⟩,
           ⟨7, 0, 96, D 144 (.cvi .u8 (T 143))⟩,
           ⟨8, 0, 0, D 145 (.fa 7 (T 8))⟩,
           ⟨9, 1, 256, D 146 (.ld1 (T 145))⟩,
           ⟨10, 0, 768, D 147 (.cvi .u8 (T 146))⟩,
           ⟨11, 0, 0, D 148 (.fa 8 (T 8))⟩,
           ⟨12, 1, 2048, D 149 (.ld1 (T 148))⟩,
           ⟨13, 0, 6144, D 150 (.cvi .u8 (T 149))⟩,
           ⟨14, 2, 16380, D 151 (.bslice [(.int .u8 0), (.int .u8 0), (.int .u8 0), (.int .u8 0)] 4 [(0, 1, (T 141)), (1, 1, (T 144)), (2, 1, (T 147)), (3, 1, (T 150))])⟩,
           ⟨15, 4, 32764, D 152 (.call 96 [(.const (.string ⟨#[105, 103, 114, 100]⟩)), (T 151)])⟩,
           ⟨16, 2, 65532, D 153 (.bslice [(.int .i64 0), (.slice none 0 0), (.slice none 0 0), (.bool false)] 1 [(0, 4, (T 152))])⟩,
           ⟨17, 4, 131071, D 154 (.app 4 64 (T 138) (T 153))⟩,
           ⟨18, 0, 262143, D 155 (.fa 2 (T 10))⟩,
           ⟨19, 4, 524287, E (.st 1 (T 155) (T 154))⟩]) (
          .skip))))))) (
      .ops [D 156 (.fa 2 (T 6)),
       D 157 (.ld1 (T 156)),
       D 158 (.ldN 4 (T 10)),
       D 159 (.bslice [(.int .i64 0), (.slice none 0 0), (.slice none 0 0), (.bool false)] 1 [(0, 4, (T 158))]),
       D 160 (.app 4 64 (T 157) (T 159)),
       D 161 (.fa 2 (T 6)),
       E (.st 1 (T 161) (T 160))]))))))) (
    .ops [D 162 (.bin .add (T 31) (I 1)),
     D 31 (.mv (T 162))]))))))) (
 .seq (
  .ops [D 163 (.ldN 4 (T 6)),
   E (.st 4 (T 2) (T 163)),
   D 3 (.mv (I 0))]) (
 .ret)))))⟩
theorem item_Node_ok : Ok Tryz.prog 44 item_Node := ⟨by kernel_rfl, by kernel_rfl⟩

/-- diorama/dioramaref15.Node -/
def dioramaref15_Node : AF := ⟨181, [.cellN 4 2, .tmp 3],
 .seq (
  .ops [D 2 (.alloc [(.int .i64 0), (.slice none 0 0), (.slice none 0 0), (.bool false)]),
   D 3 (.mv (I 0))]) (
 .trim [0, 2, 4] (
  .ops [D 18 (.mv (T 0)),
   D 19 (.call 20 [(T 18)]),
   D 17 (.mv (T 19)),
   D 20 (.ext (T 17) 0),
   D 21 (.ext (T 17) 1),
   D 4 (.mv (T 20)),
   D 5 (.mv (T 21))]) (
 .trim [0, 2] (
  .seq (
   .ops [D 22 (.mv (T 4)),
    D 23 (.bin .neq (T 22) (I 0))]) (
  .cond (T 23) (
   .seq (
    .ops [D 24 (.build [(.int .i64 0), (.slice none 0 0), (.slice none 0 0), (.bool false)] []),
     D 25 (.mv (T 4)),
     E (.st 4 (T 2) (T 24)),
     D 3 (.mv (T 25))]) (
   .ret)) (
   .skip))) (
 .seq (
  .ops [D 26 (.call 92 [(.const (.string ⟨#[109, 101, 116, 97]⟩))]),
   D 27 (.build [(.int .i64 0), (.slice none 0 0), (.slice none 0 0), (.bool false)] [(0, 1, (T 26)), (3, 1, (.const (.bool true)))]),
   D 6 (.alloc [(.int .i64 0), (.slice none 0 0), (.slice none 0 0), (.bool false)]),
   E (.st 4 (T 6) (T 27))]) (
 .trim [2, 6] (
  .seq (
   .ops [D 7 (.mv (I 0))]) (
  .block 0 (
   .loop [0, 2, 6, 7] (
    .seq (
     .seq (
      .ops [D 28 (.mv (T 7)),
       D 29 (.mv (T 0)),
       D 30 (.len (T 29)),
       D 31 (.bin .lss (T 28) (T 30))]) (
     .cond (T 31) (
      .skip) (
      .exit 0))) (
    .trim [0, 2, 6, 7] (
     .block 1 (
      .seq (
       .ops [D 34 (.mv (T 0)),
        D 35 (.mv (T 7)),
        D 36 (.ia 12 (T 34) (T 35)),
        D 37 (.ldN 12 (T 36)),
        D 8 (.alloc [(.int .i64 0), (.int .i64 0), (.slice none 0 0), (.slice none 0 0), (.slice none 0 0), (.int .i64 0), (.int .i64 0), (.int .i64 0), (.int .i64 0), (.slice none 0 0), (.int .i64 0), (.bool false)]),
        E (.st 12 (T 8) (T 37))]) (
      .trim [0, 2, 6, 7, 8, 9] (
       .draw [⟨0, 0, 0, D 38 (.fa 0 (T 8))⟩,
        ⟨1, 1, 1, D 39 (.ld1 (T 38))⟩,
        ⟨3, 0, 0, D 41 (.fa 1 (T 8))⟩,
        ⟨4, 1, 8, D 42 (.ld1 (T 41))⟩,
        ⟨5, 0, 24, D 43 (.cvi .u8 (T 42))⟩,
        ⟨6, 0, 0, D 44 (.fa 10 (T 8))⟩,
        ⟨7, 1, 64, D 45 (.ld1 (T 44))⟩,
        ⟨8, 0, 192, D 46 (.cvi .u8 (T 45))⟩,
        ⟨9, 0, 0, D 47 (.fa 11 (T 8))⟩,
        ⟨10, 1, 512, D 48 (.ld1 (T 47))⟩,
        ⟨2, 4, 3, D 40 (.call 99 [(T 39), (I 4)])⟩,
        ⟨11, 4, 1543, D 49 (.call 100 [(T 48)])⟩,
        ⟨12, 2, 4095, D 50 (.bslice [(.int .u8 0), (.int .u8 0), (.int .u8 0)] 3 [(0, 1, (T 43)), (1, 1, (T 46)), (2, 1, (T 49))])⟩,
        ⟨13, 4, 8191, D 51 (.app 1 1 (T 40) (T 50))⟩,
        ⟨14, 0, 16383, D 9 (.mv (T 51))⟩]) (
      .trim [0, 2, 6, 7, 8, 10] (
       .ops [D 52 (.call 92 [(.const (.string ⟨#[105, 116, 101, 109]⟩))]),
        D 53 (.mv (T 9)),
        D 54 (.call 101 [(.const (.string ⟨#[105, 104, 100, 114]⟩)), (T 53)]),
        D 55 (.bslice [(.int .i64 0), (.slice none 0 0), (.slice none 0 0), (.bool false)] 1 [(0, 4, (T 54))]),
        D 56 (.build [(.int .i64 0), (.slice none 0 0), (.slice none 0 0), (.bool false)] [(0, 1, (T 52)), (3, 1, (.const (.bool true))), (2, 1, (T 55))]),
        D 10 (.alloc [(.int .i64 0), (.slice none 0 0), (.slice none 0 0), (.bool false)]),
        E (.st 4 (T 10) (T 56))]) (
      .trim [0, 2, 6, 7, 8, 10] (
       .seq (
        .ops [D 57 (.fa 1 (T 8)),
         D 58 (.ld1 (T 57)),
         D 59 (.bin .eql (T 58) (I 0))]) (
       .cond (T 59) (
        .draw [⟨0, 0, 0, D 60 (.fa 2 (T 10))⟩,
         ⟨1, 1, 1, D 61 (.ld1 (T 60))⟩,
         ⟨2, 0, 0, D 62 (.fa 2 (T 8))⟩,
         ⟨3, 1, 4, D 63 (.ld1 (T 62))⟩,
         ⟨4, 4, 12, D 64 (.call 87 [(T 63)])⟩,
         ⟨5, 4, 28, D 65 (.call 101 [(.const (.string ⟨#[105, 100, 97, 116]⟩)), (T 64)])⟩,
         ⟨6, 2, 60, D 66 (.bslice [(.int .i64 0), (.slice none 0 0), (.slice none 0 0), (.bool false)] 1 [(0, 4, (T 65))])⟩,
         ⟨7, 4, 127, D 67 (.app 4 64 (T 61) (T 66))⟩,
         ⟨8, 0, 255, D 68 (.fa 2 (T 10))⟩,
         ⟨9, 4, 511, E (.st 1 (T 68) (T 67))⟩]) (
        .trim [0, 2, 6, 7, 8, 10, 11] (
         .ops [D 69 (.fa 3 (T 8)),
          D 70 (.ld1 (T 69)),
          D 71 (.len (T 70)),
          D 72 (.cvi .u8 (T 71)),
          D 73 (.bslice [(.int .u8 0)] 1 [(0, 1, (T 72))]),
          D 11 (.mv (T 73))]) (
        .trim [0, 2, 6, 7, 8, 10, 11] (
         .seq (
          .ops [D 12 (.mv (I 0))]) (
         .block 2 (
          .loop [0, 2, 6, 7, 8, 10, 11, 12] (
           .trim [0, 2, 6, 7, 8, 10, 11, 12] (
            .seq (
             .ops [D 74 (.mv (T 12)),
              D 75 (.fa 3 (T 8)),
              D 76 (.ld1 (T 75)),
              D 77 (.len (T 76)),
              D 78 (.bin .lss (T 74) (T 77))]) (
            .cond (T 78) (
             .skip) (
             .exit 2))) (
           .trim [0, 2, 6, 7, 8, 10, 11, 12] (
            .block 3 (
             .ops [D 81 (.mv (T 11)),
              D 82 (.fa 3 (T 8)),
              D 83 (.ld1 (T 82)),
              D 84 (.mv (T 12)),
              D 85 (.ia 1 (T 83) (T 84)),
              D 86 (.ld1 (T 85)),
              D 87 (.call 99 [(T 86), (I 4)]),
              D 88 (.app 1 1 (T 81) (T 87)),
              D 11 (.mv (T 88))])) (
           .ops [D 79 (.mv (T 12)),
            D 80 (.bin .add (T 79) (I 1)),
            D 12 (.mv (T 80))])))))) (
        .draw [⟨0, 0, 0, D 89 (.fa 2 (T 10))⟩,
         ⟨1, 1, 1, D 90 (.ld1 (T 89))⟩,
         ⟨2, 0, 0, D 91 (.mv (T 11))⟩,
         ⟨3, 4, 4, D 92 (.call 101 [(.const (.string ⟨#[105, 114, 101, 102]⟩)), (T 91)])⟩,
         ⟨4, 2, 12, D 93 (.bslice [(.int .i64 0), (.slice none 0 0), (.slice none 0 0), (.bool false)] 1 [(0, 4, (T 92))])⟩,
         ⟨5, 4, 31, D 94 (.app 4 64 (T 90) (T 93))⟩,
         ⟨6, 0, 63, D 95 (.fa 2 (T 10))⟩,
         ⟨7, 4, 127, E (.st 1 (T 95) (T 94))⟩]))))) (
      .trim [0, 2, 6, 7, 8, 10] (
       .seq (
        .ops [D 96 (.fa 1 (T 8)),
         D 97 (.ld1 (T 96)),
         D 98 (.bin .eql (T 97) (I 2))]) (
       .cond (T 98) (
        .trim [0, 2, 6, 7, 8, 10, 13] (
         .ops [D 99 (.fa 7 (T 8)),
          D 100 (.ld1 (T 99)),
          D 101 (.cvi .u8 (T 100)),
          D 102 (.fa 8 (T 8)),
          D 103 (.ld1 (T 102)),
          D 104 (.cvi .u8 (T 103)),
          D 105 (.fa 9 (T 8)),
          D 106 (.ld1 (T 105)),
          D 107 (.len (T 106)),
          D 108 (.cvi .u8 (T 107)),
          D 109 (.bslice [(.int .u8 0), (.int .u8 0), (.int .u8 0)] 3 [(0, 1, (T 101)), (1, 1, (T 104)), (2, 1, (T 108))]),
          D 13 (.mv (T 109))]) (
        .trim [0, 2, 6, 7, 8, 10, 13] (
         .seq (
          .ops [D 14 (.mv (I 0))]) (
         .block 4 (
          .loop [0, 2, 6, 7, 8, 10, 13, 14] (
           .trim [0, 2, 6, 7, 8, 10, 13, 14] (
            .seq (
             .ops [D 110 (.mv (T 14)),
              D 111 (.fa 9 (T 8)),
              D 112 (.ld1 (T 111)),
              D 113 (.len (T 112)),
              D 114 (.bin .lss (T 110) (T 113))]) (
            .cond (T 114) (
             .skip) (
             .exit 4))) (
           .trim [0, 2, 6, 7, 8, 10, 13, 14] (
            .block 5 (
             .ops [D 117 (.mv (T 13)),
              D 118 (.fa 9 (T 8)),
              D 119 (.ld1 (T 118)),
              D 120 (.mv (T 14)),
              D 121 (.ia 1 (T 119) (T 120)),
              D 122 (.ld1 (T 121)),
              D 123 (.call 99 [(T 122), (I 2)]),
              D 124 (.app 1 1 (T 117) (T 123)),
              D 13 (.mv (T 124))])) (
           .ops [D 115 (.mv (T 14)),
            D 116 (.bin .add (T 115) (I 1)),
            D 14 (.mv (T 116))])))))) (
        .trim [0, 2, 6, 7, 8, 10, 13] (
         .seq (
          .ops [D 15 (.mv (I 0))]) (
         .block 6 (
          .loop [0, 2, 6, 7, 8, 10, 13, 15] (
           .trim [0, 2, 6, 7, 8, 10, 13, 15] (
            .seq (
             .ops [D 125 (.mv (T 15)),
              D 126 (.fa 4 (T 8)),
              D 127 (.ld1 (T 126)),
              D 128 (.len (T 127)),
              D 129 (.bin .lss (T 125) (T 128))]) (
            .cond (T 129) (
             .skip) (
             .exit 6))) (
           .trim [0, 2, 6, 7, 8, 10, 13, 15] (
            .block 7 (
             .trim [0, 2, 6, 7, 8, 10, 13, 15, 16] (
              .ops [D 132 (.fa 4 (T 8)),
               D 133 (.ld1 (T 132)),
               D 134 (.mv (T 15)),
               D 135 (.ia 1 (T 133) (T 134)),
               D 136 (.ld1 (T 135)),
               D 16 (.mv (T 136))]) (
             .seq (
              .seq (
               .ops [D 137 (.mv (T 16)),
                D 138 (.bin .lss (T 137) (I 0))]) (
              .cond (T 138) (
               .ops [D 139 (.mv (T 16)),
                D 140 (.bin .add (T 139) (I 4294967296)),
                D 16 (.mv (T 140))]) (
               .skip))) (
             .ops [D 141 (.mv (T 13)),
              D 142 (.mv (T 16)),
              D 143 (.call 99 [(T 142), (I 4)]),
              D 144 (.app 1 1 (T 141) (T 143)),
              D 13 (.mv (T 144))])))) (
           .ops [D 130 (.mv (T 15)),
            D 131 (.bin .add (T 130) (I 1)),
            D 15 (.mv (T 131))])))))) (
        .draw [⟨0, 0, 0, D 145 (.fa 2 (T 10))⟩,
         ⟨1, 1, 1, D 146 (.ld1 (T 145))⟩,
         ⟨2, 0, 0, D 147 (.mv (T 13))⟩,
         ⟨3, 4, 4, D 148 (.call 101 [(.const (.string ⟨#[105, 111, 118, 108]⟩)), (T 147)])⟩,
         ⟨4, 2, 12, D 149 (.bslice [(.int .i64 0), (.slice none 0 0), (.slice none 0 0), (.bool false)] 1 [(0, 4, (T 148))])⟩,
         ⟨5, 4, 31, D 150 (.app 4 64 (T 146) (T 149))⟩,
         ⟨6, 0, 63, D 151 (.fa 2 (T 10))⟩,
         ⟨7, 4, 127, E (.st 1 (T 151) (T 150))⟩])))) (
        .skip))) (
      .trim [0, 2, 6, 7, 10] (
       .seq (
        .ops [D 152 (.fa 1 (T 8)),
         D 153 (.ld1 (T 152)),
         D 154 (.bin .eql (T 153) (I 3))]) (
       .cond (T 154) (
        .draw [⟨0, 0, 0, D 155 (.fa 2 (T 10))⟩,
         ⟨1, 1, 1, D 156 (.ld1 (T 155))⟩,
         ⟨2, 0, 0, D 157 (.fa 5 (T 8))⟩,
         ⟨3, 1, 4, D 158 (.ld1 (T 157))⟩,
         ⟨4, 0, 12, D 159 (.cvi .u8 (T 158))⟩,
         ⟨5, 0, 0, D 160 (.fa 6 (T 8))⟩,
         ⟨6, 1, 32, D 161 (.ld1 (T 160))⟩,
         ⟨7, 0, 96, D 162 (.cvi .u8 (T 161))⟩,
         ⟨8, 0, 0, D 163 (.fa 7 (T 8))⟩,
         ⟨9, 1, 256, D 164 (.ld1 (T 163))⟩,
         ⟨10, 0, 768, D 165 (.cvi .u8 (T 164))⟩,
         ⟨11, 0, 0, D 166 (.fa 8 (T 8))⟩,
         ⟨12, 1, 2048, D 167 (.ld1 (T 166))⟩,
         ⟨13, 0, 6144, D 168 (.cvi .u8 (T 167))⟩,
         ⟨14, 2, 16380, D 169 (.bslice [(.int .u8 0), (.int .u8 0), (.int .u8 0), (.int .u8 0)] 4 [(0, 1, (T 159)), (1, 1, (T 162)), (2, 1, (T 165)), (3, 1, (T 168))])⟩,
         ⟨15, 4, 32764, D 170 (.call 101 [(.const (.string ⟨#[105, 103, 114, 100]⟩)), (T 169)])⟩,
         ⟨16, 2, 65532, D 171 (.bslice [(.int .i64 0), (.slice none 0 0), (.slice none 0 0), (.bool false)] 1 [(0, 4, (T 170))])⟩,
         ⟨17, 4, 131071, D 172 (.app 4 64 (T 156) (T 171))⟩,
         ⟨18, 0, 262143, D 173 (.fa 2 (T 10))⟩,
         ⟨19, 4, 524287, E (.st 1 (T 173) (T 172))⟩]) (
        .skip))) (
      .ops [D 174 (.fa 2 (T 6)),
       D 175 (.ld1 (T 174)),
       D 176 (.ldN 4 (T 10)),
       D 177 (.bslice [(.int .i64 0), (.slice none 0 0), (.slice none 0 0), (.bool false)] 1 [(0, 4, (T 176))]),
       D 178 (.app 4 64 (T 175) (T 177)),
       D 179 (.fa 2 (T 6)),
       E (.st 1 (T 179) (T 178))])))))))) (
    .ops [D 32 (.mv (T 7)),
     D 33 (.bin .add (T 32) (I 1)),
     D 7 (.mv (T 33))])))))) (
 .seq (
  .ops [D 180 (.ldN 4 (T 6)),
   E (.st 4 (T 2) (T 180)),
   D 3 (.mv (I 0))]) (
 .ret))))))⟩
theorem dioramaref15_Node_ok : Ok Tryz.prog 45 dioramaref15_Node := ⟨by kernel_rfl, by kernel_rfl⟩

/-- diorama/dioramaref00.EqNode -/
def dioramaref00_EqNode : AF := ⟨31, [.tmp 4],
 .seq (
  .ops [D 2 (.box (T 0)),
   D 3 (.box (T 1)),
   D 4 (.mv (.const (.bool false)))]) (
 .trim [4] (
  .ops [D 5 (.fa 0 (T 2)),
   D 6 (.ld1 (T 5)),
   D 7 (.fa 0 (T 3)),
   D 8 (.ld1 (T 7)),
   D 9 (.bin .eql (T 6) (T 8)),
   D 10 (.mv (T 9)),
   ⟨(some 11), some (10, true), .fa 3 (T 2)⟩,
   ⟨(some 12), some (10, true), .ld1 (T 11)⟩,
   ⟨(some 13), some (10, true), .fa 3 (T 3)⟩,
   ⟨(some 14), some (10, true), .ld1 (T 13)⟩,
   ⟨(some 15), some (10, true), .beq false (T 12) (T 14)⟩,
   D 16 (.pick (T 10) (T 15) (.const (.bool false))),
   D 17 (.mv (T 16)),
   ⟨(some 18), some (17, true), .fa 1 (T 2)⟩,
   ⟨(some 19), some (17, true), .ld1 (T 18)⟩,
   ⟨(some 20), some (17, true), .fa 1 (T 3)⟩,
   ⟨(some 21), some (17, true), .ld1 (T 20)⟩,
   ⟨(some 22), some (17, true), .call 86 [(T 19), (T 21)]⟩,
   D 23 (.pick (T 17) (T 22) (.const (.bool false))),
   D 24 (.mv (T 23)),
   ⟨(some 25), some (24, true), .fa 2 (T 2)⟩,
   ⟨(some 26), some (24, true), .ld1 (T 25)⟩,
   ⟨(some 27), some (24, true), .fa 2 (T 3)⟩,
   ⟨(some 28), some (24, true), .ld1 (T 27)⟩,
   ⟨(some 29), some (24, true), .call 102 [(T 26), (T 28)]⟩,
   D 30 (.pick (T 24) (T 29) (.const (.bool false))),
   D 4 (.mv (T 30))]) (
 .ret))⟩
theorem dioramaref00_EqNode_ok : Ok Tryz.prog 46 dioramaref00_EqNode := ⟨by kernel_rfl, by kernel_rfl⟩

/-- diorama/picture.Check -/
def picture_Check : AF := ⟨43, [.tmp 2],
 .seq (
  .ops [D 1 (.box (T 0)),
   D 2 (.mv (I 0))]) (
 .trim [1] (
  .trim [1, 27] (
   .ops [D 5 (.fa 0 (T 1)),
    D 6 (.ld1 (T 5)),
    D 7 (.call 103 [(T 6), (I 1), (I 64)]),
    D 8 (.un .not (T 7)),
    D 9 (.mv (T 8)),
    ⟨(some 10), some (9, false), .fa 1 (T 1)⟩,
    ⟨(some 11), some (9, false), .ld1 (T 10)⟩,
    ⟨(some 12), some (9, false), .call 103 [(T 11), (I 1), (I 64)]⟩,
    ⟨(some 13), some (9, false), .un .not (T 12)⟩,
    D 14 (.pick (T 9) (.const (.bool true)) (T 13)),
    D 15 (.mv (T 14)),
    ⟨(some 16), some (15, false), .fa 2 (T 1)⟩,
    ⟨(some 17), some (15, false), .ld1 (T 16)⟩,
    ⟨(some 18), some (15, false), .call 103 [(T 17), (I 1), (I 12)]⟩,
    ⟨(some 19), some (15, false), .un .not (T 18)⟩,
    D 20 (.pick (T 15) (.const (.bool true)) (T 19)),
    D 21 (.mv (T 20)),
    ⟨(some 22), some (21, false), .fa 3 (T 1)⟩,
    ⟨(some 23), some (21, false), .ld1 (T 22)⟩,
    ⟨(some 24), some (21, false), .len (T 23)⟩,
    ⟨(some 25), some (21, false), .call 103 [(T 24), (I 1), (I 4)]⟩,
    ⟨(some 26), some (21, false), .un .not (T 25)⟩,
    D 27 (.pick (T 21) (.const (.bool true)) (T 26))]) (
  .cond (T 27) (
   .seq (
    .ops [D 2 (.mv (I 1))]) (
   .ret)) (
   .skip))) (
 .trim [1] (
  .seq (
   .ops [D 28 (.fa 3 (T 1)),
    D 29 (.ld1 (T 28)),
    D 30 (.mkf 105 [] [(T 1)]),
    D 31 (.call 104 [(T 29), (T 30)])]) (
  .cond (T 31) (
   .seq (
    .ops [D 2 (.mv (I 4))]) (
   .ret)) (
   .skip))) (
 .trim [] (
  .seq (
   .ops [D 32 (.fa 3 (T 1)),
    D 33 (.ld1 (T 32)),
    D 34 (.len (T 33)),
    D 35 (.mv (I 0))]) (
  .block 0 (
   .loop [1, 33, 34, 35] (
    .seq (
     .ops [D 36 (.bin .lss (T 35) (T 34))]) (
    .seq (
     .cond (T 36) (
      .skip) (
      .exit 0)) (
    .trim [1, 33, 34, 35] (
     .block 1 (
      .seq (
       .ops [D 37 (.ia 1 (T 33) (T 35)),
        D 38 (.ld1 (T 37)),
        D 4 (.mv (T 38))]) (
      .seq (
       .ops [D 39 (.mv (T 4)),
        D 40 (.mkf 106 [] [(T 1)]),
        D 41 (.call 56 [(T 39), (T 40)])]) (
      .cond (T 41) (
       .seq (
        .ops [D 2 (.mv (I 1))]) (
       .ret)) (
       .skip))))) (
    .ops [D 42 (.bin .add (T 35) (I 1)),
     D 35 (.mv (T 42))]))))))) (
 .seq (
  .ops [D 2 (.mv (I 0))]) (
 .ret)))))⟩
theorem picture_Check_ok : Ok Tryz.prog 47 picture_Check := ⟨by kernel_rfl, by kernel_rfl⟩

/-- diorama/item.within -/
def item_within : AF := ⟨15, [.tmp 6],
 .seq (
  .ops [D 6 (.mv (.const (.bool false)))]) (
 .trim [6] (
  .ops [D 7 (.mv (T 0)),
   D 8 (.mv (T 1)),
   D 9 (.bin .geq (T 7) (T 8)),
   D 10 (.mv (T 9)),
   ⟨(some 11), some (10, true), .mv (T 0)⟩,
   ⟨(some 12), some (10, true), .mv (T 2)⟩,
   ⟨(some 13), some (10, true), .bin .leq (T 11) (T 12)⟩,
   D 14 (.pick (T 10) (T 13) (.const (.bool false))),
   D 6 (.mv (T 14))]) (
 .ret))⟩
theorem item_within_ok : Ok Tryz.prog 48 item_within := ⟨by kernel_rfl, by kernel_rfl⟩

/-- diorama/item.turned -/
def item_turned : AF := ⟨107, [.cellN 4 6],
 .seq (
  .ops [D 3 (.box (T 0)),
   D 6 (.alloc [(.int .i64 0), (.int .i64 0), (.int .i64 0), (.slice none 0 0)])]) (
 .seq (
  .ops [D 16 (.ldN 4 (T 3)),
   D 17 (.call 67 [(T 16)]),
   D 7 (.alloc [(.int .i64 0), (.int .i64 0), (.int .i64 0), (.slice none 0 0)]),
   E (.st 4 (T 7) (T 17))]) (
 .trim [2, 6, 7] (
  .seq (
   .ops [D 18 (.mv (T 1)),
    D 19 (.mv (I 0))]) (
  .block 0 (
   .loop [2, 6, 7, 18, 19] (
    .seq (
     .ops [D 20 (.bin .lss (T 19) (T 18))]) (
    .seq (
     .cond (T 20) (
      .skip) (
      .exit 0)) (
    .trim [2, 6, 7, 18, 19] (
     .block 1 (
      .trim [2, 6, 7, 8, 18, 19] (
       .ops [D 21 (.fa 1 (T 7)),
        D 22 (.ld1 (T 21)),
        D 23 (.fa 0 (T 7)),
        D 24 (.ld1 (T 23)),
        D 25 (.fa 2 (T 7)),
        D 26 (.ld1 (T 25)),
        D 27 (.fa 3 (T 7)),
        D 28 (.ld1 (T 27)),
        D 29 (.len (T 28)),
        D 30 (.call 107 [(T 22), (T 24), (T 26), (T 29)]),
        D 8 (.alloc [(.int .i64 0), (.int .i64 0), (.int .i64 0), (.slice none 0 0)]),
        E (.st 4 (T 8) (T 30))]) (
      .trim [2, 6, 7, 8, 18, 19] (
       .seq (
        .ops [D 31 (.fa 3 (T 7)),
         D 32 (.ld1 (T 31)),
         D 33 (.len (T 32)),
         D 34 (.mv (I 0))]) (
       .block 2 (
        .loop [2, 6, 7, 8, 18, 19, 32, 33, 34] (
         .seq (
          .ops [D 35 (.bin .lss (T 34) (T 33))]) (
         .seq (
          .cond (T 35) (
           .skip) (
           .exit 2)) (
         .trim [2, 6, 7, 8, 18, 19, 32, 33, 34] (
          .block 3 (
           .seq (
            .ops [D 36 (.mv (T 34)),
             D 37 (.ia 1 (T 32) (T 34)),
             D 38 (.ld1 (T 37)),
             D 9 (.mv (T 36)),
             D 10 (.mv (T 38))]) (
           .seq (
            .ops [D 39 (.fa 1 (T 8)),
             D 40 (.ld1 (T 39)),
             D 41 (.mv (I 0))]) (
           .block 4 (
            .loop [2, 6, 7, 8, 9, 10, 18, 19, 32, 33, 34, 40, 41] (
             .seq (
              .ops [D 42 (.bin .lss (T 41) (T 40))]) (
             .seq (
              .cond (T 42) (
               .skip) (
               .exit 4)) (
             .trim [2, 6, 7, 8, 9, 10, 18, 19, 32, 33, 34, 40, 41] (
              .block 5 (
               .seq (
                .ops [D 43 (.mv (T 41)),
                 D 11 (.mv (T 43))]) (
               .seq (
                .ops [D 44 (.fa 0 (T 8)),
                 D 45 (.ld1 (T 44)),
                 D 46 (.mv (I 0))]) (
               .block 6 (
                .loop [2, 6, 7, 8, 9, 10, 11, 18, 19, 32, 33, 34, 40, 41, 45, 46] (
                 .seq (
                  .ops [D 47 (.bin .lss (T 46) (T 45))]) (
                 .seq (
                  .cond (T 47) (
                   .skip) (
                   .exit 6)) (
                 .trim [2, 6, 7, 8, 9, 10, 11, 18, 19, 32, 33, 34, 40, 41, 45, 46] (
                  .block 7 (
                   .seq (
                    .ops [D 48 (.mv (T 46)),
                     D 12 (.mv (T 48))]) (
                   .draw [⟨0, 0, 0, D 49 (.fa 3 (T 8))⟩,
                    ⟨1, 1, 1, D 50 (.ld1 (T 49))⟩,
                    ⟨2, 0, 0, D 51 (.mv (T 9))⟩,
                    ⟨3, 0, 7, D 52 (.ia 1 (T 50) (T 51))⟩,
                    ⟨4, 1, 15, D 53 (.ld1 (T 52))⟩,
                    ⟨5, 0, 0, D 54 (.mv (T 11))⟩,
                    ⟨6, 0, 0, D 55 (.fa 0 (T 8))⟩,
                    ⟨7, 1, 64, D 56 (.ld1 (T 55))⟩,
                    ⟨8, 0, 224, D 57 (.bin .mul (T 54) (T 56))⟩,
                    ⟨9, 0, 0, D 58 (.mv (T 12))⟩,
                    ⟨10, 0, 992, D 59 (.bin .add (T 57) (T 58))⟩,
                    ⟨11, 0, 0, D 60 (.mv (T 10))⟩,
                    ⟨12, 0, 0, D 61 (.fa 1 (T 7))⟩,
                    ⟨13, 1, 4096, D 62 (.ld1 (T 61))⟩,
                    ⟨14, 0, 12288, D 63 (.bin .sub (T 62) (I 1))⟩,
                    ⟨15, 0, 0, D 64 (.mv (T 12))⟩,
                    ⟨16, 0, 61440, D 65 (.bin .sub (T 63) (T 64))⟩,
                    ⟨17, 0, 0, D 66 (.fa 0 (T 7))⟩,
                    ⟨18, 1, 131072, D 67 (.ld1 (T 66))⟩,
                    ⟨19, 0, 520192, D 68 (.bin .mul (T 65) (T 67))⟩,
                    ⟨20, 0, 0, D 69 (.mv (T 11))⟩,
                    ⟨21, 0, 2093056, D 70 (.bin .add (T 68) (T 69))⟩,
                    ⟨22, 0, 4192256, D 71 (.ia 1 (T 60) (T 70))⟩,
                    ⟨23, 1, 8386560, D 72 (.ld1 (T 71))⟩,
                    ⟨24, 0, 16777215, D 73 (.ia 1 (T 53) (T 59))⟩,
                    ⟨25, 4, 33554431, E (.st 1 (T 73) (T 72))⟩]))) (
                 .ops [D 74 (.bin .add (T 46) (I 1)),
                  D 46 (.mv (T 74))]))))))))) (
             .ops [D 75 (.bin .add (T 41) (I 1)),
              D 41 (.mv (T 75))]))))))))) (
         .ops [D 76 (.bin .add (T 34) (I 1)),
          D 34 (.mv (T 76))]))))))) (
      .ops [D 77 (.ldN 4 (T 8)),
       E (.st 4 (T 7) (T 77))])))) (
    .ops [D 78 (.bin .add (T 19) (I 1)),
     D 19 (.mv (T 78))]))))))) (
 .trim [6, 7] (
  .seq (
   .ops [D 79 (.mv (T 2))]) (
  .cond (T 79) (
   .seq (
    .ops [D 80 (.fa 3 (T 7)),
     D 81 (.ld1 (T 80)),
     D 82 (.len (T 81)),
     D 83 (.mv (I 0))]) (
   .block 8 (
    .loop [6, 7, 81, 82, 83] (
     .seq (
      .ops [D 84 (.bin .lss (T 83) (T 82))]) (
     .seq (
      .cond (T 84) (
       .skip) (
       .exit 8)) (
     .trim [6, 7, 81, 82, 83] (
      .block 9 (
       .seq (
        .ops [D 85 (.ia 1 (T 81) (T 83)),
         D 86 (.ld1 (T 85)),
         D 14 (.mv (T 86))]) (
       .seq (
        .ops [D 87 (.fa 1 (T 7)),
         D 88 (.ld1 (T 87)),
         D 89 (.mv (I 0))]) (
       .block 10 (
        .loop [6, 7, 14, 81, 82, 83, 88, 89] (
         .seq (
          .ops [D 90 (.bin .lss (T 89) (T 88))]) (
         .seq (
          .cond (T 90) (
           .skip) (
           .exit 10)) (
         .trim [6, 7, 14, 81, 82, 83, 88, 89] (
          .block 11 (
           .seq (
            .ops [D 91 (.mv (T 89)),
             D 15 (.mv (T 91))]) (
           .ops [D 92 (.mv (T 14)),
            D 93 (.mv (T 15)),
            D 94 (.fa 0 (T 7)),
            D 95 (.ld1 (T 94)),
            D 96 (.bin .mul (T 93) (T 95)),
            D 97 (.mv (T 15)),
            D 98 (.bin .add (T 97) (I 1)),
            D 99 (.fa 0 (T 7)),
            D 100 (.ld1 (T 99)),
            D 101 (.bin .mul (T 98) (T 100)),
            D 102 (.slc 1 (T 92) (some (T 96)) (some (T 101)) none),
            D 103 (.call 108 [(T 102)])]))) (
         .ops [D 104 (.bin .add (T 89) (I 1)),
          D 89 (.mv (T 104))]))))))))) (
     .ops [D 105 (.bin .add (T 83) (I 1)),
      D 83 (.mv (T 105))]))))))) (
   .skip))) (
 .seq (
  .ops [D 106 (.ldN 4 (T 7)),
   E (.st 4 (T 6) (T 106))]) (
 .ret)))))⟩
theorem item_turned_ok : Ok Tryz.prog 49 item_turned := ⟨by kernel_rfl, by kernel_rfl⟩

/-- diorama/dioramaref15.in -/
def dioramaref15_in : AF := ⟨15, [.tmp 6],
 .seq (
  .ops [D 6 (.mv (.const (.bool false)))]) (
 .trim [6] (
  .ops [D 7 (.mv (T 0)),
   D 8 (.mv (T 1)),
   D 9 (.bin .geq (T 7) (T 8)),
   D 10 (.mv (T 9)),
   ⟨(some 11), some (10, true), .mv (T 0)⟩,
   ⟨(some 12), some (10, true), .mv (T 2)⟩,
   ⟨(some 13), some (10, true), .bin .leq (T 11) (T 12)⟩,
   D 14 (.pick (T 10) (T 13) (.const (.bool false))),
   D 6 (.mv (T 14))]) (
 .ret))⟩
theorem dioramaref15_in_ok : Ok Tryz.prog 50 dioramaref15_in := ⟨by kernel_rfl, by kernel_rfl⟩

/-- diorama/dioramaref15.turned -/
def dioramaref15_turned : AF := ⟨127, [.cellN 4 6],
 .seq (
  .ops [D 3 (.box (T 0)),
   D 6 (.alloc [(.int .i64 0), (.int .i64 0), (.int .i64 0), (.slice none 0 0)])]) (
 .trim [2, 3, 6] (
  .seq (
   .ops [D 7 (.mv (I 0))]) (
  .block 0 (
   .loop [1, 2, 3, 6, 7] (
    .seq (
     .seq (
      .ops [D 18 (.mv (T 7)),
       D 19 (.mv (T 1)),
       D 20 (.bin .lss (T 18) (T 19))]) (
     .cond (T 20) (
      .skip) (
      .exit 0))) (
    .trim [1, 2, 3, 6, 7] (
     .block 1 (
      .trim [1, 2, 3, 6, 7, 8] (
       .ops [D 23 (.fa 1 (T 3)),
        D 24 (.ld1 (T 23)),
        D 25 (.fa 0 (T 3)),
        D 26 (.ld1 (T 25)),
        D 27 (.fa 2 (T 3)),
        D 28 (.ld1 (T 27)),
        D 29 (.build [(.int .i64 0), (.int .i64 0), (.int .i64 0), (.slice none 0 0)] [(0, 1, (T 24)), (1, 1, (T 26)), (2, 1, (T 28))]),
        D 8 (.alloc [(.int .i64 0), (.int .i64 0), (.int .i64 0), (.slice none 0 0)]),
        E (.st 4 (T 8) (T 29))]) (
      .trim [1, 2, 3, 6, 7, 8] (
       .seq (
        .ops [D 9 (.mv (I 0))]) (
       .block 2 (
        .loop [1, 2, 3, 6, 7, 8, 9] (
         .trim [1, 2, 3, 6, 7, 8, 9] (
          .seq (
           .ops [D 30 (.mv (T 9)),
            D 31 (.fa 3 (T 3)),
            D 32 (.ld1 (T 31)),
            D 33 (.len (T 32)),
            D 34 (.bin .lss (T 30) (T 33))]) (
          .cond (T 34) (
           .skip) (
           .exit 2))) (
         .trim [1, 2, 3, 6, 7, 8, 9] (
          .block 3 (
           .seq (
            .ops [D 10 (.mv (.const (.slice none 0 0)))]) (
           .trim [1, 2, 3, 6, 7, 8, 9, 10] (
            .seq (
             .ops [D 11 (.mv (I 0))]) (
            .block 4 (
             .loop [1, 2, 3, 6, 7, 8, 9, 10, 11] (
              .seq (
               .seq (
                .ops [D 37 (.mv (T 11)),
                 D 38 (.fa 0 (T 3)),
                 D 39 (.ld1 (T 38)),
                 D 40 (.bin .lss (T 37) (T 39))]) (
               .cond (T 40) (
                .skip) (
                .exit 4))) (
              .trim [1, 2, 3, 6, 7, 8, 9, 10, 11] (
               .block 5 (
                .seq (
                 .ops [D 43 (.fa 1 (T 3)),
                  D 44 (.ld1 (T 43)),
                  D 45 (.bin .sub (T 44) (I 1)),
                  D 12 (.mv (T 45))]) (
                .block 6 (
                 .loop [1, 2, 3, 6, 7, 8, 9, 10, 11, 12] (
                  .seq (
                   .seq (
                    .ops [D 46 (.mv (T 12)),
                     D 47 (.bin .geq (T 46) (I 0))]) (
                   .cond (T 47) (
                    .skip) (
                    .exit 6))) (
                  .trim [1, 2, 3, 6, 7, 8, 9, 10, 11, 12] (
                   .block 7 (
                    .draw [⟨0, 0, 0, D 50 (.mv (T 10))⟩,
                     ⟨1, 0, 0, D 51 (.fa 3 (T 3))⟩,
                     ⟨2, 1, 2, D 52 (.ld1 (T 51))⟩,
                     ⟨3, 0, 0, D 53 (.mv (T 9))⟩,
                     ⟨4, 0, 14, D 54 (.ia 1 (T 52) (T 53))⟩,
                     ⟨5, 1, 30, D 55 (.ld1 (T 54))⟩,
                     ⟨6, 0, 0, D 56 (.mv (T 12))⟩,
                     ⟨7, 0, 0, D 57 (.fa 0 (T 3))⟩,
                     ⟨8, 1, 128, D 58 (.ld1 (T 57))⟩,
                     ⟨9, 0, 448, D 59 (.bin .mul (T 56) (T 58))⟩,
                     ⟨10, 0, 0, D 60 (.mv (T 11))⟩,
                     ⟨11, 0, 1984, D 61 (.bin .add (T 59) (T 60))⟩,
                     ⟨12, 0, 4094, D 62 (.ia 1 (T 55) (T 61))⟩,
                     ⟨13, 1, 8190, D 63 (.ld1 (T 62))⟩,
                     ⟨14, 2, 16382, D 64 (.bslice [(.int .i64 0)] 1 [(0, 1, (T 63))])⟩,
                     ⟨15, 4, 32767, D 65 (.app 1 8 (T 50) (T 64))⟩,
                     ⟨16, 0, 65535, D 10 (.mv (T 65))⟩])) (
                  .ops [D 48 (.mv (T 12)),
                   D 49 (.bin .sub (T 48) (I 1)),
                   D 12 (.mv (T 49))]))))))) (
              .ops [D 41 (.mv (T 11)),
               D 42 (.bin .add (T 41) (I 1)),
               D 11 (.mv (T 42))])))))) (
           .ops [D 66 (.fa 3 (T 8)),
            D 67 (.ld1 (T 66)),
            D 68 (.mv (T 10)),
            D 69 (.bslice [(.slice none 0 0)] 1 [(0, 1, (T 68))]),
            D 70 (.app 1 24 (T 67) (T 69)),
            D 71 (.fa 3 (T 8)),
            E (.st 1 (T 71) (T 70))])))) (
         .ops [D 35 (.mv (T 9)),
          D 36 (.bin .add (T 35) (I 1)),
          D 9 (.mv (T 36))])))))) (
      .ops [D 72 (.ldN 4 (T 8)),
       E (.st 4 (T 3) (T 72))])))) (
    .ops [D 21 (.mv (T 7)),
     D 22 (.bin .add (T 21) (I 1)),
     D 7 (.mv (T 22))])))))) (
 .seq (
  .seq (
   .ops [D 73 (.mv (T 2)),
    D 74 (.un .not (T 73))]) (
  .cond (T 74) (
   .seq (
    .ops [D 75 (.ldN 4 (T 3)),
     D 76 (.call 24 [(T 75)]),
     E (.st 4 (T 6) (T 76))]) (
   .ret)) (
   .skip))) (
 .trim [3, 6, 13] (
  .ops [D 77 (.fa 0 (T 3)),
   D 78 (.ld1 (T 77)),
   D 79 (.fa 1 (T 3)),
   D 80 (.ld1 (T 79)),
   D 81 (.fa 2 (T 3)),
   D 82 (.ld1 (T 81)),
   D 83 (.build [(.int .i64 0), (.int .i64 0), (.int .i64 0), (.slice none 0 0)] [(0, 1, (T 78)), (1, 1, (T 80)), (2, 1, (T 82))]),
   D 13 (.alloc [(.int .i64 0), (.int .i64 0), (.int .i64 0), (.slice none 0 0)]),
   E (.st 4 (T 13) (T 83))]) (
 .trim [6, 13] (
  .seq (
   .ops [D 14 (.mv (I 0))]) (
  .block 8 (
   .loop [3, 6, 13, 14] (
    .trim [3, 6, 13, 14] (
     .seq (
      .ops [D 84 (.mv (T 14)),
       D 85 (.fa 3 (T 3)),
       D 86 (.ld1 (T 85)),
       D 87 (.len (T 86)),
       D 88 (.bin .lss (T 84) (T 87))]) (
     .cond (T 88) (
      .skip) (
      .exit 8))) (
    .trim [3, 6, 13, 14] (
     .block 9 (
      .seq (
       .ops [D 15 (.mv (.const (.slice none 0 0)))]) (
      .trim [3, 6, 13, 14, 15] (
       .seq (
        .ops [D 16 (.mv (I 0))]) (
       .block 10 (
        .loop [3, 6, 13, 14, 15, 16] (
         .seq (
          .seq (
           .ops [D 91 (.mv (T 16)),
            D 92 (.fa 1 (T 3)),
            D 93 (.ld1 (T 92)),
            D 94 (.bin .lss (T 91) (T 93))]) (
          .cond (T 94) (
           .skip) (
           .exit 10))) (
         .trim [3, 6, 13, 14, 15, 16] (
          .block 11 (
           .seq (
            .ops [D 97 (.fa 0 (T 3)),
             D 98 (.ld1 (T 97)),
             D 99 (.bin .sub (T 98) (I 1)),
             D 17 (.mv (T 99))]) (
           .block 12 (
            .loop [3, 6, 13, 14, 15, 16, 17] (
             .seq (
              .seq (
               .ops [D 100 (.mv (T 17)),
                D 101 (.bin .geq (T 100) (I 0))]) (
              .cond (T 101) (
               .skip) (
               .exit 12))) (
             .trim [3, 6, 13, 14, 15, 16, 17] (
              .block 13 (
               .draw [⟨0, 0, 0, D 104 (.mv (T 15))⟩,
                ⟨1, 0, 0, D 105 (.fa 3 (T 3))⟩,
                ⟨2, 1, 2, D 106 (.ld1 (T 105))⟩,
                ⟨3, 0, 0, D 107 (.mv (T 14))⟩,
                ⟨4, 0, 14, D 108 (.ia 1 (T 106) (T 107))⟩,
                ⟨5, 1, 30, D 109 (.ld1 (T 108))⟩,
                ⟨6, 0, 0, D 110 (.mv (T 16))⟩,
                ⟨7, 0, 0, D 111 (.fa 0 (T 3))⟩,
                ⟨8, 1, 128, D 112 (.ld1 (T 111))⟩,
                ⟨9, 0, 448, D 113 (.bin .mul (T 110) (T 112))⟩,
                ⟨10, 0, 0, D 114 (.mv (T 17))⟩,
                ⟨11, 0, 1984, D 115 (.bin .add (T 113) (T 114))⟩,
                ⟨12, 0, 4094, D 116 (.ia 1 (T 109) (T 115))⟩,
                ⟨13, 1, 8190, D 117 (.ld1 (T 116))⟩,
                ⟨14, 2, 16382, D 118 (.bslice [(.int .i64 0)] 1 [(0, 1, (T 117))])⟩,
                ⟨15, 4, 32767, D 119 (.app 1 8 (T 104) (T 118))⟩,
                ⟨16, 0, 65535, D 15 (.mv (T 119))⟩])) (
             .ops [D 102 (.mv (T 17)),
              D 103 (.bin .sub (T 102) (I 1)),
              D 17 (.mv (T 103))]))))))) (
         .ops [D 95 (.mv (T 16)),
          D 96 (.bin .add (T 95) (I 1)),
          D 16 (.mv (T 96))])))))) (
      .ops [D 120 (.fa 3 (T 13)),
       D 121 (.ld1 (T 120)),
       D 122 (.mv (T 15)),
       D 123 (.bslice [(.slice none 0 0)] 1 [(0, 1, (T 122))]),
       D 124 (.app 1 24 (T 121) (T 123)),
       D 125 (.fa 3 (T 13)),
       E (.st 1 (T 125) (T 124))])))) (
    .ops [D 89 (.mv (T 14)),
     D 90 (.bin .add (T 89) (I 1)),
     D 14 (.mv (T 90))])))))) (
 .seq (
  .ops [D 126 (.ldN 4 (T 13)),
   E (.st 4 (T 6) (T 126))]) (
 .ret))))))⟩
theorem dioramaref15_turned_ok : Ok Tryz.prog 51 dioramaref15_turned := ⟨by kernel_rfl, by kernel_rfl⟩

/-- diorama/dioramaref00.EqRows -/
def dioramaref00_EqRows : AF := ⟨27, [.tmp 4],
 .seq (
  .ops [D 4 (.mv (.const (.bool false)))]) (
 .trim [0, 1] (
  .seq (
   .ops [D 6 (.mv (T 0)),
    D 7 (.len (T 6)),
    D 8 (.mv (T 1)),
    D 9 (.len (T 8)),
    D 10 (.bin .neq (T 7) (T 9))]) (
  .cond (T 10) (
   .seq (
    .ops [D 4 (.mv (.const (.bool false)))]) (
   .ret)) (
   .skip))) (
 .trim [] (
  .seq (
   .ops [D 5 (.mv (I 0))]) (
  .block 0 (
   .loop [0, 1, 5] (
    .seq (
     .seq (
      .ops [D 11 (.mv (T 5)),
       D 12 (.mv (T 0)),
       D 13 (.len (T 12)),
       D 14 (.bin .lss (T 11) (T 13))]) (
     .cond (T 14) (
      .skip) (
      .exit 0))) (
    .trim [0, 1, 5] (
     .block 1 (
      .trim [0, 1, 5, 26] (
       .draw [⟨0, 0, 0, D 17 (.mv (T 0))⟩,
        ⟨1, 0, 0, D 18 (.mv (T 5))⟩,
        ⟨2, 0, 3, D 19 (.ia 1 (T 17) (T 18))⟩,
        ⟨3, 1, 7, D 20 (.ld1 (T 19))⟩,
        ⟨4, 0, 0, D 21 (.mv (T 1))⟩,
        ⟨5, 0, 0, D 22 (.mv (T 5))⟩,
        ⟨6, 0, 48, D 23 (.ia 1 (T 21) (T 22))⟩,
        ⟨7, 1, 112, D 24 (.ld1 (T 23))⟩,
        ⟨8, 4, 255, D 25 (.call 23 [(T 20), (T 24)])⟩,
        ⟨9, 0, 511, D 26 (.un .not (T 25))⟩]) (
      .cond (T 26) (
       .seq (
        .ops [D 4 (.mv (.const (.bool false)))]) (
       .ret)) (
       .skip)))) (
    .ops [D 15 (.mv (T 5)),
     D 16 (.bin .add (T 15) (I 1)),
     D 5 (.mv (T 16))])))))) (
 .seq (
  .ops [D 4 (.mv (.const (.bool true)))]) (
 .ret))))⟩
theorem dioramaref00_EqRows_ok : Ok Tryz.prog 52 dioramaref00_EqRows := ⟨by kernel_rfl, by kernel_rfl⟩

/-- diorama/item.ranges -/
def item_ranges : AF := ⟨106, [.tmp 2],
 .seq (
  .ops [D 1 (.box (T 0)),
   D 2 (.mv (.const (.bool false)))]) (
 .trim [1] (
  .trim [1, 20] (
   .ops [D 5 (.fa 0 (T 1)),
    D 6 (.ld1 (T 5)),
    D 7 (.call 48 [(T 6), (I 1), (I 1000)]),
    D 8 (.un .not (T 7)),
    D 9 (.mv (T 8)),
    ⟨(some 10), some (9, false), .fa 1 (T 1)⟩,
    ⟨(some 11), some (9, false), .ld1 (T 10)⟩,
    ⟨(some 12), some (9, false), .call 48 [(T 11), (I 0), (I 3)]⟩,
    ⟨(some 13), some (9, false), .un .not (T 12)⟩,
    D 14 (.pick (T 9) (.const (.bool true)) (T 13)),
    D 15 (.mv (T 14)),
    ⟨(some 16), some (15, false), .fa 10 (T 1)⟩,
    ⟨(some 17), some (15, false), .ld1 (T 16)⟩,
    ⟨(some 18), some (15, false), .call 48 [(T 17), (I 0), (I 3)]⟩,
    ⟨(some 19), some (15, false), .un .not (T 18)⟩,
    D 20 (.pick (T 15) (.const (.bool true)) (T 19))]) (
  .cond (T 20) (
   .seq (
    .ops [D 2 (.mv (.const (.bool false)))]) (
   .ret)) (
   .skip))) (
 .trim [] (
  .seq (
   .ops [D 21 (.fa 1 (T 1)),
    D 22 (.ld1 (T 21))]) (
  .block 0 (
   .seq (
    .ops [D 24 (.bin .eql (T 22) (I 1)),
     D 23 (.mv (T 24))]) (
   .cond (T 23) (
    .seq (
     .ops [D 25 (.fa 3 (T 1)),
      D 26 (.ld1 (T 25)),
      D 27 (.len (T 26)),
      D 28 (.bin .eql (T 27) (I 1)),
      D 2 (.mv (T 28))]) (
    .ret)) (
    .seq (
     .ops [D 30 (.bin .eql (T 22) (I 2)),
      D 29 (.mv (T 30))]) (
    .cond (T 29) (
     .seq (
      .ops [D 3 (.mv (.func 109))]) (
     .seq (
      .ops [D 4 (.mv (.func 110))]) (
     .trim [2] (
      .ops [D 31 (.fa 7 (T 1)),
       D 32 (.ld1 (T 31)),
       D 33 (.call 70 [(T 32)]),
       D 34 (.mv (T 33)),
       ⟨(some 35), some (34, true), .fa 8 (T 1)⟩,
       ⟨(some 36), some (34, true), .ld1 (T 35)⟩,
       ⟨(some 37), some (34, true), .call 70 [(T 36)]⟩,
       D 38 (.pick (T 34) (T 37) (.const (.bool false))),
       D 39 (.mv (T 38)),
       ⟨(some 40), some (39, true), .fa 9 (T 1)⟩,
       ⟨(some 41), some (39, true), .ld1 (T 40)⟩,
       ⟨(some 42), some (39, true), .len (T 41)⟩,
       ⟨(some 43), some (39, true), .call 48 [(T 42), (I 1), (I 4)]⟩,
       D 44 (.pick (T 39) (T 43) (.const (.bool false))),
       D 45 (.mv (T 44)),
       ⟨(some 46), some (45, true), .fa 9 (T 1)⟩,
       ⟨(some 47), some (45, true), .ld1 (T 46)⟩,
       ⟨(some 48), some (45, true), .mv (T 3)⟩,
       ⟨(some 49), some (45, true), .call 56 [(T 47), (T 48)]⟩,
       ⟨(some 50), some (45, true), .un .not (T 49)⟩,
       D 51 (.pick (T 45) (T 50) (.const (.bool false))),
       D 52 (.mv (T 51)),
       ⟨(some 53), some (52, true), .fa 3 (T 1)⟩,
       ⟨(some 54), some (52, true), .ld1 (T 53)⟩,
       ⟨(some 55), some (52, true), .len (T 54)⟩,
       ⟨(some 56), some (52, true), .bin .leq (T 55) (I 8)⟩,
       D 57 (.pick (T 52) (T 56) (.const (.bool false))),
       D 58 (.mv (T 57)),
       ⟨(some 59), some (58, true), .fa 4 (T 1)⟩,
       ⟨(some 60), some (58, true), .ld1 (T 59)⟩,
       ⟨(some 61), some (58, true), .len (T 60)⟩,
       ⟨(some 62), some (58, true), .fa 3 (T 1)⟩,
       ⟨(some 63), some (58, true), .ld1 (T 62)⟩,
       ⟨(some 64), some (58, true), .len (T 63)⟩,
       ⟨(some 65), some (58, true), .bin .mul (I 2) (T 64)⟩,
       ⟨(some 66), some (58, true), .bin .eql (T 61) (T 65)⟩,
       D 67 (.pick (T 58) (T 66) (.const (.bool false))),
       D 68 (.mv (T 67)),
       ⟨(some 69), some (68, true), .fa 4 (T 1)⟩,
       ⟨(some 70), some (68, true), .ld1 (T 69)⟩,
       ⟨(some 71), some (68, true), .mv (T 4)⟩,
       ⟨(some 72), some (68, true), .call 56 [(T 70), (T 71)]⟩,
       ⟨(some 73), some (68, true), .un .not (T 72)⟩,
       D 74 (.pick (T 68) (T 73) (.const (.bool false))),
       D 2 (.mv (T 74))]) (
     .ret)))) (
     .seq (
      .ops [D 76 (.bin .eql (T 22) (I 3)),
       D 75 (.mv (T 76))]) (
     .cond (T 75) (
      .trim [2] (
       .ops [D 77 (.fa 7 (T 1)),
        D 78 (.ld1 (T 77)),
        D 79 (.call 70 [(T 78)]),
        D 80 (.mv (T 79)),
        ⟨(some 81), some (80, true), .fa 8 (T 1)⟩,
        ⟨(some 82), some (80, true), .ld1 (T 81)⟩,
        ⟨(some 83), some (80, true), .call 70 [(T 82)]⟩,
        D 84 (.pick (T 80) (T 83) (.const (.bool false))),
        D 85 (.mv (T 84)),
        ⟨(some 86), some (85, true), .fa 5 (T 1)⟩,
        ⟨(some 87), some (85, true), .ld1 (T 86)⟩,
        ⟨(some 88), some (85, true), .call 48 [(T 87), (I 1), (I 8)]⟩,
        D 89 (.pick (T 85) (T 88) (.const (.bool false))),
        D 90 (.mv (T 89)),
        ⟨(some 91), some (90, true), .fa 6 (T 1)⟩,
        ⟨(some 92), some (90, true), .ld1 (T 91)⟩,
        ⟨(some 93), some (90, true), .call 48 [(T 92), (I 1), (I 8)]⟩,
        D 94 (.pick (T 90) (T 93) (.const (.bool false))),
        D 95 (.mv (T 94)),
        ⟨(some 96), some (95, true), .fa 3 (T 1)⟩,
        ⟨(some 97), some (95, true), .ld1 (T 96)⟩,
        ⟨(some 98), some (95, true), .len (T 97)⟩,
        ⟨(some 99), some (95, true), .fa 5 (T 1)⟩,
        ⟨(some 100), some (95, true), .ld1 (T 99)⟩,
        ⟨(some 101), some (95, true), .fa 6 (T 1)⟩,
        ⟨(some 102), some (95, true), .ld1 (T 101)⟩,
        ⟨(some 103), some (95, true), .bin .mul (T 100) (T 102)⟩,
        ⟨(some 104), some (95, true), .bin .eql (T 98) (T 103)⟩,
        D 105 (.pick (T 95) (T 104) (.const (.bool false))),
        D 2 (.mv (T 105))]) (
      .ret)) (
      .skip))))))))) (
 .seq (
  .ops [D 2 (.mv (.const (.bool true)))]) (
 .ret))))⟩
theorem item_ranges_ok : Ok Tryz.prog 53 item_ranges := ⟨by kernel_rfl, by kernel_rfl⟩

/-- diorama/item.unused -/
def item_unused : AF := ⟨80, [.tmp 2],
 .seq (
  .ops [D 1 (.box (T 0)),
   D 2 (.mv (.const (.bool false)))]) (
 .trim [1, 3] (
  .ops [D 6 (.fa 5 (T 1)),
   D 7 (.ld1 (T 6)),
   D 8 (.bin .eql (T 7) (I 0)),
   D 9 (.mv (T 8)),
   ⟨(some 10), some (9, true), .fa 6 (T 1)⟩,
   ⟨(some 11), some (9, true), .ld1 (T 10)⟩,
   ⟨(some 12), some (9, true), .bin .eql (T 11) (I 0)⟩,
   D 13 (.pick (T 9) (T 12) (.const (.bool false))),
   D 3 (.mv (T 13))]) (
 .trim [1, 3, 4] (
  .ops [D 14 (.fa 4 (T 1)),
   D 15 (.ld1 (T 14)),
   D 16 (.len (T 15)),
   D 17 (.bin .eql (T 16) (I 0)),
   D 18 (.mv (T 17)),
   ⟨(some 19), some (18, true), .fa 9 (T 1)⟩,
   ⟨(some 20), some (18, true), .ld1 (T 19)⟩,
   ⟨(some 21), some (18, true), .len (T 20)⟩,
   ⟨(some 22), some (18, true), .bin .eql (T 21) (I 0)⟩,
   D 23 (.pick (T 18) (T 22) (.const (.bool false))),
   D 4 (.mv (T 23))]) (
 .trim [1, 3, 4, 5] (
  .ops [D 24 (.fa 7 (T 1)),
   D 25 (.ld1 (T 24)),
   D 26 (.bin .eql (T 25) (I 0)),
   D 27 (.mv (T 26)),
   ⟨(some 28), some (27, true), .fa 8 (T 1)⟩,
   ⟨(some 29), some (27, true), .ld1 (T 28)⟩,
   ⟨(some 30), some (27, true), .bin .eql (T 29) (I 0)⟩,
   D 31 (.pick (T 27) (T 30) (.const (.bool false))),
   D 5 (.mv (T 31))]) (
 .trim [1, 4] (
  .seq (
   .ops [D 32 (.fa 1 (T 1)),
    D 33 (.ld1 (T 32))]) (
  .block 0 (
   .seq (
    .ops [D 35 (.bin .eql (T 33) (I 0)),
     D 34 (.mv (T 35))]) (
   .cond (T 34) (
    .trim [2] (
     .ops [D 36 (.fa 3 (T 1)),
      D 37 (.ld1 (T 36)),
      D 38 (.len (T 37)),
      D 39 (.bin .eql (T 38) (I 0)),
      D 40 (.mv (T 39)),
      ⟨(some 41), some (40, true), .mv (T 3)⟩,
      D 42 (.pick (T 40) (T 41) (.const (.bool false))),
      D 43 (.mv (T 42)),
      ⟨(some 44), some (43, true), .mv (T 4)⟩,
      D 45 (.pick (T 43) (T 44) (.const (.bool false))),
      D 46 (.mv (T 45)),
      ⟨(some 47), some (46, true), .mv (T 5)⟩,
      D 48 (.pick (T 46) (T 47) (.const (.bool false))),
      D 2 (.mv (T 48))]) (
    .ret)) (
    .seq (
     .ops [D 50 (.bin .eql (T 33) (I 1)),
      D 49 (.mv (T 50))]) (
    .cond (T 49) (
     .trim [2] (
      .ops [D 51 (.fa 2 (T 1)),
       D 52 (.ld1 (T 51)),
       D 53 (.len (T 52)),
       D 54 (.bin .eql (T 53) (I 0)),
       D 55 (.mv (T 54)),
       ⟨(some 56), some (55, true), .mv (T 3)⟩,
       D 57 (.pick (T 55) (T 56) (.const (.bool false))),
       D 58 (.mv (T 57)),
       ⟨(some 59), some (58, true), .mv (T 4)⟩,
       D 60 (.pick (T 58) (T 59) (.const (.bool false))),
       D 61 (.mv (T 60)),
       ⟨(some 62), some (61, true), .mv (T 5)⟩,
       D 63 (.pick (T 61) (T 62) (.const (.bool false))),
       D 2 (.mv (T 63))]) (
     .ret)) (
     .seq (
      .ops [D 65 (.bin .eql (T 33) (I 2)),
       D 64 (.mv (T 65))]) (
     .cond (T 64) (
      .trim [2] (
       .ops [D 66 (.fa 2 (T 1)),
        D 67 (.ld1 (T 66)),
        D 68 (.len (T 67)),
        D 69 (.bin .eql (T 68) (I 0)),
        D 70 (.mv (T 69)),
        ⟨(some 71), some (70, true), .mv (T 3)⟩,
        D 72 (.pick (T 70) (T 71) (.const (.bool false))),
        D 2 (.mv (T 72))]) (
      .ret)) (
      .skip))))))))) (
 .trim [2] (
  .ops [D 73 (.fa 2 (T 1)),
   D 74 (.ld1 (T 73)),
   D 75 (.len (T 74)),
   D 76 (.bin .eql (T 75) (I 0)),
   D 77 (.mv (T 76)),
   ⟨(some 78), some (77, true), .mv (T 4)⟩,
   D 79 (.pick (T 77) (T 78) (.const (.bool false))),
   D 2 (.mv (T 79))]) (
 .ret))))))⟩
theorem item_unused_ok : Ok Tryz.prog 54 item_unused := ⟨by kernel_rfl, by kernel_rfl⟩

/-- diorama/item.find -/
def item_find : AF := ⟨8, [.tmp 4],
 .seq (
  .ops [D 3 (.box (T 1)),
   D 4 (.mv (I 0))]) (
 .seq (
  .ops [D 5 (.mv (T 0)),
   D 6 (.mkf 112 [] [(T 3)]),
   D 7 (.call 111 [(T 5), (T 6)]),
   D 4 (.mv (T 7))]) (
 .ret))⟩
theorem item_find_ok : Ok Tryz.prog 55 item_find := ⟨by kernel_rfl, by kernel_rfl⟩

/-- slices.ContainsFunc[[]int,int] -/
def slices_ContainsFunc___int_int_ : AF := ⟨9, [.tmp 4],
 .seq (
  .ops [D 4 (.mv (.const (.bool false)))]) (
 .seq (
  .ops [D 5 (.mv (T 0)),
   D 6 (.mv (T 1)),
   D 7 (.call 113 [(T 5), (T 6)]),
   D 8 (.bin .geq (T 7) (I 0)),
   D 4 (.mv (T 8))]) (
 .ret))⟩
theorem slices_ContainsFunc___int_int__ok : Ok Tryz.prog 56 slices_ContainsFunc___int_int_ := ⟨by kernel_rfl, by kernel_rfl⟩

/-- diorama/item.Check$1 -/
def item_Check_1 : AF := ⟨8, [.tmp 3],
 .seq (
  .ops [D 3 (.mv (.const (.bool false)))]) (
 .seq (
  .ops [D 4 (.ld1 (T 1)),
   D 5 (.mv (T 0)),
   D 6 (.call 55 [(T 4), (T 5)]),
   D 7 (.bin .lss (T 6) (I 0)),
   D 3 (.mv (T 7))]) (
 .ret))⟩
theorem item_Check_1_ok : Ok Tryz.prog 57 item_Check_1 := ⟨by kernel_rfl, by kernel_rfl⟩

/-- diorama/item.loops -/
def item_loops : AF := ⟨14, [.tmp 4],
 .seq (
  .ops [D 2 (.box (T 0)),
   D 3 (.box (T 1)),
   D 4 (.mv (.const (.bool false)))]) (
 .seq (
  .ops [D 7 (.ld1 (T 2)),
   D 8 (.len (T 7)),
   D 9 (.mks [(.bool false)] 1 (T 8) (T 8)),
   D 5 (.alloc [(.slice none 0 0)]),
   E (.st 1 (T 5) (T 9))]) (
 .seq (
  .ops [D 6 (.alloc [.nilFunc])]) (
 .seq (
  .ops [D 10 (.mkf 114 [] [(T 2), (T 3), (T 5), (T 6)]),
   E (.st 1 (T 6) (T 10))]) (
 .seq (
  .ops [D 11 (.ld1 (T 6)),
   D 12 (.ld1 (T 3)),
   D 13 (.callv (T 11) [(T 12)]),
   D 4 (.mv (T 13))]) (
 .ret)))))⟩
theorem item_loops_ok : Ok Tryz.prog 58 item_loops := ⟨by kernel_rfl, by kernel_rfl⟩

end Go.Proofs.YtmkcngcnedjfkaaGreat.Af
