/- The functions of the program in the abstract machine's words, printed by a program of ours; each is the program's by the kernel's reckoning.
   Conditions: none. -/
import Derived.Test.YtmkcngcnedjfkaaGreatBun1
import Derived.Test.YtmkcngcnedjfkaaGreatAmZb
import Derived.IntWalk
namespace Go.Proofs.YtmkcngcnedjfkaaGreat.Af
open Go Go.RowKit Go.Proofs.YtmkcngcnedjfkaaGreat.Am
/-- diorama/dioramaref15.ranges -/
def dioramaref15_ranges : AF := ⟨95, [.tmp 2],
 .seq (
  .ops [D 1 (.box (T 0)),
   D 2 (.mv (.const (.bool false)))]) (
 .trim [1] (
  .trim [1, 19] (
   .ops [D 4 (.fa 0 (T 1)),
    D 5 (.ld1 (T 4)),
    D 6 (.call 50 [(T 5), (I 1), (I 1000)]),
    D 7 (.un .not (T 6)),
    D 8 (.mv (T 7)),
    ⟨(some 9), some (8, false), .fa 1 (T 1)⟩,
    ⟨(some 10), some (8, false), .ld1 (T 9)⟩,
    ⟨(some 11), some (8, false), .call 50 [(T 10), (I 0), (I 3)]⟩,
    ⟨(some 12), some (8, false), .un .not (T 11)⟩,
    D 13 (.pick (T 8) (.const (.bool true)) (T 12)),
    D 14 (.mv (T 13)),
    ⟨(some 15), some (14, false), .fa 10 (T 1)⟩,
    ⟨(some 16), some (14, false), .ld1 (T 15)⟩,
    ⟨(some 17), some (14, false), .call 50 [(T 16), (I 0), (I 3)]⟩,
    ⟨(some 18), some (14, false), .un .not (T 17)⟩,
    D 19 (.pick (T 14) (.const (.bool true)) (T 18))]) (
  .cond (T 19) (
   .seq (
    .ops [D 2 (.mv (.const (.bool false)))]) (
   .ret)) (
   .skip))) (
 .trim [1, 3] (
  .ops [D 20 (.fa 7 (T 1)),
   D 21 (.ld1 (T 20)),
   D 22 (.call 50 [(T 21), (I 1), (I 64)]),
   D 23 (.mv (T 22)),
   ⟨(some 24), some (23, true), .fa 8 (T 1)⟩,
   ⟨(some 25), some (23, true), .ld1 (T 24)⟩,
   ⟨(some 26), some (23, true), .call 50 [(T 25), (I 1), (I 64)]⟩,
   D 27 (.pick (T 23) (T 26) (.const (.bool false))),
   D 3 (.mv (T 27))]) (
 .trim [] (
  .seq (
   .ops [D 28 (.fa 1 (T 1)),
    D 29 (.ld1 (T 28))]) (
  .block 0 (
   .seq (
    .ops [D 31 (.bin .eql (T 29) (I 1)),
     D 30 (.mv (T 31))]) (
   .cond (T 30) (
    .seq (
     .ops [D 32 (.fa 3 (T 1)),
      D 33 (.ld1 (T 32)),
      D 34 (.len (T 33)),
      D 35 (.bin .eql (T 34) (I 1)),
      D 2 (.mv (T 35))]) (
    .ret)) (
    .seq (
     .ops [D 37 (.bin .eql (T 29) (I 2)),
      D 36 (.mv (T 37))]) (
    .cond (T 36) (
     .trim [2] (
      .ops [D 38 (.mv (T 3)),
       D 39 (.mv (T 38)),
       ⟨(some 40), some (39, true), .fa 9 (T 1)⟩,
       ⟨(some 41), some (39, true), .ld1 (T 40)⟩,
       ⟨(some 42), some (39, true), .len (T 41)⟩,
       ⟨(some 43), some (39, true), .call 50 [(T 42), (I 1), (I 4)]⟩,
       D 44 (.pick (T 39) (T 43) (.const (.bool false))),
       D 45 (.mv (T 44)),
       ⟨(some 46), some (45, true), .fa 9 (T 1)⟩,
       ⟨(some 47), some (45, true), .ld1 (T 46)⟩,
       ⟨(some 48), some (45, true), .call 115 [(T 47), (I 0), (I 4095)]⟩,
       D 49 (.pick (T 45) (T 48) (.const (.bool false))),
       D 50 (.mv (T 49)),
       ⟨(some 51), some (50, true), .fa 3 (T 1)⟩,
       ⟨(some 52), some (50, true), .ld1 (T 51)⟩,
       ⟨(some 53), some (50, true), .len (T 52)⟩,
       ⟨(some 54), some (50, true), .bin .leq (T 53) (I 8)⟩,
       D 55 (.pick (T 50) (T 54) (.const (.bool false))),
       D 56 (.mv (T 55)),
       ⟨(some 57), some (56, true), .fa 4 (T 1)⟩,
       ⟨(some 58), some (56, true), .ld1 (T 57)⟩,
       ⟨(some 59), some (56, true), .len (T 58)⟩,
       ⟨(some 60), some (56, true), .fa 3 (T 1)⟩,
       ⟨(some 61), some (56, true), .ld1 (T 60)⟩,
       ⟨(some 62), some (56, true), .len (T 61)⟩,
       ⟨(some 63), some (56, true), .bin .mul (I 2) (T 62)⟩,
       ⟨(some 64), some (56, true), .bin .eql (T 59) (T 63)⟩,
       D 65 (.pick (T 56) (T 64) (.const (.bool false))),
       D 66 (.mv (T 65)),
       ⟨(some 67), some (66, true), .fa 4 (T 1)⟩,
       ⟨(some 68), some (66, true), .ld1 (T 67)⟩,
       ⟨(some 69), some (66, true), .call 115 [(T 68), (I (-64)), (I 64)]⟩,
       D 70 (.pick (T 66) (T 69) (.const (.bool false))),
       D 2 (.mv (T 70))]) (
     .ret)) (
     .seq (
      .ops [D 72 (.bin .eql (T 29) (I 3)),
       D 71 (.mv (T 72))]) (
     .cond (T 71) (
      .trim [2] (
       .ops [D 73 (.mv (T 3)),
        D 74 (.mv (T 73)),
        ⟨(some 75), some (74, true), .fa 5 (T 1)⟩,
        ⟨(some 76), some (74, true), .ld1 (T 75)⟩,
        ⟨(some 77), some (74, true), .call 50 [(T 76), (I 1), (I 8)]⟩,
        D 78 (.pick (T 74) (T 77) (.const (.bool false))),
        D 79 (.mv (T 78)),
        ⟨(some 80), some (79, true), .fa 6 (T 1)⟩,
        ⟨(some 81), some (79, true), .ld1 (T 80)⟩,
        ⟨(some 82), some (79, true), .call 50 [(T 81), (I 1), (I 8)]⟩,
        D 83 (.pick (T 79) (T 82) (.const (.bool false))),
        D 84 (.mv (T 83)),
        ⟨(some 85), some (84, true), .fa 3 (T 1)⟩,
        ⟨(some 86), some (84, true), .ld1 (T 85)⟩,
        ⟨(some 87), some (84, true), .len (T 86)⟩,
        ⟨(some 88), some (84, true), .fa 5 (T 1)⟩,
        ⟨(some 89), some (84, true), .ld1 (T 88)⟩,
        ⟨(some 90), some (84, true), .fa 6 (T 1)⟩,
        ⟨(some 91), some (84, true), .ld1 (T 90)⟩,
        ⟨(some 92), some (84, true), .bin .mul (T 89) (T 91)⟩,
        ⟨(some 93), some (84, true), .bin .eql (T 87) (T 92)⟩,
        D 94 (.pick (T 84) (T 93) (.const (.bool false))),
        D 2 (.mv (T 94))]) (
      .ret)) (
      .skip))))))))) (
 .seq (
  .ops [D 2 (.mv (.const (.bool true)))]) (
 .ret)))))⟩
theorem dioramaref15_ranges_ok : Ok Tryz.prog 59 dioramaref15_ranges := ⟨by kernel_rfl, by kernel_rfl⟩

/-- diorama/dioramaref15.clean -/
def dioramaref15_clean : AF := ⟨77, [.tmp 2],
 .seq (
  .ops [D 1 (.box (T 0)),
   D 2 (.mv (.const (.bool false)))]) (
 .trim [1] (
  .trim [1, 28] (
   .ops [D 3 (.fa 2 (T 1)),
    D 4 (.ld1 (T 3)),
    D 5 (.len (T 4)),
    D 6 (.bin .gtr (T 5) (I 65536)),
    D 7 (.mv (T 6)),
    ⟨(some 8), some (7, false), .fa 1 (T 1)⟩,
    ⟨(some 9), some (7, false), .ld1 (T 8)⟩,
    ⟨(some 10), some (7, false), .bin .neq (T 9) (I 0)⟩,
    ⟨(some 11), some (7, false), .mv (T 10)⟩,
    ⟨(some 12), some (11, true), .fa 2 (T 1)⟩,
    ⟨(some 13), some (11, true), .ld1 (T 12)⟩,
    ⟨(some 14), some (11, true), .len (T 13)⟩,
    ⟨(some 15), some (11, true), .bin .gtr (T 14) (I 0)⟩,
    ⟨(some 16), some (7, false), .pick (T 11) (T 15) (.const (.bool false))⟩,
    D 17 (.pick (T 7) (.const (.bool true)) (T 16)),
    D 18 (.mv (T 17)),
    ⟨(some 19), some (18, false), .fa 1 (T 1)⟩,
    ⟨(some 20), some (18, false), .ld1 (T 19)⟩,
    ⟨(some 21), some (18, false), .bin .eql (T 20) (I 0)⟩,
    ⟨(some 22), some (18, false), .mv (T 21)⟩,
    ⟨(some 23), some (22, true), .fa 3 (T 1)⟩,
    ⟨(some 24), some (22, true), .ld1 (T 23)⟩,
    ⟨(some 25), some (22, true), .len (T 24)⟩,
    ⟨(some 26), some (22, true), .bin .gtr (T 25) (I 0)⟩,
    ⟨(some 27), some (18, false), .pick (T 22) (T 26) (.const (.bool false))⟩,
    D 28 (.pick (T 18) (.const (.bool true)) (T 27))]) (
  .cond (T 28) (
   .seq (
    .ops [D 2 (.mv (.const (.bool false)))]) (
   .ret)) (
   .skip))) (
 .trim [1] (
  .trim [1, 58] (
   .ops [D 29 (.fa 1 (T 1)),
    D 30 (.ld1 (T 29)),
    D 31 (.bin .neq (T 30) (I 2)),
    D 32 (.mv (T 31)),
    ⟨(some 33), some (32, true), .fa 4 (T 1)⟩,
    ⟨(some 34), some (32, true), .ld1 (T 33)⟩,
    ⟨(some 35), some (32, true), .len (T 34)⟩,
    ⟨(some 36), some (32, true), .bin .gtr (T 35) (I 0)⟩,
    ⟨(some 37), some (32, true), .mv (T 36)⟩,
    ⟨(some 38), some (37, false), .fa 9 (T 1)⟩,
    ⟨(some 39), some (37, false), .ld1 (T 38)⟩,
    ⟨(some 40), some (37, false), .len (T 39)⟩,
    ⟨(some 41), some (37, false), .bin .gtr (T 40) (I 0)⟩,
    ⟨(some 42), some (32, true), .pick (T 37) (.const (.bool true)) (T 41)⟩,
    D 43 (.pick (T 32) (T 42) (.const (.bool false))),
    D 44 (.mv (T 43)),
    ⟨(some 45), some (44, false), .fa 1 (T 1)⟩,
    ⟨(some 46), some (44, false), .ld1 (T 45)⟩,
    ⟨(some 47), some (44, false), .bin .neq (T 46) (I 3)⟩,
    ⟨(some 48), some (44, false), .mv (T 47)⟩,
    ⟨(some 49), some (48, true), .fa 5 (T 1)⟩,
    ⟨(some 50), some (48, true), .ld1 (T 49)⟩,
    ⟨(some 51), some (48, true), .bin .neq (T 50) (I 0)⟩,
    ⟨(some 52), some (48, true), .mv (T 51)⟩,
    ⟨(some 53), some (52, false), .fa 6 (T 1)⟩,
    ⟨(some 54), some (52, false), .ld1 (T 53)⟩,
    ⟨(some 55), some (52, false), .bin .neq (T 54) (I 0)⟩,
    ⟨(some 56), some (48, true), .pick (T 52) (.const (.bool true)) (T 55)⟩,
    ⟨(some 57), some (44, false), .pick (T 48) (T 56) (.const (.bool false))⟩,
    D 58 (.pick (T 44) (.const (.bool true)) (T 57))]) (
  .cond (T 58) (
   .seq (
    .ops [D 2 (.mv (.const (.bool false)))]) (
   .ret)) (
   .skip))) (
 .trim [2] (
  .ops [D 59 (.fa 1 (T 1)),
   D 60 (.ld1 (T 59)),
   D 61 (.bin .eql (T 60) (I 2)),
   D 62 (.mv (T 61)),
   ⟨(some 63), some (62, false), .fa 1 (T 1)⟩,
   ⟨(some 64), some (62, false), .ld1 (T 63)⟩,
   ⟨(some 65), some (62, false), .bin .eql (T 64) (I 3)⟩,
   D 66 (.pick (T 62) (.const (.bool true)) (T 65)),
   D 67 (.mv (T 66)),
   ⟨(some 68), some (67, false), .fa 7 (T 1)⟩,
   ⟨(some 69), some (67, false), .ld1 (T 68)⟩,
   ⟨(some 70), some (67, false), .bin .eql (T 69) (I 0)⟩,
   ⟨(some 71), some (67, false), .mv (T 70)⟩,
   ⟨(some 72), some (71, true), .fa 8 (T 1)⟩,
   ⟨(some 73), some (71, true), .ld1 (T 72)⟩,
   ⟨(some 74), some (71, true), .bin .eql (T 73) (I 0)⟩,
   ⟨(some 75), some (67, false), .pick (T 71) (T 74) (.const (.bool false))⟩,
   D 76 (.pick (T 67) (.const (.bool true)) (T 75)),
   D 2 (.mv (T 76))]) (
 .ret))))⟩
theorem dioramaref15_clean_ok : Ok Tryz.prog 60 dioramaref15_clean := ⟨by kernel_rfl, by kernel_rfl⟩

/-- diorama/dioramaref15.find -/
def dioramaref15_find : AF := ⟨20, [.tmp 4],
 .seq (
  .ops [D 4 (.mv (I 0))]) (
 .trim [] (
  .seq (
   .ops [D 5 (.mv (I 0))]) (
  .block 0 (
   .loop [0, 1, 5] (
    .seq (
     .seq (
      .ops [D 6 (.mv (T 5)),
       D 7 (.mv (T 0)),
       D 8 (.len (T 7)),
       D 9 (.bin .lss (T 6) (T 8))]) (
     .cond (T 9) (
      .skip) (
      .exit 0))) (
    .trim [0, 1, 5] (
     .block 1 (
      .trim [0, 1, 5, 18] (
       .ops [D 12 (.mv (T 0)),
        D 13 (.mv (T 5)),
        D 14 (.ia 12 (T 12) (T 13)),
        D 15 (.fa 0 (T 14)),
        D 16 (.ld1 (T 15)),
        D 17 (.mv (T 1)),
        D 18 (.bin .eql (T 16) (T 17))]) (
      .cond (T 18) (
       .seq (
        .ops [D 19 (.mv (T 5)),
         D 4 (.mv (T 19))]) (
       .ret)) (
       .skip)))) (
    .ops [D 10 (.mv (T 5)),
     D 11 (.bin .add (T 10) (I 1)),
     D 5 (.mv (T 11))])))))) (
 .seq (
  .ops [D 4 (.mv (I (-1)))]) (
 .ret)))⟩
theorem dioramaref15_find_ok : Ok Tryz.prog 61 dioramaref15_find := ⟨by kernel_rfl, by kernel_rfl⟩

/-- diorama/dioramaref15.reached -/
def dioramaref15_reached : AF := ⟨56, [.tmp 4],
 .seq (
  .ops [D 4 (.mv (.const (.slice none 0 0)))]) (
 .seq (
  .ops [D 10 (.mv (T 0)),
   D 11 (.len (T 10)),
   D 12 (.mks [(.bool false)] 1 (T 11) (T 11)),
   D 5 (.mv (T 12))]) (
 .seq (
  .ops [D 13 (.mv (T 1)),
   D 14 (.bslice [(.int .i64 0)] 1 [(0, 1, (T 13))]),
   D 6 (.mv (T 14))]) (
 .trim [5] (
  .block 0 (
   .loop [0, 5, 6] (
    .seq (
     .seq (
      .ops [D 15 (.mv (T 6)),
       D 16 (.len (T 15)),
       D 17 (.bin .gtr (T 16) (I 0))]) (
     .cond (T 17) (
      .skip) (
      .exit 0))) (
    .block 1 (
     .seq (
      .ops [D 18 (.mv (T 6)),
       D 19 (.ia 1 (T 18) (I 0)),
       D 20 (.ld1 (T 19)),
       D 7 (.mv (T 20))]) (
     .seq (
      .ops [D 21 (.mv (T 6)),
       D 22 (.slc 1 (T 21) (some (I 1)) none none),
       D 6 (.mv (T 22))]) (
     .seq (
      .ops [D 8 (.mv (I 0))]) (
     .block 2 (
      .loop [0, 5, 6, 7, 8] (
       .trim [0, 5, 6, 7, 8] (
        .trim [0, 5, 6, 7, 8, 30] (
         .ops [D 23 (.mv (T 8)),
          D 24 (.mv (T 0)),
          D 25 (.mv (T 7)),
          D 26 (.ia 12 (T 24) (T 25)),
          D 27 (.fa 3 (T 26)),
          D 28 (.ld1 (T 27)),
          D 29 (.len (T 28)),
          D 30 (.bin .lss (T 23) (T 29))]) (
        .cond (T 30) (
         .skip) (
         .exit 2))) (
       .trim [0, 5, 6, 7, 8] (
        .block 3 (
         .trim [0, 5, 6, 7, 8, 9] (
          .ops [D 33 (.mv (T 0)),
           D 34 (.mv (T 0)),
           D 35 (.mv (T 7)),
           D 36 (.ia 12 (T 34) (T 35)),
           D 37 (.fa 3 (T 36)),
           D 38 (.ld1 (T 37)),
           D 39 (.mv (T 8)),
           D 40 (.ia 1 (T 38) (T 39)),
           D 41 (.ld1 (T 40)),
           D 42 (.call 61 [(T 33), (T 41)]),
           D 9 (.mv (T 42))]) (
         .seq (
          .ops [D 43 (.mv (T 5)),
           D 44 (.mv (T 9)),
           D 45 (.ia 1 (T 43) (T 44)),
           D 46 (.ld1 (T 45)),
           D 47 (.un .not (T 46))]) (
         .cond (T 47) (
          .seq (
           .ops [D 48 (.mv (T 5)),
            D 49 (.mv (T 9)),
            D 50 (.ia 1 (T 48) (T 49)),
            E (.st 1 (T 50) (.const (.bool true)))]) (
          .ops [D 51 (.mv (T 6)),
           D 52 (.mv (T 9)),
           D 53 (.bslice [(.int .i64 0)] 1 [(0, 1, (T 52))]),
           D 54 (.app 1 8 (T 51) (T 53)),
           D 6 (.mv (T 54))])) (
          .skip))))) (
       .ops [D 31 (.mv (T 8)),
        D 32 (.bin .add (T 31) (I 1)),
        D 8 (.mv (T 32))])))))))))))) (
 .seq (
  .ops [D 55 (.mv (T 5)),
   D 4 (.mv (T 55))]) (
 .ret)))))⟩
theorem dioramaref15_reached_ok : Ok Tryz.prog 62 dioramaref15_reached := ⟨by kernel_rfl, by kernel_rfl⟩

/-- diorama/item.ready -/
def item_ready : AF := ⟨23, [.tmp 4, .tmp 5],
 .seq (
  .ops [D 4 (.mv (I 0)),
   D 5 (.mv (I 0))]) (
 .trim [0, 1] (
  .trim [0, 1, 6] (
   .ops [D 10 (.mv (T 0)),
    D 11 (.call 19 [(T 10)]),
    D 9 (.mv (T 11)),
    D 12 (.ext (T 9) 0),
    D 13 (.ext (T 9) 1),
    D 6 (.mv (T 12)),
    D 7 (.mv (T 13))]) (
  .seq (
   .ops [D 14 (.mv (T 6)),
    D 15 (.bin .neq (T 14) (I 0))]) (
  .cond (T 15) (
   .seq (
    .ops [D 16 (.mv (T 6)),
     D 4 (.mv (I 0)),
     D 5 (.mv (T 16))]) (
   .ret)) (
   .skip)))) (
 .seq (
  .ops [D 17 (.mv (T 0)),
   D 18 (.mv (T 1)),
   D 19 (.call 55 [(T 17), (T 18)]),
   D 8 (.mv (T 19))]) (
 .seq (
  .seq (
   .ops [D 20 (.mv (T 8)),
    D 21 (.bin .lss (T 20) (I 0))]) (
  .cond (T 21) (
   .seq (
    .ops [D 4 (.mv (I 0)),
     D 5 (.mv (I 5))]) (
   .ret)) (
   .skip))) (
 .seq (
  .ops [D 22 (.mv (T 8)),
   D 4 (.mv (T 22)),
   D 5 (.mv (I 0))]) (
 .ret)))))⟩
theorem item_ready_ok : Ok Tryz.prog 63 item_ready := ⟨by kernel_rfl, by kernel_rfl⟩

/-- diorama/item.order -/
def item_order : AF := ⟨12, [.tmp 4],
 .seq (
  .ops [D 2 (.box (T 0)),
   D 4 (.mv (.const (.slice none 0 0)))]) (
 .seq (
  .ops [D 5 (.alloc [(.slice none 0 0)])]) (
 .seq (
  .ops [D 6 (.alloc [.nilFunc])]) (
 .seq (
  .ops [D 7 (.mkf 116 [] [(T 5), (T 2), (T 6)]),
   E (.st 1 (T 6) (T 7))]) (
 .seq (
  .ops [D 8 (.ld1 (T 6)),
   D 9 (.mv (T 1)),
   D 10 (.callv (T 8) [(T 9)])]) (
 .seq (
  .ops [D 11 (.ld1 (T 5)),
   D 4 (.mv (T 11))]) (
 .ret))))))⟩
theorem item_order_ok : Ok Tryz.prog 64 item_order := ⟨by kernel_rfl, by kernel_rfl⟩

/-- diorama/dioramaref15.asked -/
def dioramaref15_asked : AF := ⟨25, [.tmp 4, .tmp 5],
 .seq (
  .ops [D 4 (.mv (.const (.slice none 0 0))),
   D 5 (.mv (I 0))]) (
 .trim [0, 1, 6] (
  .ops [D 10 (.mv (T 0)),
   D 11 (.call 20 [(T 10)]),
   D 9 (.mv (T 11)),
   D 12 (.ext (T 9) 0),
   D 13 (.ext (T 9) 1),
   D 6 (.mv (T 12)),
   D 7 (.mv (T 13))]) (
 .trim [0, 1] (
  .seq (
   .ops [D 14 (.mv (T 6)),
    D 15 (.bin .neq (T 14) (I 0))]) (
  .cond (T 15) (
   .seq (
    .ops [D 16 (.mv (T 6)),
     D 4 (.mv (.const (.slice none 0 0))),
     D 5 (.mv (T 16))]) (
   .ret)) (
   .skip))) (
 .seq (
  .ops [D 17 (.mv (T 0)),
   D 18 (.mv (T 1)),
   D 19 (.call 61 [(T 17), (T 18)]),
   D 8 (.mv (T 19))]) (
 .seq (
  .seq (
   .ops [D 20 (.mv (T 8)),
    D 21 (.bin .lss (T 20) (I 0))]) (
  .cond (T 21) (
   .seq (
    .ops [D 4 (.mv (.const (.slice none 0 0))),
     D 5 (.mv (I 5))]) (
   .ret)) (
   .skip))) (
 .seq (
  .ops [D 22 (.mv (T 0)),
   D 23 (.mv (T 8)),
   D 24 (.call 118 [(T 22), (T 23), (.const (.slice none 0 0))]),
   D 4 (.mv (T 24)),
   D 5 (.mv (I 0))]) (
 .ret))))))⟩
theorem dioramaref15_asked_ok : Ok Tryz.prog 65 dioramaref15_asked := ⟨by kernel_rfl, by kernel_rfl⟩

/-- diorama/dioramaref00.CopyRows -/
def dioramaref00_CopyRows : AF := ⟨23, [.tmp 2],
 .seq (
  .ops [D 2 (.mv (.const (.slice none 0 0)))]) (
 .seq (
  .ops [D 5 (.mv (T 0)),
   D 6 (.len (T 5)),
   D 7 (.mks [(.slice none 0 0)] 24 (I 0) (T 6)),
   D 3 (.mv (T 7))]) (
 .trim [3] (
  .seq (
   .ops [D 4 (.mv (I 0))]) (
  .block 0 (
   .loop [0, 3, 4] (
    .seq (
     .seq (
      .ops [D 8 (.mv (T 4)),
       D 9 (.mv (T 0)),
       D 10 (.len (T 9)),
       D 11 (.bin .lss (T 8) (T 10))]) (
     .cond (T 11) (
      .skip) (
      .exit 0))) (
    .trim [0, 3, 4] (
     .block 1 (
      .ops [D 14 (.mv (T 3)),
       D 15 (.mv (T 0)),
       D 16 (.mv (T 4)),
       D 17 (.ia 1 (T 15) (T 16)),
       D 18 (.ld1 (T 17)),
       D 19 (.call 88 [(T 18)]),
       D 20 (.bslice [(.slice none 0 0)] 1 [(0, 1, (T 19))]),
       D 21 (.app 1 24 (T 14) (T 20)),
       D 3 (.mv (T 21))])) (
    .ops [D 12 (.mv (T 4)),
     D 13 (.bin .add (T 12) (I 1)),
     D 4 (.mv (T 13))])))))) (
 .seq (
  .ops [D 22 (.mv (T 3)),
   D 2 (.mv (T 22))]) (
 .ret))))⟩
theorem dioramaref00_CopyRows_ok : Ok Tryz.prog 66 dioramaref00_CopyRows := ⟨by kernel_rfl, by kernel_rfl⟩

/-- diorama/item.clone -/
def item_clone : AF := ⟨26, [.cellN 4 2],
 .seq (
  .ops [D 1 (.box (T 0)),
   D 2 (.alloc [(.int .i64 0), (.int .i64 0), (.int .i64 0), (.slice none 0 0)])]) (
 .seq (
  .ops [D 4 (.fa 3 (T 1)),
   D 5 (.ld1 (T 4)),
   D 6 (.call 119 [(T 5)]),
   D 7 (.fa 3 (T 1)),
   E (.st 1 (T 7) (T 6))]) (
 .trim [1, 2] (
  .seq (
   .ops [D 8 (.fa 3 (T 1)),
    D 9 (.ld1 (T 8)),
    D 10 (.len (T 9)),
    D 11 (.mv (I 0))]) (
  .block 0 (
   .loop [1, 2, 10, 11] (
    .seq (
     .ops [D 12 (.bin .lss (T 11) (T 10))]) (
    .seq (
     .cond (T 12) (
      .skip) (
      .exit 0)) (
    .trim [1, 2, 10, 11] (
     .block 1 (
      .seq (
       .ops [D 13 (.mv (T 11)),
        D 3 (.mv (T 13))]) (
      .draw [⟨0, 0, 0, D 14 (.fa 3 (T 1))⟩,
       ⟨1, 1, 1, D 15 (.ld1 (T 14))⟩,
       ⟨2, 0, 0, D 16 (.mv (T 3))⟩,
       ⟨3, 0, 0, D 17 (.fa 3 (T 1))⟩,
       ⟨4, 1, 8, D 18 (.ld1 (T 17))⟩,
       ⟨5, 0, 0, D 19 (.mv (T 3))⟩,
       ⟨6, 0, 56, D 20 (.ia 1 (T 18) (T 19))⟩,
       ⟨7, 1, 120, D 21 (.ld1 (T 20))⟩,
       ⟨8, 4, 248, D 22 (.call 120 [(T 21)])⟩,
       ⟨9, 0, 511, D 23 (.ia 1 (T 15) (T 16))⟩,
       ⟨10, 4, 1023, E (.st 1 (T 23) (T 22))⟩]))) (
    .ops [D 24 (.bin .add (T 11) (I 1)),
     D 11 (.mv (T 24))]))))))) (
 .seq (
  .ops [D 25 (.ldN 4 (T 1)),
   E (.st 4 (T 2) (T 25))]) (
 .ret))))⟩
theorem item_clone_ok : Ok Tryz.prog 67 item_clone := ⟨by kernel_rfl, by kernel_rfl⟩

/-- diorama/item.put -/
def item_put : AF := ⟨75, [],
 .seq (
  .ops [D 4 (.box (T 0)),
   D 5 (.box (T 1))]) (
 .seq (
  .ops [D 11 (.fa 3 (T 5)),
   D 12 (.ld1 (T 11)),
   D 13 (.len (T 12)),
   D 14 (.mv (I 0))]) (
 .block 0 (
  .loop [2, 3, 4, 5, 13, 14] (
   .seq (
    .ops [D 15 (.bin .lss (T 14) (T 13))]) (
   .seq (
    .cond (T 15) (
     .skip) (
     .exit 0)) (
   .trim [2, 3, 4, 5, 13, 14] (
    .block 1 (
     .seq (
      .ops [D 16 (.mv (T 14)),
       D 8 (.mv (T 16))]) (
     .seq (
      .ops [D 17 (.fa 1 (T 5)),
       D 18 (.ld1 (T 17)),
       D 19 (.mv (I 0))]) (
     .block 2 (
      .loop [2, 3, 4, 5, 8, 13, 14, 18, 19] (
       .seq (
        .ops [D 20 (.bin .lss (T 19) (T 18))]) (
       .seq (
        .cond (T 20) (
         .skip) (
         .exit 2)) (
       .trim [2, 3, 4, 5, 8, 13, 14, 18, 19] (
        .block 3 (
         .seq (
          .ops [D 21 (.mv (T 19)),
           D 9 (.mv (T 21))]) (
         .seq (
          .ops [D 22 (.fa 0 (T 5)),
           D 23 (.ld1 (T 22)),
           D 24 (.mv (I 0))]) (
         .block 4 (
          .loop [2, 3, 4, 5, 8, 9, 13, 14, 18, 19, 23, 24] (
           .seq (
            .ops [D 25 (.bin .lss (T 24) (T 23))]) (
           .seq (
            .cond (T 25) (
             .skip) (
             .exit 4)) (
           .trim [2, 3, 4, 5, 8, 9, 13, 14, 18, 19, 23, 24] (
            .block 5 (
             .seq (
              .ops [D 26 (.mv (T 24)),
               D 10 (.mv (T 26))]) (
             .trim [2, 3, 4, 5, 8, 9, 10, 13, 14, 18, 19, 23, 24, 42] (
              .ops [D 27 (.mv (T 2)),
               D 28 (.mv (T 10)),
               D 29 (.bin .add (T 27) (T 28)),
               D 30 (.fa 0 (T 4)),
               D 31 (.ld1 (T 30)),
               D 32 (.bin .sub (T 31) (I 1)),
               D 33 (.call 48 [(T 29), (I 0), (T 32)]),
               D 34 (.mv (T 33)),
               ⟨(some 35), some (34, true), .mv (T 3)⟩,
               ⟨(some 36), some (34, true), .mv (T 9)⟩,
               ⟨(some 37), some (34, true), .bin .add (T 35) (T 36)⟩,
               ⟨(some 38), some (34, true), .fa 1 (T 4)⟩,
               ⟨(some 39), some (34, true), .ld1 (T 38)⟩,
               ⟨(some 40), some (34, true), .bin .sub (T 39) (I 1)⟩,
               ⟨(some 41), some (34, true), .call 48 [(T 37), (I 0), (T 40)]⟩,
               D 42 (.pick (T 34) (T 41) (.const (.bool false)))]) (
             .cond (T 42) (
              .draw [⟨0, 0, 0, D 43 (.fa 3 (T 4))⟩,
               ⟨1, 1, 1, D 44 (.ld1 (T 43))⟩,
               ⟨2, 0, 0, D 45 (.mv (T 8))⟩,
               ⟨3, 0, 7, D 46 (.ia 1 (T 44) (T 45))⟩,
               ⟨4, 1, 15, D 47 (.ld1 (T 46))⟩,
               ⟨5, 0, 0, D 48 (.mv (T 3))⟩,
               ⟨6, 0, 0, D 49 (.mv (T 9))⟩,
               ⟨7, 0, 96, D 50 (.bin .add (T 48) (T 49))⟩,
               ⟨8, 0, 0, D 51 (.fa 0 (T 4))⟩,
               ⟨9, 1, 256, D 52 (.ld1 (T 51))⟩,
               ⟨10, 0, 992, D 53 (.bin .mul (T 50) (T 52))⟩,
               ⟨11, 0, 0, D 54 (.mv (T 2))⟩,
               ⟨12, 0, 4064, D 55 (.bin .add (T 53) (T 54))⟩,
               ⟨13, 0, 0, D 56 (.mv (T 10))⟩,
               ⟨14, 0, 16352, D 57 (.bin .add (T 55) (T 56))⟩,
               ⟨15, 0, 0, D 58 (.fa 3 (T 5))⟩,
               ⟨16, 1, 32768, D 59 (.ld1 (T 58))⟩,
               ⟨17, 0, 0, D 60 (.mv (T 8))⟩,
               ⟨18, 0, 229376, D 61 (.ia 1 (T 59) (T 60))⟩,
               ⟨19, 1, 491520, D 62 (.ld1 (T 61))⟩,
               ⟨20, 0, 0, D 63 (.mv (T 9))⟩,
               ⟨21, 0, 0, D 64 (.fa 0 (T 5))⟩,
               ⟨22, 1, 2097152, D 65 (.ld1 (T 64))⟩,
               ⟨23, 0, 7340032, D 66 (.bin .mul (T 63) (T 65))⟩,
               ⟨24, 0, 0, D 67 (.mv (T 10))⟩,
               ⟨25, 0, 32505856, D 68 (.bin .add (T 66) (T 67))⟩,
               ⟨26, 0, 67076096, D 69 (.ia 1 (T 62) (T 68))⟩,
               ⟨27, 1, 134184960, D 70 (.ld1 (T 69))⟩,
               ⟨28, 0, 268435455, D 71 (.ia 1 (T 47) (T 57))⟩,
               ⟨29, 4, 536870911, E (.st 1 (T 71) (T 70))⟩]) (
              .skip))))) (
           .ops [D 72 (.bin .add (T 24) (I 1)),
            D 24 (.mv (T 72))]))))))))) (
       .ops [D 73 (.bin .add (T 19) (I 1)),
        D 19 (.mv (T 73))]))))))))) (
   .ops [D 74 (.bin .add (T 14) (I 1)),
    D 14 (.mv (T 74))])))))))⟩
theorem item_put_ok : Ok Tryz.prog 68 item_put := ⟨by kernel_rfl, by kernel_rfl⟩

/-- diorama/dioramaref15.drawn -/
def dioramaref15_drawn : AF := ⟨83, [.cellN 4 8],
 .seq (
  .ops [D 4 (.box (T 0)),
   D 5 (.box (T 1)),
   D 8 (.alloc [(.int .i64 0), (.int .i64 0), (.int .i64 0), (.slice none 0 0)])]) (
 .seq (
  .ops [D 14 (.ldN 4 (T 4)),
   D 15 (.call 24 [(T 14)]),
   D 9 (.alloc [(.int .i64 0), (.int .i64 0), (.int .i64 0), (.slice none 0 0)]),
   E (.st 4 (T 9) (T 15))]) (
 .trim [8, 9] (
  .seq (
   .ops [D 10 (.mv (I 0))]) (
  .block 0 (
   .loop [2, 3, 5, 8, 9, 10] (
    .trim [2, 3, 5, 8, 9, 10] (
     .seq (
      .ops [D 16 (.mv (T 10)),
       D 17 (.fa 3 (T 5)),
       D 18 (.ld1 (T 17)),
       D 19 (.len (T 18)),
       D 20 (.bin .lss (T 16) (T 19))]) (
     .cond (T 20) (
      .skip) (
      .exit 0))) (
    .trim [2, 3, 5, 8, 9, 10] (
     .block 1 (
      .seq (
       .ops [D 11 (.mv (I 0))]) (
      .block 2 (
       .loop [2, 3, 5, 8, 9, 10, 11] (
        .trim [2, 3, 5, 8, 9, 10, 11] (
         .trim [2, 3, 5, 8, 9, 10, 11, 29] (
          .ops [D 23 (.mv (T 11)),
           D 24 (.fa 0 (T 5)),
           D 25 (.ld1 (T 24)),
           D 26 (.fa 1 (T 5)),
           D 27 (.ld1 (T 26)),
           D 28 (.bin .mul (T 25) (T 27)),
           D 29 (.bin .lss (T 23) (T 28))]) (
         .cond (T 29) (
          .skip) (
          .exit 2))) (
        .trim [2, 3, 5, 8, 9, 10, 11] (
         .block 3 (
          .trim [2, 3, 5, 8, 9, 10, 11, 12, 13] (
           .draw [⟨0, 0, 0, D 32 (.mv (T 2))⟩,
            ⟨1, 0, 0, D 33 (.mv (T 11))⟩,
            ⟨2, 0, 0, D 34 (.fa 0 (T 5))⟩,
            ⟨3, 1, 4, D 35 (.ld1 (T 34))⟩,
            ⟨4, 0, 14, D 36 (.bin .rem (T 33) (T 35))⟩,
            ⟨5, 0, 31, D 37 (.bin .add (T 32) (T 36))⟩,
            ⟨6, 0, 0, D 38 (.mv (T 3))⟩,
            ⟨7, 0, 0, D 39 (.mv (T 11))⟩,
            ⟨8, 0, 0, D 40 (.fa 0 (T 5))⟩,
            ⟨9, 1, 256, D 41 (.ld1 (T 40))⟩,
            ⟨10, 0, 896, D 42 (.bin .quo (T 39) (T 41))⟩,
            ⟨11, 0, 1984, D 43 (.bin .add (T 38) (T 42))⟩,
            ⟨12, 0, 63, D 12 (.mv (T 37))⟩,
            ⟨13, 0, 8191, D 13 (.mv (T 43))⟩]) (
          .trim [2, 3, 5, 8, 9, 10, 11, 12, 13, 61] (
           .ops [D 44 (.mv (T 12)),
            D 45 (.bin .geq (T 44) (I 0)),
            D 46 (.mv (T 45)),
            ⟨(some 47), some (46, true), .mv (T 12)⟩,
            ⟨(some 48), some (46, true), .fa 0 (T 9)⟩,
            ⟨(some 49), some (46, true), .ld1 (T 48)⟩,
            ⟨(some 50), some (46, true), .bin .lss (T 47) (T 49)⟩,
            D 51 (.pick (T 46) (T 50) (.const (.bool false))),
            D 52 (.mv (T 51)),
            ⟨(some 53), some (52, true), .mv (T 13)⟩,
            ⟨(some 54), some (52, true), .bin .geq (T 53) (I 0)⟩,
            D 55 (.pick (T 52) (T 54) (.const (.bool false))),
            D 56 (.mv (T 55)),
            ⟨(some 57), some (56, true), .mv (T 13)⟩,
            ⟨(some 58), some (56, true), .fa 1 (T 9)⟩,
            ⟨(some 59), some (56, true), .ld1 (T 58)⟩,
            ⟨(some 60), some (56, true), .bin .lss (T 57) (T 59)⟩,
            D 61 (.pick (T 56) (T 60) (.const (.bool false)))]) (
          .cond (T 61) (
           .draw [⟨0, 0, 0, D 62 (.fa 3 (T 9))⟩,
            ⟨1, 1, 1, D 63 (.ld1 (T 62))⟩,
            ⟨2, 0, 0, D 64 (.mv (T 10))⟩,
            ⟨3, 0, 7, D 65 (.ia 1 (T 63) (T 64))⟩,
            ⟨4, 1, 15, D 66 (.ld1 (T 65))⟩,
            ⟨5, 0, 0, D 67 (.mv (T 13))⟩,
            ⟨6, 0, 0, D 68 (.fa 0 (T 9))⟩,
            ⟨7, 1, 64, D 69 (.ld1 (T 68))⟩,
            ⟨8, 0, 224, D 70 (.bin .mul (T 67) (T 69))⟩,
            ⟨9, 0, 0, D 71 (.mv (T 12))⟩,
            ⟨10, 0, 992, D 72 (.bin .add (T 70) (T 71))⟩,
            ⟨11, 0, 0, D 73 (.fa 3 (T 5))⟩,
            ⟨12, 1, 2048, D 74 (.ld1 (T 73))⟩,
            ⟨13, 0, 0, D 75 (.mv (T 10))⟩,
            ⟨14, 0, 14336, D 76 (.ia 1 (T 74) (T 75))⟩,
            ⟨15, 1, 30720, D 77 (.ld1 (T 76))⟩,
            ⟨16, 0, 0, D 78 (.mv (T 11))⟩,
            ⟨17, 0, 129024, D 79 (.ia 1 (T 77) (T 78))⟩,
            ⟨18, 1, 260096, D 80 (.ld1 (T 79))⟩,
            ⟨19, 0, 524287, D 81 (.ia 1 (T 66) (T 72))⟩,
            ⟨20, 4, 1048575, E (.st 1 (T 81) (T 80))⟩]) (
           .skip))))) (
        .ops [D 30 (.mv (T 11)),
         D 31 (.bin .add (T 30) (I 1)),
         D 11 (.mv (T 31))]))))))) (
    .ops [D 21 (.mv (T 10)),
     D 22 (.bin .add (T 21) (I 1)),
     D 10 (.mv (T 22))])))))) (
 .seq (
  .ops [D 82 (.ldN 4 (T 9)),
   E (.st 4 (T 8) (T 82))]) (
 .ret))))⟩
theorem dioramaref15_drawn_ok : Ok Tryz.prog 69 dioramaref15_drawn := ⟨by kernel_rfl, by kernel_rfl⟩

/-- diorama/item.side -/
def item_side : AF := ⟨5, [.tmp 2],
 .seq (
  .ops [D 2 (.mv (.const (.bool false)))]) (
 .seq (
  .ops [D 3 (.mv (T 0)),
   D 4 (.call 48 [(T 3), (I 1), (I 64)]),
   D 2 (.mv (T 4))]) (
 .ret))⟩
theorem item_side_ok : Ok Tryz.prog 70 item_side := ⟨by kernel_rfl, by kernel_rfl⟩

/-- diorama/item.shapeOf -/
def item_shapeOf : AF := ⟨13, [.cellN 4 2],
 .seq (
  .ops [D 1 (.box (T 0)),
   D 2 (.alloc [(.int .i64 0), (.int .i64 0), (.int .i64 0), (.int .i64 0)])]) (
 .trim [2] (
  .ops [D 3 (.fa 0 (T 1)),
   D 4 (.ld1 (T 3)),
   D 5 (.fa 1 (T 1)),
   D 6 (.ld1 (T 5)),
   D 7 (.fa 2 (T 1)),
   D 8 (.ld1 (T 7)),
   D 9 (.fa 3 (T 1)),
   D 10 (.ld1 (T 9)),
   D 11 (.len (T 10)),
   D 12 (.build [(.int .i64 0), (.int .i64 0), (.int .i64 0), (.int .i64 0)] [(0, 1, (T 4)), (1, 1, (T 6)), (2, 1, (T 8)), (3, 1, (T 11))]),
   E (.st 4 (T 2) (T 12))]) (
 .ret))⟩
theorem item_shapeOf_ok : Ok Tryz.prog 71 item_shapeOf := ⟨by kernel_rfl, by kernel_rfl⟩

/-- diorama/item.gridShape -/
def item_gridShape : AF := ⟨71, [.cellN 4 10, .tmp 11],
 .seq (
  .ops [D 10 (.alloc [(.int .i64 0), (.int .i64 0), (.int .i64 0), (.int .i64 0)]),
   D 11 (.mv (I 0))]) (
 .trim [0, 1, 2, 3, 4, 10] (
  .seq (
   .ops [D 15 (.mv (T 0)),
    D 16 (.len (T 15)),
    D 17 (.mv (I 0))]) (
  .block 0 (
   .loop [0, 1, 2, 3, 4, 10, 15, 16, 17] (
    .seq (
     .ops [D 18 (.bin .lss (T 17) (T 16))]) (
    .seq (
     .cond (T 18) (
      .skip) (
      .exit 0)) (
    .trim [0, 1, 2, 3, 4, 10, 15, 16, 17] (
     .block 1 (
      .seq (
       .ops [D 19 (.ia 4 (T 15) (T 17)),
        D 20 (.ldN 4 (T 19)),
        D 13 (.alloc [(.int .i64 0), (.int .i64 0), (.int .i64 0), (.int .i64 0)]),
        E (.st 4 (T 13) (T 20))]) (
      .seq (
       .draw [⟨0, 1, 0, D 21 (.ldN 4 (T 13))⟩,
        ⟨1, 0, 0, D 22 (.mv (T 0))⟩,
        ⟨2, 0, 2, D 23 (.ia 4 (T 22) (I 0))⟩,
        ⟨3, 1, 6, D 24 (.ldN 4 (T 23))⟩,
        ⟨4, 0, 15, D 25 (.eqa true [1, 1, 1, 1] (T 21) (T 24))⟩]) (
      .cond (T 25) (
       .seq (
        .ops [D 26 (.build [(.int .i64 0), (.int .i64 0), (.int .i64 0), (.int .i64 0)] []),
         E (.st 4 (T 10) (T 26)),
         D 11 (.mv (I 151))]) (
       .ret)) (
       .skip))))) (
    .ops [D 27 (.bin .add (T 17) (I 1)),
     D 17 (.mv (T 27))]))))))) (
 .seq (
  .ops [D 28 (.mv (T 0)),
   D 29 (.ia 4 (T 28) (I 0)),
   D 30 (.ldN 4 (T 29)),
   D 14 (.alloc [(.int .i64 0), (.int .i64 0), (.int .i64 0), (.int .i64 0)]),
   E (.st 4 (T 14) (T 30))]) (
 .trim [3, 4, 10, 14] (
  .trim [3, 4, 10, 14, 62] (
   .ops [D 31 (.mv (T 3)),
    D 32 (.mv (T 2)),
    D 33 (.bin .sub (T 32) (I 1)),
    D 34 (.fa 0 (T 14)),
    D 35 (.ld1 (T 34)),
    D 36 (.bin .mul (T 33) (T 35)),
    D 37 (.bin .leq (T 31) (T 36)),
    D 38 (.mv (T 37)),
    ⟨(some 39), some (38, false), .mv (T 3)⟩,
    ⟨(some 40), some (38, false), .mv (T 2)⟩,
    ⟨(some 41), some (38, false), .fa 0 (T 14)⟩,
    ⟨(some 42), some (38, false), .ld1 (T 41)⟩,
    ⟨(some 43), some (38, false), .bin .mul (T 40) (T 42)⟩,
    ⟨(some 44), some (38, false), .bin .gtr (T 39) (T 43)⟩,
    D 45 (.pick (T 38) (.const (.bool true)) (T 44)),
    D 46 (.mv (T 45)),
    ⟨(some 47), some (46, false), .mv (T 4)⟩,
    ⟨(some 48), some (46, false), .mv (T 1)⟩,
    ⟨(some 49), some (46, false), .bin .sub (T 48) (I 1)⟩,
    ⟨(some 50), some (46, false), .fa 1 (T 14)⟩,
    ⟨(some 51), some (46, false), .ld1 (T 50)⟩,
    ⟨(some 52), some (46, false), .bin .mul (T 49) (T 51)⟩,
    ⟨(some 53), some (46, false), .bin .leq (T 47) (T 52)⟩,
    D 54 (.pick (T 46) (.const (.bool true)) (T 53)),
    D 55 (.mv (T 54)),
    ⟨(some 56), some (55, false), .mv (T 4)⟩,
    ⟨(some 57), some (55, false), .mv (T 1)⟩,
    ⟨(some 58), some (55, false), .fa 1 (T 14)⟩,
    ⟨(some 59), some (55, false), .ld1 (T 58)⟩,
    ⟨(some 60), some (55, false), .bin .mul (T 57) (T 59)⟩,
    ⟨(some 61), some (55, false), .bin .gtr (T 56) (T 60)⟩,
    D 62 (.pick (T 55) (.const (.bool true)) (T 61))]) (
  .cond (T 62) (
   .seq (
    .ops [D 63 (.build [(.int .i64 0), (.int .i64 0), (.int .i64 0), (.int .i64 0)] []),
     E (.st 4 (T 10) (T 63)),
     D 11 (.mv (I 151))]) (
   .ret)) (
   .skip))) (
 .trim [10, 11] (
  .ops [D 64 (.mv (T 3)),
   D 65 (.mv (T 4)),
   D 66 (.fa 2 (T 14)),
   D 67 (.ld1 (T 66)),
   D 68 (.fa 3 (T 14)),
   D 69 (.ld1 (T 68)),
   D 70 (.build [(.int .i64 0), (.int .i64 0), (.int .i64 0), (.int .i64 0)] [(0, 1, (T 64)), (1, 1, (T 65)), (2, 1, (T 67)), (3, 1, (T 69))]),
   E (.st 4 (T 10) (T 70)),
   D 11 (.mv (I 0))]) (
 .ret)))))⟩
theorem item_gridShape_ok : Ok Tryz.prog 72 item_gridShape := ⟨by kernel_rfl, by kernel_rfl⟩

/-- diorama/item.tiled -/
def item_tiled : AF := ⟨48, [.cellN 4 8],
 .seq (
  .ops [D 8 (.alloc [(.int .i64 0), (.int .i64 0), (.int .i64 0), (.slice none 0 0)])]) (
 .trim [0, 1, 8, 9] (
  .draw [⟨0, 0, 0, D 12 (.mv (T 2))⟩,
   ⟨1, 0, 0, D 13 (.mv (T 3))⟩,
   ⟨2, 0, 0, D 14 (.mv (T 0))⟩,
   ⟨3, 0, 4, D 15 (.ia 4 (T 14) (I 0))⟩,
   ⟨4, 0, 12, D 16 (.fa 2 (T 15))⟩,
   ⟨5, 1, 28, D 17 (.ld1 (T 16))⟩,
   ⟨6, 0, 0, D 18 (.mv (T 0))⟩,
   ⟨7, 0, 64, D 19 (.ia 4 (T 18) (I 0))⟩,
   ⟨8, 0, 192, D 20 (.fa 3 (T 19))⟩,
   ⟨9, 1, 448, D 21 (.ld1 (T 20))⟩,
   ⟨10, 0, 960, D 22 (.len (T 21))⟩,
   ⟨11, 4, 2047, D 23 (.call 107 [(T 12), (T 13), (T 17), (T 22)])⟩,
   ⟨12, 3, 0, D 9 (.alloc [(.int .i64 0), (.int .i64 0), (.int .i64 0), (.slice none 0 0)])⟩,
   ⟨13, 4, 8191, E (.st 4 (T 9) (T 23))⟩]) (
 .trim [8, 9] (
  .seq (
   .ops [D 24 (.mv (T 0)),
    D 25 (.len (T 24)),
    D 26 (.mv (I 0))]) (
  .block 0 (
   .loop [1, 8, 9, 24, 25, 26] (
    .seq (
     .ops [D 27 (.bin .lss (T 26) (T 25))]) (
    .seq (
     .cond (T 27) (
      .skip) (
      .exit 0)) (
    .trim [1, 8, 9, 24, 25, 26] (
     .block 1 (
      .seq (
       .ops [D 28 (.mv (T 26)),
        D 29 (.ia 4 (T 24) (T 26)),
        D 30 (.ldN 4 (T 29)),
        D 11 (.alloc [(.int .i64 0), (.int .i64 0), (.int .i64 0), (.slice none 0 0)]),
        D 10 (.mv (T 28)),
        E (.st 4 (T 11) (T 30))]) (
      .draw [⟨0, 1, 0, D 31 (.ldN 4 (T 9))⟩,
       ⟨1, 1, 0, D 32 (.ldN 4 (T 11))⟩,
       ⟨2, 0, 0, D 33 (.mv (T 10))⟩,
       ⟨3, 0, 0, D 34 (.mv (T 1))⟩,
       ⟨4, 0, 12, D 35 (.bin .rem (T 33) (T 34))⟩,
       ⟨5, 0, 0, D 36 (.fa 0 (T 11))⟩,
       ⟨6, 1, 32, D 37 (.ld1 (T 36))⟩,
       ⟨7, 0, 124, D 38 (.bin .mul (T 35) (T 37))⟩,
       ⟨8, 0, 0, D 39 (.mv (T 10))⟩,
       ⟨9, 0, 0, D 40 (.mv (T 1))⟩,
       ⟨10, 0, 768, D 41 (.bin .quo (T 39) (T 40))⟩,
       ⟨11, 0, 0, D 42 (.fa 1 (T 11))⟩,
       ⟨12, 1, 2048, D 43 (.ld1 (T 42))⟩,
       ⟨13, 0, 7936, D 44 (.bin .mul (T 41) (T 43))⟩,
       ⟨14, 4, 16383, D 45 (.call 68 [(T 31), (T 32), (T 38), (T 44)])⟩]))) (
    .ops [D 46 (.bin .add (T 26) (I 1)),
     D 26 (.mv (T 46))]))))))) (
 .seq (
  .ops [D 47 (.ldN 4 (T 9)),
   E (.st 4 (T 8) (T 47))]) (
 .ret))))⟩
theorem item_tiled_ok : Ok Tryz.prog 73 item_tiled := ⟨by kernel_rfl, by kernel_rfl⟩

/-- diorama/dioramaref15.of -/
def dioramaref15_of : AF := ⟨13, [.cellN 4 2],
 .seq (
  .ops [D 1 (.box (T 0)),
   D 2 (.alloc [(.int .i64 0), (.int .i64 0), (.int .i64 0), (.int .i64 0)])]) (
 .trim [2] (
  .ops [D 3 (.fa 0 (T 1)),
   D 4 (.ld1 (T 3)),
   D 5 (.fa 1 (T 1)),
   D 6 (.ld1 (T 5)),
   D 7 (.fa 2 (T 1)),
   D 8 (.ld1 (T 7)),
   D 9 (.fa 3 (T 1)),
   D 10 (.ld1 (T 9)),
   D 11 (.len (T 10)),
   D 12 (.build [(.int .i64 0), (.int .i64 0), (.int .i64 0), (.int .i64 0)] [(0, 1, (T 4)), (1, 1, (T 6)), (2, 1, (T 8)), (3, 1, (T 11))]),
   E (.st 4 (T 2) (T 12))]) (
 .ret))⟩
theorem dioramaref15_of_ok : Ok Tryz.prog 74 dioramaref15_of := ⟨by kernel_rfl, by kernel_rfl⟩

/-- diorama/dioramaref15.gridFits -/
def dioramaref15_gridFits : AF := ⟨42, [.tmp 10],
 .seq (
  .ops [D 10 (.mv (.const (.bool false)))]) (
 .trim [0, 1, 2, 3, 4] (
  .seq (
   .ops [D 11 (.mv (I 0))]) (
  .block 0 (
   .loop [0, 1, 2, 3, 4, 11] (
    .seq (
     .seq (
      .ops [D 12 (.mv (T 11)),
       D 13 (.mv (T 0)),
       D 14 (.len (T 13)),
       D 15 (.bin .lss (T 12) (T 14))]) (
     .cond (T 15) (
      .skip) (
      .exit 0))) (
    .trim [0, 1, 2, 3, 4, 11] (
     .block 1 (
      .trim [0, 1, 2, 3, 4, 11, 25] (
       .draw [⟨0, 0, 0, D 18 (.mv (T 0))⟩,
        ⟨1, 0, 0, D 19 (.mv (T 11))⟩,
        ⟨2, 0, 3, D 20 (.ia 4 (T 18) (T 19))⟩,
        ⟨3, 1, 7, D 21 (.ldN 4 (T 20))⟩,
        ⟨4, 0, 0, D 22 (.mv (T 0))⟩,
        ⟨5, 0, 16, D 23 (.ia 4 (T 22) (I 0))⟩,
        ⟨6, 1, 48, D 24 (.ldN 4 (T 23))⟩,
        ⟨7, 0, 127, D 25 (.eqa true [1, 1, 1, 1] (T 21) (T 24))⟩]) (
      .cond (T 25) (
       .seq (
        .ops [D 10 (.mv (.const (.bool false)))]) (
       .ret)) (
       .skip)))) (
    .ops [D 16 (.mv (T 11)),
     D 17 (.bin .add (T 16) (I 1)),
     D 11 (.mv (T 17))])))))) (
 .trim [10] (
  .ops [D 26 (.mv (T 2)),
   D 27 (.mv (T 0)),
   D 28 (.ia 4 (T 27) (I 0)),
   D 29 (.fa 0 (T 28)),
   D 30 (.ld1 (T 29)),
   D 31 (.mv (T 3)),
   D 32 (.call 121 [(T 26), (T 30), (T 31)]),
   D 33 (.mv (T 32)),
   ⟨(some 34), some (33, true), .mv (T 1)⟩,
   ⟨(some 35), some (33, true), .mv (T 0)⟩,
   ⟨(some 36), some (33, true), .ia 4 (T 35) (I 0)⟩,
   ⟨(some 37), some (33, true), .fa 1 (T 36)⟩,
   ⟨(some 38), some (33, true), .ld1 (T 37)⟩,
   ⟨(some 39), some (33, true), .mv (T 4)⟩,
   ⟨(some 40), some (33, true), .call 121 [(T 34), (T 38), (T 39)]⟩,
   D 41 (.pick (T 33) (T 40) (.const (.bool false))),
   D 10 (.mv (T 41))]) (
 .ret)))⟩
theorem dioramaref15_gridFits_ok : Ok Tryz.prog 75 dioramaref15_gridFits := ⟨by kernel_rfl, by kernel_rfl⟩

/-- diorama/dioramaref15.laid -/
def dioramaref15_laid : AF := ⟨68, [.cellN 4 10],
 .seq (
  .ops [D 10 (.alloc [(.int .i64 0), (.int .i64 0), (.int .i64 0), (.slice none 0 0)])]) (
 .trim [0, 2, 3, 4, 10, 11] (
  .ops [D 14 (.mv (T 3)),
   D 15 (.mv (T 4)),
   D 16 (.mv (T 0)),
   D 17 (.ia 4 (T 16) (I 0)),
   D 18 (.fa 2 (T 17)),
   D 19 (.ld1 (T 18)),
   D 20 (.build [(.int .i64 0), (.int .i64 0), (.int .i64 0), (.slice none 0 0)] [(0, 1, (T 14)), (1, 1, (T 15)), (2, 1, (T 19))]),
   D 11 (.alloc [(.int .i64 0), (.int .i64 0), (.int .i64 0), (.slice none 0 0)]),
   E (.st 4 (T 11) (T 20))]) (
 .trim [0, 2, 10, 11] (
  .seq (
   .ops [D 12 (.mv (I 0))]) (
  .block 0 (
   .loop [0, 2, 3, 4, 10, 11, 12] (
    .trim [0, 2, 3, 4, 10, 11, 12] (
     .trim [0, 2, 3, 4, 10, 11, 12, 27] (
      .ops [D 21 (.mv (T 12)),
       D 22 (.mv (T 0)),
       D 23 (.ia 4 (T 22) (I 0)),
       D 24 (.fa 3 (T 23)),
       D 25 (.ld1 (T 24)),
       D 26 (.len (T 25)),
       D 27 (.bin .lss (T 21) (T 26))]) (
     .cond (T 27) (
      .skip) (
      .exit 0))) (
    .trim [0, 2, 3, 4, 10, 11, 12] (
     .block 1 (
      .draw [⟨0, 0, 0, D 30 (.fa 3 (T 11))⟩,
       ⟨1, 1, 1, D 31 (.ld1 (T 30))⟩,
       ⟨2, 0, 0, D 32 (.mv (T 3))⟩,
       ⟨3, 0, 0, D 33 (.mv (T 4))⟩,
       ⟨4, 0, 12, D 34 (.bin .mul (T 32) (T 33))⟩,
       ⟨5, 2, 28, D 35 (.mks [(.int .i64 0)] 8 (T 34) (T 34))⟩,
       ⟨6, 2, 60, D 36 (.bslice [(.slice none 0 0)] 1 [(0, 1, (T 35))])⟩,
       ⟨7, 4, 127, D 37 (.app 1 24 (T 31) (T 36))⟩,
       ⟨8, 0, 255, D 38 (.fa 3 (T 11))⟩,
       ⟨9, 4, 511, E (.st 1 (T 38) (T 37))⟩])) (
    .ops [D 28 (.mv (T 12)),
     D 29 (.bin .add (T 28) (I 1)),
     D 12 (.mv (T 29))])))))) (
 .trim [10, 11] (
  .seq (
   .ops [D 13 (.mv (I 0))]) (
  .block 2 (
   .loop [0, 2, 10, 11, 13] (
    .seq (
     .seq (
      .ops [D 39 (.mv (T 13)),
       D 40 (.mv (T 0)),
       D 41 (.len (T 40)),
       D 42 (.bin .lss (T 39) (T 41))]) (
     .cond (T 42) (
      .skip) (
      .exit 2))) (
    .trim [0, 2, 10, 11, 13] (
     .block 3 (
      .draw [⟨0, 1, 0, D 45 (.ldN 4 (T 11))⟩,
       ⟨1, 0, 0, D 46 (.mv (T 0))⟩,
       ⟨2, 0, 0, D 47 (.mv (T 13))⟩,
       ⟨3, 0, 6, D 48 (.ia 4 (T 46) (T 47))⟩,
       ⟨4, 1, 14, D 49 (.ldN 4 (T 48))⟩,
       ⟨5, 0, 0, D 50 (.mv (T 13))⟩,
       ⟨6, 0, 0, D 51 (.mv (T 2))⟩,
       ⟨7, 0, 96, D 52 (.bin .rem (T 50) (T 51))⟩,
       ⟨8, 0, 0, D 53 (.mv (T 0))⟩,
       ⟨9, 0, 256, D 54 (.ia 4 (T 53) (I 0))⟩,
       ⟨10, 0, 768, D 55 (.fa 0 (T 54))⟩,
       ⟨11, 1, 1792, D 56 (.ld1 (T 55))⟩,
       ⟨12, 0, 4064, D 57 (.bin .mul (T 52) (T 56))⟩,
       ⟨13, 0, 0, D 58 (.mv (T 13))⟩,
       ⟨14, 0, 0, D 59 (.mv (T 2))⟩,
       ⟨15, 0, 24576, D 60 (.bin .quo (T 58) (T 59))⟩,
       ⟨16, 0, 0, D 61 (.mv (T 0))⟩,
       ⟨17, 0, 65536, D 62 (.ia 4 (T 61) (I 0))⟩,
       ⟨18, 0, 196608, D 63 (.fa 1 (T 62))⟩,
       ⟨19, 1, 458752, D 64 (.ld1 (T 63))⟩,
       ⟨20, 0, 1040384, D 65 (.bin .mul (T 60) (T 64))⟩,
       ⟨21, 4, 2097151, D 66 (.call 69 [(T 45), (T 49), (T 57), (T 65)])⟩,
       ⟨22, 4, 4194303, E (.st 4 (T 11) (T 66))⟩])) (
    .ops [D 43 (.mv (T 13)),
     D 44 (.bin .add (T 43) (I 1)),
     D 13 (.mv (T 44))])))))) (
 .seq (
  .ops [D 67 (.ldN 4 (T 11)),
   E (.st 4 (T 10) (T 67))]) (
 .ret)))))⟩
theorem dioramaref15_laid_ok : Ok Tryz.prog 76 dioramaref15_laid := ⟨by kernel_rfl, by kernel_rfl⟩

/-- diorama/dioramaref14.in -/
def dioramaref14_in : AF := ⟨15, [.tmp 6],
 .seq (
  .ops [D 6 (.mv (.const (.bool false)))]) (
 .trim [6] (
  .ops [D 7 (.mv (T 0)),
   D 8 (.mv (T 1)),
   D 9 (.bin .geq (T 7) (T 8)),
   D 10 (.mv (T 9)),
   ⟨(some 11), some (10, true), .mv (T 0)⟩,
   ⟨(some 12), some (10, true), .mv (T 2)⟩,
   ⟨(some 13), some (10, true), .bin .leq (T 11) (T 12)⟩,
   D 14 (.pick (T 10) (T 13) (.const (.bool false))),
   D 6 (.mv (T 14))]) (
 .ret))⟩
theorem dioramaref14_in_ok : Ok Tryz.prog 77 dioramaref14_in := ⟨by kernel_rfl, by kernel_rfl⟩

/-- diorama/dioramaref14.most -/
def dioramaref14_most : AF := ⟨6, [.tmp 2],
 .seq (
  .ops [D 2 (.mv (I 0))]) (
 .seq (
  .ops [D 3 (.mv (T 0)),
   D 4 (.bin .shl (I 1) (T 3)),
   D 5 (.bin .sub (T 4) (I 1)),
   D 2 (.mv (T 5))]) (
 .ret))⟩
theorem dioramaref14_most_ok : Ok Tryz.prog 78 dioramaref14_most := ⟨by kernel_rfl, by kernel_rfl⟩

/-- diorama/item.made -/
def item_made : AF := ⟨19, [.tmp 2],
 .seq (
  .ops [D 1 (.box (T 0)),
   D 2 (.mv (.const .nilIface))]) (
 .trim [1] (
  .seq (
   .ops [D 3 (.fa 1 (T 1)),
    D 4 (.ld1 (T 3))]) (
  .block 0 (
   .seq (
    .ops [D 6 (.bin .eql (T 4) (I 0)),
     D 5 (.mv (T 6))]) (
   .cond (T 5) (
    .seq (
     .ops [D 7 (.ldN 12 (T 1)),
      D 8 (.mkif 120 (T 7)),
      D 2 (.mv (T 8))]) (
    .ret)) (
    .seq (
     .ops [D 10 (.bin .eql (T 4) (I 1)),
      D 9 (.mv (T 10))]) (
    .cond (T 9) (
     .seq (
      .ops [D 11 (.ldN 12 (T 1)),
       D 12 (.mkif 156 (T 11)),
       D 2 (.mv (T 12))]) (
     .ret)) (
     .seq (
      .ops [D 14 (.bin .eql (T 4) (I 2)),
       D 13 (.mv (T 14))]) (
     .cond (T 13) (
      .seq (
       .ops [D 15 (.ldN 12 (T 1)),
        D 16 (.mkif 157 (T 15)),
        D 2 (.mv (T 16))]) (
      .ret)) (
      .skip))))))))) (
 .seq (
  .ops [D 17 (.ldN 12 (T 1)),
   D 18 (.mkif 158 (T 17)),
   D 2 (.mv (T 18))]) (
 .ret)))⟩
theorem item_made_ok : Ok Tryz.prog 79 item_made := ⟨by kernel_rfl, by kernel_rfl⟩

/-- diorama/dioramaref00.EqBytes -/
def dioramaref00_EqBytes : AF := ⟨26, [.tmp 4],
 .seq (
  .ops [D 4 (.mv (.const (.bool false)))]) (
 .trim [0, 1] (
  .seq (
   .ops [D 6 (.mv (T 0)),
    D 7 (.len (T 6)),
    D 8 (.mv (T 1)),
    D 9 (.len (T 8)),
    D 10 (.bin .neq (T 7) (T 9))]) (
  .cond (T 10) (
   .seq (
    .ops [D 4 (.mv (.const (.bool false)))]) (
   .ret)) (
   .skip))) (
 .trim [] (
  .seq (
   .ops [D 5 (.mv (I 0))]) (
  .block 0 (
   .loop [0, 1, 5] (
    .seq (
     .seq (
      .ops [D 11 (.mv (T 5)),
       D 12 (.mv (T 0)),
       D 13 (.len (T 12)),
       D 14 (.bin .lss (T 11) (T 13))]) (
     .cond (T 14) (
      .skip) (
      .exit 0))) (
    .trim [0, 1, 5] (
     .block 1 (
      .trim [0, 1, 5, 25] (
       .draw [⟨0, 0, 0, D 17 (.mv (T 0))⟩,
        ⟨1, 0, 0, D 18 (.mv (T 5))⟩,
        ⟨2, 0, 3, D 19 (.ia 1 (T 17) (T 18))⟩,
        ⟨3, 1, 7, D 20 (.ld1 (T 19))⟩,
        ⟨4, 0, 0, D 21 (.mv (T 1))⟩,
        ⟨5, 0, 0, D 22 (.mv (T 5))⟩,
        ⟨6, 0, 48, D 23 (.ia 1 (T 21) (T 22))⟩,
        ⟨7, 1, 112, D 24 (.ld1 (T 23))⟩,
        ⟨8, 0, 255, D 25 (.bin .neq (T 20) (T 24))⟩]) (
      .cond (T 25) (
       .seq (
        .ops [D 4 (.mv (.const (.bool false)))]) (
       .ret)) (
       .skip)))) (
    .ops [D 15 (.mv (T 5)),
     D 16 (.bin .add (T 15) (I 1)),
     D 5 (.mv (T 16))])))))) (
 .seq (
  .ops [D 4 (.mv (.const (.bool true)))]) (
 .ret))))⟩
theorem dioramaref00_EqBytes_ok : Ok Tryz.prog 86 dioramaref00_EqBytes := ⟨by kernel_rfl, by kernel_rfl⟩

/-- diorama/dioramaref00.CopyBytes -/
def dioramaref00_CopyBytes : AF := ⟨22, [.tmp 2],
 .seq (
  .ops [D 2 (.mv (.const (.slice none 0 0)))]) (
 .seq (
  .ops [D 5 (.mv (T 0)),
   D 6 (.len (T 5)),
   D 7 (.mks [(.int .u8 0)] 1 (I 0) (T 6)),
   D 3 (.mv (T 7))]) (
 .trim [3] (
  .seq (
   .ops [D 4 (.mv (I 0))]) (
  .block 0 (
   .loop [0, 3, 4] (
    .seq (
     .seq (
      .ops [D 8 (.mv (T 4)),
       D 9 (.mv (T 0)),
       D 10 (.len (T 9)),
       D 11 (.bin .lss (T 8) (T 10))]) (
     .cond (T 11) (
      .skip) (
      .exit 0))) (
    .trim [0, 3, 4] (
     .block 1 (
      .ops [D 14 (.mv (T 3)),
       D 15 (.mv (T 0)),
       D 16 (.mv (T 4)),
       D 17 (.ia 1 (T 15) (T 16)),
       D 18 (.ld1 (T 17)),
       D 19 (.bslice [(.int .u8 0)] 1 [(0, 1, (T 18))]),
       D 20 (.app 1 1 (T 14) (T 19)),
       D 3 (.mv (T 20))])) (
    .ops [D 12 (.mv (T 4)),
     D 13 (.bin .add (T 12) (I 1)),
     D 4 (.mv (T 13))])))))) (
 .seq (
  .ops [D 21 (.mv (T 3)),
   D 2 (.mv (T 21))]) (
 .ret))))⟩
theorem dioramaref00_CopyBytes_ok : Ok Tryz.prog 87 dioramaref00_CopyBytes := ⟨by kernel_rfl, by kernel_rfl⟩

/-- diorama/dioramaref00.CopyInts -/
def dioramaref00_CopyInts : AF := ⟨22, [.tmp 2],
 .seq (
  .ops [D 2 (.mv (.const (.slice none 0 0)))]) (
 .seq (
  .ops [D 5 (.mv (T 0)),
   D 6 (.len (T 5)),
   D 7 (.mks [(.int .i64 0)] 8 (I 0) (T 6)),
   D 3 (.mv (T 7))]) (
 .trim [3] (
  .seq (
   .ops [D 4 (.mv (I 0))]) (
  .block 0 (
   .loop [0, 3, 4] (
    .seq (
     .seq (
      .ops [D 8 (.mv (T 4)),
       D 9 (.mv (T 0)),
       D 10 (.len (T 9)),
       D 11 (.bin .lss (T 8) (T 10))]) (
     .cond (T 11) (
      .skip) (
      .exit 0))) (
    .trim [0, 3, 4] (
     .block 1 (
      .ops [D 14 (.mv (T 3)),
       D 15 (.mv (T 0)),
       D 16 (.mv (T 4)),
       D 17 (.ia 1 (T 15) (T 16)),
       D 18 (.ld1 (T 17)),
       D 19 (.bslice [(.int .i64 0)] 1 [(0, 1, (T 18))]),
       D 20 (.app 1 8 (T 14) (T 19)),
       D 3 (.mv (T 20))])) (
    .ops [D 12 (.mv (T 4)),
     D 13 (.bin .add (T 12) (I 1)),
     D 4 (.mv (T 13))])))))) (
 .seq (
  .ops [D 21 (.mv (T 3)),
   D 2 (.mv (T 21))]) (
 .ret))))⟩
theorem dioramaref00_CopyInts_ok : Ok Tryz.prog 88 dioramaref00_CopyInts := ⟨by kernel_rfl, by kernel_rfl⟩

/-- diorama/box.Name -/
def box_Name : AF := ⟨25, [.tmp 2, .tmp 3],
 .seq (
  .ops [D 2 (.mv (.const (.string ⟨#[]⟩))),
   D 3 (.mv (I 0))]) (
 .trim [0] (
  .trim [0, 12] (
   .ops [D 7 (.mv (T 0)),
    D 8 (.bin .lss (T 7) (I 0)),
    D 9 (.mv (T 8)),
    ⟨(some 10), some (9, false), .mv (T 0)⟩,
    ⟨(some 11), some (9, false), .bin .gtr (T 10) (I 4294967295)⟩,
    D 12 (.pick (T 9) (.const (.bool true)) (T 11))]) (
  .cond (T 12) (
   .seq (
    .ops [D 2 (.mv (.const (.string ⟨#[]⟩))),
     D 3 (.mv (I 80))]) (
   .ret)) (
   .skip))) (
 .seq (
  .ops [D 13 (.mv (T 0)),
   D 14 (.call 140 [(.const (.slice none 0 0)), (T 13), (I 4)]),
   D 15 (.bos (T 14)),
   D 4 (.mv (T 15))]) (
 .trim [4] (
  .trim [4, 6] (
   .ops [D 17 (.mv (T 4)),
    D 18 (.call 141 [(T 17)]),
    D 16 (.mv (T 18)),
    D 19 (.ext (T 16) 0),
    D 20 (.ext (T 16) 1),
    D 5 (.mv (T 19)),
    D 6 (.mv (T 20))]) (
  .seq (
   .ops [D 21 (.mv (T 6)),
    D 22 (.bin .neq (T 21) (I 0))]) (
  .cond (T 22) (
   .seq (
    .ops [D 23 (.mv (T 6)),
     D 2 (.mv (.const (.string ⟨#[]⟩))),
     D 3 (.mv (T 23))]) (
   .ret)) (
   .skip)))) (
 .seq (
  .ops [D 24 (.mv (T 4)),
   D 2 (.mv (T 24)),
   D 3 (.mv (I 0))]) (
 .ret)))))⟩
theorem box_Name_ok : Ok Tryz.prog 89 box_Name := ⟨by kernel_rfl, by kernel_rfl⟩

/-- diorama/box.All -/
def box_All : AF := ⟨36, [.tmp 4],
 .seq (
  .ops [D 4 (.mv (.const (.slice none 0 0)))]) (
 .trim [0, 5, 6] (
  .ops [D 11 (.mv (T 1)),
   D 12 (.call 141 [(T 11)]),
   D 10 (.mv (T 12)),
   D 13 (.ext (T 10) 0),
   D 14 (.ext (T 10) 1),
   D 5 (.mv (T 13)),
   D 6 (.mv (T 14))]) (
 .seq (
  .ops [D 7 (.mv (.const (.slice none 0 0)))]) (
 .trim [7] (
  .seq (
   .ops [D 15 (.mv (T 0)),
    D 16 (.len (T 15)),
    D 17 (.mv (I 0))]) (
  .block 0 (
   .loop [5, 6, 7, 15, 16, 17] (
    .seq (
     .ops [D 18 (.bin .lss (T 17) (T 16))]) (
    .seq (
     .cond (T 18) (
      .skip) (
      .exit 0)) (
    .trim [5, 6, 7, 15, 16, 17] (
     .block 1 (
      .seq (
       .ops [D 19 (.ia 4 (T 15) (T 17)),
        D 20 (.ldN 4 (T 19)),
        D 9 (.alloc [(.int .i64 0), (.slice none 0 0), (.slice none 0 0), (.bool false)]),
        E (.st 4 (T 9) (T 20))]) (
      .trim [5, 6, 7, 9, 15, 16, 17, 28] (
       .ops [D 21 (.mv (T 6)),
        D 22 (.bin .eql (T 21) (I 0)),
        D 23 (.mv (T 22)),
        ⟨(some 24), some (23, true), .fa 0 (T 9)⟩,
        ⟨(some 25), some (23, true), .ld1 (T 24)⟩,
        ⟨(some 26), some (23, true), .mv (T 5)⟩,
        ⟨(some 27), some (23, true), .bin .eql (T 25) (T 26)⟩,
        D 28 (.pick (T 23) (T 27) (.const (.bool false)))]) (
      .cond (T 28) (
       .ops [D 29 (.mv (T 7)),
        D 30 (.ldN 4 (T 9)),
        D 31 (.call 142 [(T 30)]),
        D 32 (.bslice [(.int .i64 0), (.slice none 0 0), (.slice none 0 0), (.bool false)] 1 [(0, 4, (T 31))]),
        D 33 (.app 4 64 (T 29) (T 32)),
        D 7 (.mv (T 33))]) (
       .skip))))) (
    .ops [D 34 (.bin .add (T 17) (I 1)),
     D 17 (.mv (T 34))]))))))) (
 .seq (
  .ops [D 35 (.mv (T 7)),
   D 4 (.mv (T 35))]) (
 .ret)))))⟩
theorem box_All_ok : Ok Tryz.prog 90 box_All := ⟨by kernel_rfl, by kernel_rfl⟩

/-- diorama/item.one -/
def item_one : AF := ⟨111, [.cellN 12 2, .tmp 3],
 .seq (
  .ops [D 2 (.alloc [(.int .i64 0), (.int .i64 0), (.slice none 0 0), (.slice none 0 0), (.slice none 0 0), (.int .i64 0), (.int .i64 0), (.int .i64 0), (.int .i64 0), (.slice none 0 0), (.int .i64 0), (.bool false)]),
   D 3 (.mv (I 0))]) (
 .trim [0, 2, 4, 5] (
  .ops [D 19 (.mv (T 0)),
   D 20 (.call 143 [(T 19), (.const (.string ⟨#[105, 104, 100, 114]⟩))]),
   D 18 (.mv (T 20)),
   D 21 (.ext (T 18) 0),
   D 22 (.ext (T 18) 1),
   D 4 (.mv (T 21)),
   D 5 (.mv (T 22))]) (
 .trim [0, 2, 4] (
  .seq (
   .ops [D 23 (.mv (T 5)),
    D 24 (.bin .neq (T 23) (I 0))]) (
  .cond (T 24) (
   .seq (
    .ops [D 25 (.build [(.int .i64 0), (.int .i64 0), (.slice none 0 0), (.slice none 0 0), (.slice none 0 0), (.int .i64 0), (.int .i64 0), (.int .i64 0), (.int .i64 0), (.slice none 0 0), (.int .i64 0), (.bool false)] []),
     D 26 (.mv (T 5)),
     E (.st 12 (T 2) (T 25)),
     D 3 (.mv (T 26))]) (
   .ret)) (
   .skip))) (
 .seq (
  .ops [D 27 (.mv (T 4)),
   D 28 (.call 144 [(T 27), (I 4)]),
   D 29 (.build [(.int .i64 0), (.int .i64 0), (.slice none 0 0), (.slice none 0 0), (.slice none 0 0), (.int .i64 0), (.int .i64 0), (.int .i64 0), (.int .i64 0), (.slice none 0 0), (.int .i64 0), (.bool false)] [(0, 1, (T 28))]),
   D 6 (.alloc [(.int .i64 0), (.int .i64 0), (.slice none 0 0), (.slice none 0 0), (.slice none 0 0), (.int .i64 0), (.int .i64 0), (.int .i64 0), (.int .i64 0), (.slice none 0 0), (.int .i64 0), (.bool false)]),
   E (.st 12 (T 6) (T 29))]) (
 .seq (
  .ops [D 30 (.mv (T 4)),
   D 31 (.call 144 [(T 30), (I 1)]),
   D 32 (.fa 1 (T 6)),
   E (.st 1 (T 32) (T 31))]) (
 .seq (
  .ops [D 33 (.mv (T 4)),
   D 34 (.call 144 [(T 33), (I 1)]),
   D 35 (.fa 10 (T 6)),
   E (.st 1 (T 35) (T 34))]) (
 .seq (
  .ops [D 36 (.mv (T 4)),
   D 37 (.call 144 [(T 36), (I 1)]),
   D 7 (.mv (T 37))]) (
 .seq (
  .ops [D 38 (.mv (T 7)),
   D 39 (.bin .eql (T 38) (I 1)),
   D 40 (.fa 11 (T 6)),
   E (.st 1 (T 40) (T 39))]) (
 .trim [0, 2, 6, 7] (
  .seq (
   .ops [D 41 (.mv (T 4)),
    D 42 (.call 145 [(T 41)]),
    D 8 (.mv (T 42))]) (
  .seq (
   .ops [D 43 (.mv (T 8)),
    D 44 (.bin .neq (T 43) (I 0))]) (
  .cond (T 44) (
   .seq (
    .ops [D 45 (.build [(.int .i64 0), (.int .i64 0), (.slice none 0 0), (.slice none 0 0), (.slice none 0 0), (.int .i64 0), (.int .i64 0), (.int .i64 0), (.int .i64 0), (.slice none 0 0), (.int .i64 0), (.bool false)] []),
     D 46 (.mv (T 8)),
     E (.st 12 (T 2) (T 45)),
     D 3 (.mv (T 46))]) (
   .ret)) (
   .skip)))) (
 .seq (
  .seq (
   .ops [D 47 (.mv (T 7)),
    D 48 (.bin .gtr (T 47) (I 1))]) (
  .cond (T 48) (
   .seq (
    .ops [D 49 (.build [(.int .i64 0), (.int .i64 0), (.slice none 0 0), (.slice none 0 0), (.slice none 0 0), (.int .i64 0), (.int .i64 0), (.int .i64 0), (.int .i64 0), (.slice none 0 0), (.int .i64 0), (.bool false)] []),
     E (.st 12 (T 2) (T 49)),
     D 3 (.mv (I 4))]) (
   .ret)) (
   .skip))) (
 .trim [0, 2, 6] (
  .seq (
   .ops [D 50 (.fa 1 (T 6)),
    D 51 (.ld1 (T 50)),
    D 52 (.bin .gtr (T 51) (I 3))]) (
  .cond (T 52) (
   .seq (
    .ops [D 53 (.ldN 12 (T 6)),
     E (.st 12 (T 2) (T 53)),
     D 3 (.mv (I 0))]) (
   .ret)) (
   .skip))) (
 .seq (
  .ops [D 9 (.mv (.const (.slice none 0 0)))]) (
 .seq (
  .ops [D 10 (.mv (I 0))]) (
 .trim [2, 6, 9, 10] (
  .seq (
   .ops [D 54 (.fa 1 (T 6)),
    D 55 (.ld1 (T 54)),
    D 56 (.call 146 [(T 55)]),
    D 57 (.len (T 56)),
    D 58 (.mv (I 0))]) (
  .block 0 (
   .loop [0, 2, 6, 9, 10, 56, 57, 58] (
    .seq (
     .ops [D 59 (.bin .lss (T 58) (T 57))]) (
    .seq (
     .cond (T 59) (
      .skip) (
      .exit 0)) (
    .trim [0, 2, 6, 9, 10, 56, 57, 58] (
     .block 1 (
      .seq (
       .ops [D 60 (.ia 1 (T 56) (T 58)),
        D 61 (.ld1 (T 60)),
        D 12 (.mv (T 61))]) (
      .trim [0, 2, 6, 9, 10, 13, 14, 56, 57, 58] (
       .ops [D 63 (.mv (T 0)),
        D 64 (.mv (T 12)),
        D 65 (.call 143 [(T 63), (T 64)]),
        D 62 (.mv (T 65)),
        D 66 (.ext (T 62) 0),
        D 67 (.ext (T 62) 1),
        D 13 (.mv (T 66)),
        D 14 (.mv (T 67))]) (
      .trim [0, 2, 6, 9, 10, 13, 14, 56, 57, 58] (
       .trim [0, 2, 6, 9, 10, 13, 14, 56, 57, 58, 77] (
        .ops [D 68 (.mv (T 14)),
         D 69 (.bin .eql (T 68) (I 61)),
         D 70 (.mv (T 69)),
         ⟨(some 71), some (70, false), .mv (T 14)⟩,
         ⟨(some 72), some (70, false), .bin .eql (T 71) (I 62)⟩,
         ⟨(some 73), some (70, false), .mv (T 72)⟩,
         ⟨(some 74), some (73, true), .mv (T 10)⟩,
         ⟨(some 75), some (73, true), .bin .eql (T 74) (I 0)⟩,
         ⟨(some 76), some (70, false), .pick (T 73) (T 75) (.const (.bool false))⟩,
         D 77 (.pick (T 70) (.const (.bool true)) (T 76))]) (
       .cond (T 77) (
        .ops [D 78 (.mv (T 14)),
         D 10 (.mv (T 78))]) (
        .skip))) (
      .seq (
       .seq (
        .ops [D 79 (.mv (T 14)),
         D 80 (.bin .eql (T 79) (I 61))]) (
       .cond (T 80) (
        .exit 0) (
        .skip))) (
      .ops [D 81 (.mv (T 9)),
       D 82 (.mv (T 13)),
       D 83 (.bslice [(.pointer none)] 1 [(0, 1, (T 82))]),
       D 84 (.app 1 8 (T 81) (T 83)),
       D 9 (.mv (T 84))])))))) (
    .ops [D 85 (.bin .add (T 58) (I 1)),
     D 58 (.mv (T 85))]))))))) (
 .trim [2, 6, 9] (
  .seq (
   .ops [D 86 (.mv (T 10)),
    D 87 (.bin .neq (T 86) (I 0))]) (
  .cond (T 87) (
   .seq (
    .ops [D 88 (.build [(.int .i64 0), (.int .i64 0), (.slice none 0 0), (.slice none 0 0), (.slice none 0 0), (.int .i64 0), (.int .i64 0), (.int .i64 0), (.int .i64 0), (.slice none 0 0), (.int .i64 0), (.bool false)] []),
     D 89 (.mv (T 10)),
     E (.st 12 (T 2) (T 88)),
     D 3 (.mv (T 89))]) (
   .ret)) (
   .skip))) (
 .trim [2, 6] (
  .seq (
   .ops [D 90 (.mv (T 9)),
    D 91 (.len (T 90)),
    D 92 (.mv (I 0))]) (
  .block 2 (
   .loop [2, 6, 90, 91, 92] (
    .seq (
     .ops [D 93 (.bin .lss (T 92) (T 91))]) (
    .seq (
     .cond (T 93) (
      .skip) (
      .exit 2)) (
    .trim [2, 6, 90, 91, 92] (
     .block 3 (
      .seq (
       .ops [D 94 (.mv (T 92)),
        D 95 (.ia 1 (T 90) (T 92)),
        D 96 (.ld1 (T 95)),
        D 15 (.mv (T 94)),
        D 16 (.mv (T 96))]) (
      .trim [2, 6, 16, 90, 91, 92] (
       .seq (
        .ops [D 97 (.mv (T 15)),
         D 98 (.bin .eql (T 97) (I 0))]) (
       .cond (T 98) (
        .ops [D 99 (.mv (T 16)),
         D 100 (.call 147 [(T 6), (T 99)])]) (
        .ops [D 101 (.mv (T 16)),
         D 102 (.call 148 [(T 6), (T 101)])]))) (
      .seq (
       .ops [D 103 (.mv (T 16)),
        D 104 (.call 145 [(T 103)]),
        D 17 (.mv (T 104))]) (
      .seq (
       .ops [D 105 (.mv (T 17)),
        D 106 (.bin .neq (T 105) (I 0))]) (
      .cond (T 106) (
       .seq (
        .ops [D 107 (.build [(.int .i64 0), (.int .i64 0), (.slice none 0 0), (.slice none 0 0), (.slice none 0 0), (.int .i64 0), (.int .i64 0), (.int .i64 0), (.int .i64 0), (.slice none 0 0), (.int .i64 0), (.bool false)] []),
         D 108 (.mv (T 17)),
         E (.st 12 (T 2) (T 107)),
         D 3 (.mv (T 108))]) (
       .ret)) (
       .skip))))))) (
    .ops [D 109 (.bin .add (T 92) (I 1)),
     D 92 (.mv (T 109))]))))))) (
 .seq (
  .ops [D 110 (.ldN 12 (T 6)),
   E (.st 12 (T 2) (T 110)),
   D 3 (.mv (I 0))]) (
 .ret)))))))))))))))))⟩
theorem item_one_ok : Ok Tryz.prog 91 item_one := ⟨by kernel_rfl, by kernel_rfl⟩

/-- diorama/dioramaref08.Named -/
def dioramaref08_Named : AF := ⟨11, [.tmp 2],
 .seq (
  .ops [D 2 (.mv (I 0))]) (
 .trim [3] (
  .ops [D 6 (.mv (T 0)),
   D 7 (.call 149 [(T 6)]),
   D 5 (.mv (T 7)),
   D 8 (.ext (T 5) 0),
   D 9 (.ext (T 5) 1),
   D 3 (.mv (T 8)),
   D 4 (.mv (T 9))]) (
 .seq (
  .ops [D 10 (.mv (T 3)),
   D 2 (.mv (T 10))]) (
 .ret)))⟩
theorem dioramaref08_Named_ok : Ok Tryz.prog 92 dioramaref08_Named := ⟨by kernel_rfl, by kernel_rfl⟩

/-- diorama/dioramaref15.fromGroup -/
def dioramaref15_fromGroup : AF := ⟨153, [.cellN 12 2, .tmp 3],
 .seq (
  .ops [D 1 (.box (T 0)),
   D 2 (.alloc [(.int .i64 0), (.int .i64 0), (.slice none 0 0), (.slice none 0 0), (.slice none 0 0), (.int .i64 0), (.int .i64 0), (.int .i64 0), (.int .i64 0), (.slice none 0 0), (.int .i64 0), (.bool false)]),
   D 3 (.mv (I 0))]) (
 .seq (
  .ops [D 4 (.alloc [(.int .i64 0), (.int .i64 0), (.slice none 0 0), (.slice none 0 0), (.slice none 0 0), (.int .i64 0), (.int .i64 0), (.int .i64 0), (.int .i64 0), (.slice none 0 0), (.int .i64 0), (.bool false)])]) (
 .trim [1, 2, 4, 5, 6] (
  .ops [D 14 (.ldN 4 (T 1)),
   D 15 (.call 150 [(T 14), (.const (.string ⟨#[105, 104, 100, 114]⟩))]),
   D 13 (.mv (T 15)),
   D 16 (.ext (T 13) 0),
   D 17 (.ext (T 13) 1),
   D 5 (.mv (T 16)),
   D 6 (.mv (T 17))]) (
 .seq (
  .seq (
   .ops [D 18 (.mv (T 6)),
    D 19 (.bin .eql (T 18) (I 0))]) (
  .cond (T 19) (
   .ops [D 20 (.mv (T 5)),
    D 21 (.call 151 [(T 20), (I 7)]),
    D 6 (.mv (T 21))]) (
   .skip))) (
 .trim [1, 2, 4, 5] (
  .seq (
   .ops [D 22 (.mv (T 6)),
    D 23 (.bin .neq (T 22) (I 0))]) (
  .cond (T 23) (
   .seq (
    .ops [D 24 (.ldN 12 (T 4)),
     D 25 (.mv (T 6)),
     E (.st 12 (T 2) (T 24)),
     D 3 (.mv (T 25))]) (
   .ret)) (
   .skip))) (
 .trim [1, 2, 4, 5] (
  .seq (
   .ops [D 26 (.mv (T 5)),
    D 27 (.ia 1 (T 26) (I 6)),
    D 28 (.ld1 (T 27)),
    D 29 (.bin .gtr (T 28) (.const (.int .u8 1)))]) (
  .cond (T 29) (
   .seq (
    .ops [D 30 (.ldN 12 (T 4)),
     E (.st 12 (T 2) (T 30)),
     D 3 (.mv (I 4))]) (
   .ret)) (
   .skip))) (
 .trim [1, 2, 4, 5] (
  .ops [D 32 (.mv (T 5)),
   D 33 (.call 152 [(T 32), (I 0), (I 4)]),
   D 31 (.mv (T 33)),
   D 34 (.ext (T 31) 0),
   D 35 (.ext (T 31) 1),
   D 36 (.fa 0 (T 4)),
   E (.st 1 (T 36) (T 34))]) (
 .trim [1, 2, 4] (
  .draw [⟨0, 0, 0, D 37 (.mv (T 5))⟩,
   ⟨1, 0, 1, D 38 (.ia 1 (T 37) (I 4))⟩,
   ⟨2, 1, 3, D 39 (.ld1 (T 38))⟩,
   ⟨3, 0, 7, D 40 (.cvi .i64 (T 39))⟩,
   ⟨4, 0, 0, D 41 (.mv (T 5))⟩,
   ⟨5, 0, 16, D 42 (.ia 1 (T 41) (I 5))⟩,
   ⟨6, 1, 48, D 43 (.ld1 (T 42))⟩,
   ⟨7, 0, 112, D 44 (.cvi .i64 (T 43))⟩,
   ⟨8, 0, 0, D 45 (.mv (T 5))⟩,
   ⟨9, 0, 256, D 46 (.ia 1 (T 45) (I 6))⟩,
   ⟨10, 1, 768, D 47 (.ld1 (T 46))⟩,
   ⟨11, 0, 1792, D 48 (.bin .eql (T 47) (.const (.int .u8 1)))⟩,
   ⟨12, 0, 15, D 49 (.fa 1 (T 4))⟩,
   ⟨13, 4, 4111, E (.st 1 (T 49) (T 40))⟩,
   ⟨14, 0, 12543, D 50 (.fa 10 (T 4))⟩,
   ⟨15, 4, 28927, E (.st 1 (T 50) (T 44))⟩,
   ⟨16, 0, 65535, D 51 (.fa 11 (T 4))⟩,
   ⟨17, 4, 131071, E (.st 1 (T 51) (T 48))⟩]) (
 .seq (
  .ops [D 52 (.fa 1 (T 4)),
   D 53 (.ld1 (T 52)),
   D 54 (.call 153 [(T 53)]),
   D 7 (.mv (T 54))]) (
 .seq (
  .ops [D 8 (.mv (.const (.bool false)))]) (
 .trim [1, 2, 4, 7, 8] (
  .seq (
   .ops [D 9 (.mv (I 0))]) (
  .block 0 (
   .loop [1, 2, 4, 7, 8, 9] (
    .seq (
     .seq (
      .ops [D 55 (.mv (T 9)),
       D 56 (.mv (T 7)),
       D 57 (.len (T 56)),
       D 58 (.bin .lss (T 55) (T 57))]) (
     .cond (T 58) (
      .skip) (
      .exit 0))) (
    .trim [1, 2, 4, 7, 8, 9] (
     .block 1 (
      .trim [1, 2, 4, 6, 7, 8, 9] (
       .draw [⟨0, 1, 0, D 62 (.ldN 4 (T 1))⟩,
        ⟨1, 0, 0, D 63 (.mv (T 7))⟩,
        ⟨2, 0, 0, D 64 (.mv (T 9))⟩,
        ⟨3, 0, 6, D 65 (.ia 1 (T 63) (T 64))⟩,
        ⟨4, 1, 14, D 66 (.ld1 (T 65))⟩,
        ⟨5, 4, 31, D 67 (.call 150 [(T 62), (T 66)])⟩,
        ⟨6, 0, 63, D 61 (.mv (T 67))⟩,
        ⟨7, 0, 127, D 68 (.ext (T 61) 0)⟩,
        ⟨8, 0, 127, D 69 (.ext (T 61) 1)⟩,
        ⟨9, 0, 511, D 6 (.mv (T 69))⟩]) (
      .trim [1, 2, 4, 6, 7, 8, 9] (
       .seq (
        .ops [D 70 (.mv (T 6)),
         D 71 (.bin .eql (T 70) (I 61))]) (
       .cond (T 71) (
        .seq (
         .ops [D 72 (.ldN 12 (T 4)),
          D 73 (.mv (T 6)),
          E (.st 12 (T 2) (T 72)),
          D 3 (.mv (T 73))]) (
        .ret)) (
        .skip))) (
      .ops [D 74 (.mv (T 8)),
       D 75 (.mv (T 74)),
       ⟨(some 76), some (75, false), .mv (T 6)⟩,
       ⟨(some 77), some (75, false), .bin .eql (T 76) (I 62)⟩,
       D 78 (.pick (T 75) (.const (.bool true)) (T 77)),
       D 8 (.mv (T 78))])))) (
    .ops [D 59 (.mv (T 9)),
     D 60 (.bin .add (T 59) (I 1)),
     D 9 (.mv (T 60))])))))) (
 .seq (
  .seq (
   .ops [D 79 (.mv (T 8))]) (
  .cond (T 79) (
   .seq (
    .ops [D 80 (.ldN 12 (T 4)),
     E (.st 12 (T 2) (T 80)),
     D 3 (.mv (I 62))]) (
   .ret)) (
   .skip))) (
 .seq (
  .ops [D 6 (.mv (I 0))]) (
 .trim [2, 4, 6] (
  .seq (
   .ops [D 10 (.mv (I 0))]) (
  .block 2 (
   .loop [1, 2, 4, 6, 7, 10] (
    .trim [1, 2, 4, 6, 7, 10] (
     .trim [1, 2, 4, 6, 7, 10, 88] (
      .ops [D 81 (.mv (T 10)),
       D 82 (.mv (T 7)),
       D 83 (.len (T 82)),
       D 84 (.bin .lss (T 81) (T 83)),
       D 85 (.mv (T 84)),
       ⟨(some 86), some (85, true), .mv (T 6)⟩,
       ⟨(some 87), some (85, true), .bin .eql (T 86) (I 0)⟩,
       D 88 (.pick (T 85) (T 87) (.const (.bool false)))]) (
     .cond (T 88) (
      .skip) (
      .exit 2))) (
    .trim [1, 2, 4, 6, 7, 10] (
     .block 3 (
      .trim [1, 2, 4, 6, 7, 10, 11] (
       .draw [⟨0, 1, 0, D 92 (.ldN 4 (T 1))⟩,
        ⟨1, 0, 0, D 93 (.mv (T 7))⟩,
        ⟨2, 0, 0, D 94 (.mv (T 10))⟩,
        ⟨3, 0, 6, D 95 (.ia 1 (T 93) (T 94))⟩,
        ⟨4, 1, 14, D 96 (.ld1 (T 95))⟩,
        ⟨5, 4, 31, D 97 (.call 150 [(T 92), (T 96)])⟩,
        ⟨6, 0, 63, D 91 (.mv (T 97))⟩,
        ⟨7, 0, 127, D 98 (.ext (T 91) 0)⟩,
        ⟨8, 0, 127, D 99 (.ext (T 91) 1)⟩,
        ⟨9, 0, 255, D 11 (.mv (T 98))⟩,
        ⟨10, 0, 1023, D 12 (.mv (T 99))⟩]) (
      .seq (
       .ops [D 100 (.mv (T 7)),
        D 101 (.mv (T 10)),
        D 102 (.ia 1 (T 100) (T 101)),
        D 103 (.ld1 (T 102))]) (
      .block 4 (
       .seq (
        .ops [D 105 (.bin .eql (T 103) (.const (.string ⟨#[105, 100, 97, 116]⟩))),
         D 104 (.mv (T 105))]) (
       .cond (T 104) (
        .ops [D 106 (.mv (T 11)),
         D 107 (.call 87 [(T 106)]),
         D 108 (.fa 2 (T 4)),
         E (.st 1 (T 108) (T 107))]) (
        .seq (
         .ops [D 110 (.bin .eql (T 103) (.const (.string ⟨#[105, 114, 101, 102]⟩))),
          D 109 (.mv (T 110))]) (
        .cond (T 109) (
         .ops [D 112 (.mv (T 11)),
          D 113 (.call 154 [(T 112)]),
          D 111 (.mv (T 113)),
          D 114 (.ext (T 111) 0),
          D 115 (.ext (T 111) 1),
          D 116 (.fa 3 (T 4)),
          E (.st 1 (T 116) (T 114)),
          D 6 (.mv (T 115))]) (
         .seq (
          .ops [D 118 (.bin .eql (T 103) (.const (.string ⟨#[105, 111, 118, 108]⟩))),
           D 117 (.mv (T 118))]) (
         .cond (T 117) (
          .ops [D 120 (.mv (T 11)),
           D 121 (.ldN 12 (T 4)),
           D 122 (.call 155 [(T 120), (T 121)]),
           D 119 (.mv (T 122)),
           D 123 (.ext (T 119) 0),
           D 124 (.ext (T 119) 1),
           E (.st 12 (T 4) (T 123)),
           D 6 (.mv (T 124))]) (
          .seq (
           .ops [D 126 (.bin .eql (T 103) (.const (.string ⟨#[105, 103, 114, 100]⟩))),
            D 125 (.mv (T 126))]) (
          .cond (T 125) (
           .seq (
            .ops [D 127 (.mv (T 11)),
             D 128 (.call 151 [(T 127), (I 4)]),
             D 6 (.mv (T 128))]) (
           .seq (
            .ops [D 129 (.mv (T 6)),
             D 130 (.bin .eql (T 129) (I 0))]) (
           .cond (T 130) (
            .draw [⟨0, 0, 0, D 131 (.mv (T 11))⟩,
             ⟨1, 0, 1, D 132 (.ia 1 (T 131) (I 0))⟩,
             ⟨2, 1, 3, D 133 (.ld1 (T 132))⟩,
             ⟨3, 0, 7, D 134 (.cvi .i64 (T 133))⟩,
             ⟨4, 0, 0, D 135 (.mv (T 11))⟩,
             ⟨5, 0, 16, D 136 (.ia 1 (T 135) (I 1))⟩,
             ⟨6, 1, 48, D 137 (.ld1 (T 136))⟩,
             ⟨7, 0, 112, D 138 (.cvi .i64 (T 137))⟩,
             ⟨8, 0, 0, D 139 (.mv (T 11))⟩,
             ⟨9, 0, 256, D 140 (.ia 1 (T 139) (I 2))⟩,
             ⟨10, 1, 768, D 141 (.ld1 (T 140))⟩,
             ⟨11, 0, 1792, D 142 (.cvi .i64 (T 141))⟩,
             ⟨12, 0, 0, D 143 (.mv (T 11))⟩,
             ⟨13, 0, 4096, D 144 (.ia 1 (T 143) (I 3))⟩,
             ⟨14, 1, 12288, D 145 (.ld1 (T 144))⟩,
             ⟨15, 0, 28672, D 146 (.cvi .i64 (T 145))⟩,
             ⟨16, 0, 15, D 147 (.fa 5 (T 4))⟩,
             ⟨17, 4, 65551, E (.st 1 (T 147) (T 134))⟩,
             ⟨18, 0, 196863, D 148 (.fa 6 (T 4))⟩,
             ⟨19, 4, 459007, E (.st 1 (T 148) (T 138))⟩,
             ⟨20, 0, 987135, D 149 (.fa 7 (T 4))⟩,
             ⟨21, 4, 2035711, E (.st 1 (T 149) (T 142))⟩,
             ⟨22, 0, 4194303, D 150 (.fa 8 (T 4))⟩,
             ⟨23, 4, 8388607, E (.st 1 (T 150) (T 146))⟩]) (
            .skip)))) (
           .skip))))))))))))) (
    .ops [D 89 (.mv (T 10)),
     D 90 (.bin .add (T 89) (I 1)),
     D 10 (.mv (T 90))])))))) (
 .seq (
  .ops [D 151 (.ldN 12 (T 4)),
   D 152 (.mv (T 6)),
   E (.st 12 (T 2) (T 151)),
   D 3 (.mv (T 152))]) (
 .ret)))))))))))))))⟩
theorem dioramaref15_fromGroup_ok : Ok Tryz.prog 93 dioramaref15_fromGroup := ⟨by kernel_rfl, by kernel_rfl⟩

/-- diorama/item.group -/
def item_group : AF := ⟨15, [.cellN 4 4],
 .seq (
  .ops [D 4 (.alloc [(.int .i64 0), (.slice none 0 0), (.slice none 0 0), (.bool false)])]) (
 .trim [1, 4, 5] (
  .ops [D 8 (.mv (T 0)),
   D 9 (.call 141 [(T 8)]),
   D 7 (.mv (T 9)),
   D 10 (.ext (T 7) 0),
   D 11 (.ext (T 7) 1),
   D 5 (.mv (T 10)),
   D 6 (.mv (T 11))]) (
 .seq (
  .ops [D 12 (.mv (T 5)),
   D 13 (.mv (T 1)),
   D 14 (.build [(.int .i64 0), (.slice none 0 0), (.slice none 0 0), (.bool false)] [(0, 1, (T 12)), (2, 1, (T 13)), (3, 1, (.const (.bool true)))]),
   E (.st 4 (T 4) (T 14))]) (
 .ret)))⟩
theorem item_group_ok : Ok Tryz.prog 94 item_group := ⟨by kernel_rfl, by kernel_rfl⟩

/-- diorama/item.number -/
def item_number : AF := ⟨18, [.tmp 6],
 .seq (
  .ops [D 6 (.mv (.const (.slice none 0 0)))]) (
 .trim [0, 7] (
  .ops [D 10 (.mv (T 1)),
   D 11 (.mv (T 2)),
   D 12 (.call 156 [(T 10), (T 11)]),
   D 9 (.mv (T 12)),
   D 13 (.ext (T 9) 0),
   D 14 (.ext (T 9) 1),
   D 7 (.mv (T 13)),
   D 8 (.mv (T 14))]) (
 .seq (
  .ops [D 15 (.mv (T 0)),
   D 16 (.mv (T 7)),
   D 17 (.app 1 1 (T 15) (T 16)),
   D 6 (.mv (T 17))]) (
 .ret)))⟩
theorem item_number_ok : Ok Tryz.prog 95 item_number := ⟨by kernel_rfl, by kernel_rfl⟩

/-- diorama/item.leaf -/
def item_leaf : AF := ⟨15, [.cellN 4 4],
 .seq (
  .ops [D 4 (.alloc [(.int .i64 0), (.slice none 0 0), (.slice none 0 0), (.bool false)])]) (
 .trim [1, 4, 5] (
  .ops [D 8 (.mv (T 0)),
   D 9 (.call 141 [(T 8)]),
   D 7 (.mv (T 9)),
   D 10 (.ext (T 7) 0),
   D 11 (.ext (T 7) 1),
   D 5 (.mv (T 10)),
   D 6 (.mv (T 11))]) (
 .seq (
  .ops [D 12 (.mv (T 5)),
   D 13 (.mv (T 1)),
   D 14 (.build [(.int .i64 0), (.slice none 0 0), (.slice none 0 0), (.bool false)] [(0, 1, (T 12)), (1, 1, (T 13))]),
   E (.st 4 (T 4) (T 14))]) (
 .ret)))⟩
theorem item_leaf_ok : Ok Tryz.prog 96 item_leaf := ⟨by kernel_rfl, by kernel_rfl⟩

/-- diorama/item.bit -/
def item_bit : AF := ⟨4, [.tmp 2],
 .seq (
  .ops [D 2 (.mv (I 0))]) (
 .seq (
  .seq (
   .ops [D 3 (.mv (T 0))]) (
  .cond (T 3) (
   .seq (
    .ops [D 2 (.mv (I 1))]) (
   .ret)) (
   .skip))) (
 .seq (
  .ops [D 2 (.mv (I 0))]) (
 .ret)))⟩
theorem item_bit_ok : Ok Tryz.prog 97 item_bit := ⟨by kernel_rfl, by kernel_rfl⟩

/-- slices.Clone[[]byte,byte] -/
def slices_Clone___byte_byte_ : AF := ⟨8, [.tmp 2],
 .seq (
  .ops [D 2 (.mv (.const (.slice none 0 0)))]) (
 .seq (
  .seq (
   .ops [D 3 (.mv (T 0)),
    D 4 (.nileq false 1 (T 3) (.const (.slice none 0 0)))]) (
  .cond (T 4) (
   .seq (
    .ops [D 2 (.mv (.const (.slice none 0 0)))]) (
   .ret)) (
   .skip))) (
 .seq (
  .ops [D 5 (.bslice [] 0 []),
   D 6 (.mv (T 0)),
   D 7 (.app 1 1 (T 5) (T 6)),
   D 2 (.mv (T 7))]) (
 .ret)))⟩
theorem slices_Clone___byte_byte__ok : Ok Tryz.prog 98 slices_Clone___byte_byte_ := ⟨by kernel_rfl, by kernel_rfl⟩

/-- diorama/dioramaref01.Bytes -/
def dioramaref01_Bytes : AF := ⟨24, [.tmp 4],
 .seq (
  .ops [D 4 (.mv (.const (.slice none 0 0)))]) (
 .seq (
  .ops [D 7 (.mv (T 1)),
   D 8 (.mks [(.int .u8 0)] 1 (T 7) (T 7)),
   D 5 (.mv (T 8))]) (
 .trim [5] (
  .seq (
   .ops [D 9 (.mv (T 1)),
    D 10 (.bin .sub (T 9) (I 1)),
    D 6 (.mv (T 10))]) (
  .block 0 (
   .loop [0, 5, 6] (
    .seq (
     .seq (
      .ops [D 11 (.mv (T 6)),
       D 12 (.bin .geq (T 11) (I 0))]) (
     .cond (T 12) (
      .skip) (
      .exit 0))) (
    .trim [0, 5, 6] (
     .block 1 (
      .trim [0, 5, 6] (
       .ops [D 15 (.mv (T 5)),
        D 16 (.mv (T 6)),
        D 17 (.mv (T 0)),
        D 18 (.bin .rem (T 17) (I 256)),
        D 19 (.cvi .u8 (T 18)),
        D 20 (.ia 1 (T 15) (T 16)),
        E (.st 1 (T 20) (T 19))]) (
      .ops [D 21 (.mv (T 0)),
       D 22 (.bin .quo (T 21) (I 256)),
       D 0 (.mv (T 22))]))) (
    .ops [D 13 (.mv (T 6)),
     D 14 (.bin .sub (T 13) (I 1)),
     D 6 (.mv (T 14))])))))) (
 .seq (
  .ops [D 23 (.mv (T 5)),
   D 4 (.mv (T 23))]) (
 .ret))))⟩
theorem dioramaref01_Bytes_ok : Ok Tryz.prog 99 dioramaref01_Bytes := ⟨by kernel_rfl, by kernel_rfl⟩

/-- diorama/dioramaref15.flag -/
def dioramaref15_flag : AF := ⟨4, [.tmp 2],
 .seq (
  .ops [D 2 (.mv (.const (.int .u8 0)))]) (
 .seq (
  .seq (
   .ops [D 3 (.mv (T 0))]) (
  .cond (T 3) (
   .seq (
    .ops [D 2 (.mv (.const (.int .u8 1)))]) (
   .ret)) (
   .skip))) (
 .seq (
  .ops [D 2 (.mv (.const (.int .u8 0)))]) (
 .ret)))⟩
theorem dioramaref15_flag_ok : Ok Tryz.prog 100 dioramaref15_flag := ⟨by kernel_rfl, by kernel_rfl⟩

/-- diorama/dioramaref15.leaf -/
def dioramaref15_leaf : AF := ⟨9, [.cellN 4 4],
 .seq (
  .ops [D 4 (.alloc [(.int .i64 0), (.slice none 0 0), (.slice none 0 0), (.bool false)])]) (
 .seq (
  .ops [D 5 (.mv (T 0)),
   D 6 (.call 92 [(T 5)]),
   D 7 (.mv (T 1)),
   D 8 (.build [(.int .i64 0), (.slice none 0 0), (.slice none 0 0), (.bool false)] [(0, 1, (T 6)), (1, 1, (T 7))]),
   E (.st 4 (T 4) (T 8))]) (
 .ret))⟩
theorem dioramaref15_leaf_ok : Ok Tryz.prog 101 dioramaref15_leaf := ⟨by kernel_rfl, by kernel_rfl⟩

/-- diorama/dioramaref00.EqNodes -/
def dioramaref00_EqNodes : AF := ⟨27, [.tmp 4],
 .seq (
  .ops [D 4 (.mv (.const (.bool false)))]) (
 .trim [0, 1] (
  .seq (
   .ops [D 6 (.mv (T 0)),
    D 7 (.len (T 6)),
    D 8 (.mv (T 1)),
    D 9 (.len (T 8)),
    D 10 (.bin .neq (T 7) (T 9))]) (
  .cond (T 10) (
   .seq (
    .ops [D 4 (.mv (.const (.bool false)))]) (
   .ret)) (
   .skip))) (
 .trim [] (
  .seq (
   .ops [D 5 (.mv (I 0))]) (
  .block 0 (
   .loop [0, 1, 5] (
    .seq (
     .seq (
      .ops [D 11 (.mv (T 5)),
       D 12 (.mv (T 0)),
       D 13 (.len (T 12)),
       D 14 (.bin .lss (T 11) (T 13))]) (
     .cond (T 14) (
      .skip) (
      .exit 0))) (
    .trim [0, 1, 5] (
     .block 1 (
      .trim [0, 1, 5, 26] (
       .draw [⟨0, 0, 0, D 17 (.mv (T 0))⟩,
        ⟨1, 0, 0, D 18 (.mv (T 5))⟩,
        ⟨2, 0, 3, D 19 (.ia 4 (T 17) (T 18))⟩,
        ⟨3, 1, 7, D 20 (.ldN 4 (T 19))⟩,
        ⟨4, 0, 0, D 21 (.mv (T 1))⟩,
        ⟨5, 0, 0, D 22 (.mv (T 5))⟩,
        ⟨6, 0, 48, D 23 (.ia 4 (T 21) (T 22))⟩,
        ⟨7, 1, 112, D 24 (.ldN 4 (T 23))⟩,
        ⟨8, 4, 255, D 25 (.call 46 [(T 20), (T 24)])⟩,
        ⟨9, 0, 511, D 26 (.un .not (T 25))⟩]) (
      .cond (T 26) (
       .seq (
        .ops [D 4 (.mv (.const (.bool false)))]) (
       .ret)) (
       .skip)))) (
    .ops [D 15 (.mv (T 5)),
     D 16 (.bin .add (T 15) (I 1)),
     D 5 (.mv (T 16))])))))) (
 .seq (
  .ops [D 4 (.mv (.const (.bool true)))]) (
 .ret))))⟩
theorem dioramaref00_EqNodes_ok : Ok Tryz.prog 102 dioramaref00_EqNodes := ⟨by kernel_rfl, by kernel_rfl⟩

/-- diorama/picture.within -/
def picture_within : AF := ⟨15, [.tmp 6],
 .seq (
  .ops [D 6 (.mv (.const (.bool false)))]) (
 .trim [6] (
  .ops [D 7 (.mv (T 0)),
   D 8 (.mv (T 1)),
   D 9 (.bin .geq (T 7) (T 8)),
   D 10 (.mv (T 9)),
   ⟨(some 11), some (10, true), .mv (T 0)⟩,
   ⟨(some 12), some (10, true), .mv (T 2)⟩,
   ⟨(some 13), some (10, true), .bin .leq (T 11) (T 12)⟩,
   D 14 (.pick (T 10) (T 13) (.const (.bool false))),
   D 6 (.mv (T 14))]) (
 .ret))⟩
theorem picture_within_ok : Ok Tryz.prog 103 picture_within := ⟨by kernel_rfl, by kernel_rfl⟩

/-- slices.ContainsFunc[[][]int,[]int] -/
def slices_ContainsFunc_____int___int_ : AF := ⟨9, [.tmp 4],
 .seq (
  .ops [D 4 (.mv (.const (.bool false)))]) (
 .seq (
  .ops [D 5 (.mv (T 0)),
   D 6 (.mv (T 1)),
   D 7 (.call 157 [(T 5), (T 6)]),
   D 8 (.bin .geq (T 7) (I 0)),
   D 4 (.mv (T 8))]) (
 .ret))⟩
theorem slices_ContainsFunc_____int___int__ok : Ok Tryz.prog 104 slices_ContainsFunc_____int___int_ := ⟨by kernel_rfl, by kernel_rfl⟩

/-- diorama/picture.Check$1 -/
def picture_Check_1 : AF := ⟨12, [.tmp 3],
 .seq (
  .ops [D 3 (.mv (.const (.bool false)))]) (
 .trim [3] (
  .ops [D 4 (.mv (T 0)),
   D 5 (.len (T 4)),
   D 6 (.fa 0 (T 1)),
   D 7 (.ld1 (T 6)),
   D 8 (.fa 1 (T 1)),
   D 9 (.ld1 (T 8)),
   D 10 (.bin .mul (T 7) (T 9)),
   D 11 (.bin .neq (T 5) (T 10)),
   D 3 (.mv (T 11))]) (
 .ret))⟩
theorem picture_Check_1_ok : Ok Tryz.prog 105 picture_Check_1 := ⟨by kernel_rfl, by kernel_rfl⟩

/-- diorama/picture.Check$2 -/
def picture_Check_2 : AF := ⟨11, [.tmp 3],
 .seq (
  .ops [D 3 (.mv (.const (.bool false)))]) (
 .trim [3] (
  .ops [D 4 (.mv (T 0)),
   D 5 (.fa 2 (T 1)),
   D 6 (.ld1 (T 5)),
   D 7 (.bin .shl (I 1) (T 6)),
   D 8 (.bin .sub (T 7) (I 1)),
   D 9 (.call 103 [(T 4), (I 0), (T 8)]),
   D 10 (.un .not (T 9)),
   D 3 (.mv (T 10))]) (
 .ret))⟩
theorem picture_Check_2_ok : Ok Tryz.prog 106 picture_Check_2 := ⟨by kernel_rfl, by kernel_rfl⟩

/-- diorama/item.blank -/
def item_blank : AF := ⟨28, [.cellN 4 8],
 .seq (
  .ops [D 8 (.alloc [(.int .i64 0), (.int .i64 0), (.int .i64 0), (.slice none 0 0)])]) (
 .seq (
  .ops [D 10 (.mv (T 0)),
   D 11 (.mv (T 1)),
   D 12 (.mv (T 2)),
   D 13 (.build [(.int .i64 0), (.int .i64 0), (.int .i64 0), (.slice none 0 0)] [(0, 1, (T 10)), (1, 1, (T 11)), (2, 1, (T 12))]),
   D 9 (.alloc [(.int .i64 0), (.int .i64 0), (.int .i64 0), (.slice none 0 0)]),
   E (.st 4 (T 9) (T 13))]) (
 .trim [8, 9] (
  .seq (
   .ops [D 14 (.mv (T 3)),
    D 15 (.mv (I 0))]) (
  .block 0 (
   .loop [0, 1, 8, 9, 14, 15] (
    .seq (
     .ops [D 16 (.bin .lss (T 15) (T 14))]) (
    .seq (
     .cond (T 16) (
      .skip) (
      .exit 0)) (
    .trim [0, 1, 8, 9, 14, 15] (
     .block 1 (
      .draw [⟨0, 0, 0, D 17 (.fa 3 (T 9))⟩,
       ⟨1, 1, 1, D 18 (.ld1 (T 17))⟩,
       ⟨2, 0, 0, D 19 (.mv (T 0))⟩,
       ⟨3, 0, 0, D 20 (.mv (T 1))⟩,
       ⟨4, 0, 12, D 21 (.bin .mul (T 19) (T 20))⟩,
       ⟨5, 2, 28, D 22 (.mks [(.int .i64 0)] 8 (T 21) (T 21))⟩,
       ⟨6, 2, 60, D 23 (.bslice [(.slice none 0 0)] 1 [(0, 1, (T 22))])⟩,
       ⟨7, 4, 127, D 24 (.app 1 24 (T 18) (T 23))⟩,
       ⟨8, 0, 255, D 25 (.fa 3 (T 9))⟩,
       ⟨9, 4, 511, E (.st 1 (T 25) (T 24))⟩])) (
    .ops [D 26 (.bin .add (T 15) (I 1)),
     D 15 (.mv (T 26))]))))))) (
 .seq (
  .ops [D 27 (.ldN 4 (T 9)),
   E (.st 4 (T 8) (T 27))]) (
 .ret))))⟩
theorem item_blank_ok : Ok Tryz.prog 107 item_blank := ⟨by kernel_rfl, by kernel_rfl⟩

/-- slices.Reverse[[]int,int] -/
def slices_Reverse___int_int_ : AF := ⟨28, [],
 .seq (
  .ops [D 4 (.mv (T 0)),
   D 5 (.len (T 4)),
   D 6 (.bin .sub (T 5) (I 1)),
   D 2 (.mv (I 0)),
   D 3 (.mv (T 6))]) (
 .block 0 (
  .loop [0, 2, 3] (
   .seq (
    .seq (
     .ops [D 7 (.mv (T 2)),
      D 8 (.mv (T 3)),
      D 9 (.bin .lss (T 7) (T 8))]) (
    .cond (T 9) (
     .skip) (
     .exit 0))) (
   .trim [0, 2, 3] (
    .block 1 (
     .draw [⟨0, 0, 0, D 14 (.mv (T 0))⟩,
      ⟨1, 0, 0, D 15 (.mv (T 2))⟩,
      ⟨2, 0, 0, D 16 (.mv (T 0))⟩,
      ⟨3, 0, 0, D 17 (.mv (T 3))⟩,
      ⟨4, 0, 0, D 18 (.mv (T 0))⟩,
      ⟨5, 0, 0, D 19 (.mv (T 3))⟩,
      ⟨6, 0, 48, D 20 (.ia 1 (T 18) (T 19))⟩,
      ⟨7, 1, 112, D 21 (.ld1 (T 20))⟩,
      ⟨8, 0, 0, D 22 (.mv (T 0))⟩,
      ⟨9, 0, 0, D 23 (.mv (T 2))⟩,
      ⟨10, 0, 768, D 24 (.ia 1 (T 22) (T 23))⟩,
      ⟨11, 1, 1792, D 25 (.ld1 (T 24))⟩,
      ⟨12, 0, 4083, D 26 (.ia 1 (T 14) (T 15))⟩,
      ⟨13, 4, 8179, E (.st 1 (T 26) (T 21))⟩,
      ⟨14, 0, 16383, D 27 (.ia 1 (T 16) (T 17))⟩,
      ⟨15, 4, 32767, E (.st 1 (T 27) (T 25))⟩])) (
   .ops [D 10 (.mv (T 2)),
    D 11 (.bin .add (T 10) (I 1)),
    D 12 (.mv (T 3)),
    D 13 (.bin .sub (T 12) (I 1)),
    D 2 (.mv (T 11)),
    D 3 (.mv (T 13))])))))⟩
theorem slices_Reverse___int_int__ok : Ok Tryz.prog 108 slices_Reverse___int_int_ := ⟨by kernel_rfl, by kernel_rfl⟩

/-- diorama/item.ranges$1 -/
def item_ranges_1 : AF := ⟨6, [.tmp 2],
 .seq (
  .ops [D 2 (.mv (.const (.bool false)))]) (
 .seq (
  .ops [D 3 (.mv (T 0)),
   D 4 (.call 48 [(T 3), (I 0), (I 4095)]),
   D 5 (.un .not (T 4)),
   D 2 (.mv (T 5))]) (
 .ret))⟩
theorem item_ranges_1_ok : Ok Tryz.prog 109 item_ranges_1 := ⟨by kernel_rfl, by kernel_rfl⟩

/-- diorama/item.ranges$2 -/
def item_ranges_2 : AF := ⟨6, [.tmp 2],
 .seq (
  .ops [D 2 (.mv (.const (.bool false)))]) (
 .seq (
  .ops [D 3 (.mv (T 0)),
   D 4 (.call 48 [(T 3), (I (-64)), (I 64)]),
   D 5 (.un .not (T 4)),
   D 2 (.mv (T 5))]) (
 .ret))⟩
theorem item_ranges_2_ok : Ok Tryz.prog 110 item_ranges_2 := ⟨by kernel_rfl, by kernel_rfl⟩

/-- slices.IndexFunc[[]diorama/api.Item,diorama/api.Item] -/
def slices_IndexFunc___api_Item_api_Item_ : AF := ⟨19, [.tmp 4],
 .seq (
  .ops [D 4 (.mv (I 0))]) (
 .trim [] (
  .seq (
   .ops [D 6 (.mv (T 0)),
    D 7 (.len (T 6)),
    D 8 (.mv (I 0))]) (
  .block 0 (
   .loop [0, 1, 7, 8] (
    .seq (
     .ops [D 9 (.bin .lss (T 8) (T 7))]) (
    .seq (
     .cond (T 9) (
      .skip) (
      .exit 0)) (
    .trim [0, 1, 7, 8] (
     .block 1 (
      .seq (
       .ops [D 10 (.mv (T 8)),
        D 5 (.mv (T 10))]) (
      .trim [0, 1, 5, 7, 8, 16] (
       .ops [D 11 (.mv (T 1)),
        D 12 (.mv (T 0)),
        D 13 (.mv (T 5)),
        D 14 (.ia 12 (T 12) (T 13)),
        D 15 (.ldN 12 (T 14)),
        D 16 (.callv (T 11) [(T 15)])]) (
      .cond (T 16) (
       .seq (
        .ops [D 17 (.mv (T 5)),
         D 4 (.mv (T 17))]) (
       .ret)) (
       .skip))))) (
    .ops [D 18 (.bin .add (T 8) (I 1)),
     D 8 (.mv (T 18))]))))))) (
 .seq (
  .ops [D 4 (.mv (I (-1)))]) (
 .ret)))⟩
theorem slices_IndexFunc___api_Item_api_Item__ok : Ok Tryz.prog 111 slices_IndexFunc___api_Item_api_Item_ := ⟨by kernel_rfl, by kernel_rfl⟩

/-- diorama/item.find$1 -/
def item_find_1 : AF := ⟨8, [.tmp 3],
 .seq (
  .ops [D 2 (.box (T 0)),
   D 3 (.mv (.const (.bool false)))]) (
 .seq (
  .ops [D 4 (.fa 0 (T 2)),
   D 5 (.ld1 (T 4)),
   D 6 (.ld1 (T 1)),
   D 7 (.bin .eql (T 5) (T 6)),
   D 3 (.mv (T 7))]) (
 .ret))⟩
theorem item_find_1_ok : Ok Tryz.prog 112 item_find_1 := ⟨by kernel_rfl, by kernel_rfl⟩

/-- slices.IndexFunc[[]int,int] -/
def slices_IndexFunc___int_int_ : AF := ⟨19, [.tmp 4],
 .seq (
  .ops [D 4 (.mv (I 0))]) (
 .trim [] (
  .seq (
   .ops [D 6 (.mv (T 0)),
    D 7 (.len (T 6)),
    D 8 (.mv (I 0))]) (
  .block 0 (
   .loop [0, 1, 7, 8] (
    .seq (
     .ops [D 9 (.bin .lss (T 8) (T 7))]) (
    .seq (
     .cond (T 9) (
      .skip) (
      .exit 0)) (
    .trim [0, 1, 7, 8] (
     .block 1 (
      .seq (
       .ops [D 10 (.mv (T 8)),
        D 5 (.mv (T 10))]) (
      .trim [0, 1, 5, 7, 8, 16] (
       .ops [D 11 (.mv (T 1)),
        D 12 (.mv (T 0)),
        D 13 (.mv (T 5)),
        D 14 (.ia 1 (T 12) (T 13)),
        D 15 (.ld1 (T 14)),
        D 16 (.callv (T 11) [(T 15)])]) (
      .cond (T 16) (
       .seq (
        .ops [D 17 (.mv (T 5)),
         D 4 (.mv (T 17))]) (
       .ret)) (
       .skip))))) (
    .ops [D 18 (.bin .add (T 8) (I 1)),
     D 8 (.mv (T 18))]))))))) (
 .seq (
  .ops [D 4 (.mv (I (-1)))]) (
 .ret)))⟩
theorem slices_IndexFunc___int_int__ok : Ok Tryz.prog 113 slices_IndexFunc___int_int_ := ⟨by kernel_rfl, by kernel_rfl⟩

/-- diorama/item.loops$1 -/
def item_loops_1 : AF := ⟨38, [.tmp 6],
 .seq (
  .ops [D 6 (.mv (.const (.bool false)))]) (
 .trim [] (
  .seq (
   .ops [D 10 (.ld1 (T 1)),
    D 11 (.mv (T 0)),
    D 12 (.ia 12 (T 10) (T 11)),
    D 13 (.fa 3 (T 12)),
    D 14 (.ld1 (T 13)),
    D 15 (.len (T 14)),
    D 16 (.mv (I 0))]) (
  .block 0 (
   .loop [1, 2, 3, 4, 14, 15, 16] (
    .seq (
     .ops [D 17 (.bin .lss (T 16) (T 15))]) (
    .seq (
     .cond (T 17) (
      .skip) (
      .exit 0)) (
    .trim [1, 2, 3, 4, 14, 15, 16] (
     .block 1 (
      .seq (
       .ops [D 18 (.ia 1 (T 14) (T 16)),
        D 19 (.ld1 (T 18)),
        D 8 (.mv (T 19))]) (
      .seq (
       .ops [D 20 (.ld1 (T 1)),
        D 21 (.mv (T 8)),
        D 22 (.call 55 [(T 20), (T 21)]),
        D 9 (.mv (T 22))]) (
      .seq (
       .seq (
        .ops [D 23 (.mv (T 9)),
         D 24 (.ld1 (T 2)),
         D 25 (.bin .eql (T 23) (T 24))]) (
       .cond (T 25) (
        .seq (
         .ops [D 6 (.mv (.const (.bool true)))]) (
        .ret)) (
        .skip))) (
      .seq (
       .ops [D 26 (.ld1 (T 3)),
        D 27 (.mv (T 9)),
        D 28 (.ia 1 (T 26) (T 27)),
        D 29 (.ld1 (T 28)),
        D 30 (.un .not (T 29))]) (
      .cond (T 30) (
       .seq (
        .ops [D 31 (.ld1 (T 3)),
         D 32 (.mv (T 9)),
         D 33 (.ia 1 (T 31) (T 32)),
         E (.st 1 (T 33) (.const (.bool true)))]) (
       .seq (
        .ops [D 34 (.ld1 (T 4)),
         D 35 (.mv (T 9)),
         D 36 (.callv (T 34) [(T 35)])]) (
       .cond (T 36) (
        .seq (
         .ops [D 6 (.mv (.const (.bool true)))]) (
        .ret)) (
        .skip)))) (
       .skip))))))) (
    .ops [D 37 (.bin .add (T 16) (I 1)),
     D 16 (.mv (T 37))]))))))) (
 .seq (
  .ops [D 6 (.mv (.const (.bool false)))]) (
 .ret)))⟩
theorem item_loops_1_ok : Ok Tryz.prog 114 item_loops_1 := ⟨by kernel_rfl, by kernel_rfl⟩

/-- diorama/dioramaref15.all -/
def dioramaref15_all : AF := ⟨22, [.tmp 6],
 .seq (
  .ops [D 6 (.mv (.const (.bool false)))]) (
 .trim [] (
  .seq (
   .ops [D 7 (.mv (I 0))]) (
  .block 0 (
   .loop [0, 1, 2, 7] (
    .seq (
     .seq (
      .ops [D 8 (.mv (T 7)),
       D 9 (.mv (T 0)),
       D 10 (.len (T 9)),
       D 11 (.bin .lss (T 8) (T 10))]) (
     .cond (T 11) (
      .skip) (
      .exit 0))) (
    .trim [0, 1, 2, 7] (
     .block 1 (
      .trim [0, 1, 2, 7, 21] (
       .ops [D 14 (.mv (T 0)),
        D 15 (.mv (T 7)),
        D 16 (.ia 1 (T 14) (T 15)),
        D 17 (.ld1 (T 16)),
        D 18 (.mv (T 1)),
        D 19 (.mv (T 2)),
        D 20 (.call 50 [(T 17), (T 18), (T 19)]),
        D 21 (.un .not (T 20))]) (
      .cond (T 21) (
       .seq (
        .ops [D 6 (.mv (.const (.bool false)))]) (
       .ret)) (
       .skip)))) (
    .ops [D 12 (.mv (T 7)),
     D 13 (.bin .add (T 12) (I 1)),
     D 7 (.mv (T 13))])))))) (
 .seq (
  .ops [D 6 (.mv (.const (.bool true)))]) (
 .ret)))⟩
theorem dioramaref15_all_ok : Ok Tryz.prog 115 dioramaref15_all := ⟨by kernel_rfl, by kernel_rfl⟩

/-- diorama/item.order$1 -/
def item_order_1 : AF := ⟨30, [],
 .seq (
  .seq (
   .ops [D 7 (.ld1 (T 1)),
    D 8 (.mv (T 0)),
    D 9 (.call 117 [(T 7), (T 8)])]) (
  .cond (T 9) (
   .ret) (
   .skip))) (
 .trim [0, 1] (
  .seq (
   .ops [D 10 (.ld1 (T 2)),
    D 11 (.mv (T 0)),
    D 12 (.ia 12 (T 10) (T 11)),
    D 13 (.fa 3 (T 12)),
    D 14 (.ld1 (T 13)),
    D 15 (.len (T 14)),
    D 16 (.mv (I 0))]) (
  .block 0 (
   .loop [0, 1, 2, 3, 14, 15, 16] (
    .seq (
     .ops [D 17 (.bin .lss (T 16) (T 15))]) (
    .seq (
     .cond (T 17) (
      .skip) (
      .exit 0)) (
    .trim [0, 1, 2, 3, 14, 15, 16] (
     .block 1 (
      .seq (
       .ops [D 18 (.ia 1 (T 14) (T 16)),
        D 19 (.ld1 (T 18)),
        D 6 (.mv (T 19))]) (
      .draw [⟨0, 1, 0, D 20 (.ld1 (T 3))⟩,
       ⟨1, 1, 0, D 21 (.ld1 (T 2))⟩,
       ⟨2, 0, 0, D 22 (.mv (T 6))⟩,
       ⟨3, 4, 6, D 23 (.call 55 [(T 21), (T 22)])⟩,
       ⟨4, 4, 15, D 24 (.callv (T 20) [(T 23)])⟩]))) (
    .ops [D 25 (.bin .add (T 16) (I 1)),
     D 16 (.mv (T 25))]))))))) (
 .ops [D 26 (.ld1 (T 1)),
  D 27 (.mv (T 0)),
  D 28 (.bslice [(.int .i64 0)] 1 [(0, 1, (T 27))]),
  D 29 (.app 1 8 (T 26) (T 28)),
  E (.st 1 (T 1) (T 29))]))⟩
theorem item_order_1_ok : Ok Tryz.prog 116 item_order_1 := ⟨by kernel_rfl, by kernel_rfl⟩

/-- slices.Contains[[]int,int] -/
def slices_Contains___int_int_ : AF := ⟨9, [.tmp 4],
 .seq (
  .ops [D 4 (.mv (.const (.bool false)))]) (
 .seq (
  .ops [D 5 (.mv (T 0)),
   D 6 (.mv (T 1)),
   D 7 (.call 158 [(T 5), (T 6)]),
   D 8 (.bin .geq (T 7) (I 0)),
   D 4 (.mv (T 8))]) (
 .ret))⟩
theorem slices_Contains___int_int__ok : Ok Tryz.prog 117 slices_Contains___int_int_ := ⟨by kernel_rfl, by kernel_rfl⟩

/-- diorama/dioramaref15.visit -/
def dioramaref15_visit : AF := ⟨46, [.tmp 6],
 .seq (
  .ops [D 6 (.mv (.const (.slice none 0 0)))]) (
 .trim [0, 1, 2] (
  .seq (
   .ops [D 8 (.mv (T 2)),
    D 9 (.mv (T 1)),
    D 10 (.call 159 [(T 8), (T 9)]),
    D 11 (.bin .geq (T 10) (I 0))]) (
  .cond (T 11) (
   .seq (
    .ops [D 12 (.mv (T 2)),
     D 6 (.mv (T 12))]) (
   .ret)) (
   .skip))) (
 .trim [1, 2] (
  .seq (
   .ops [D 7 (.mv (I 0))]) (
  .block 0 (
   .loop [0, 1, 2, 7] (
    .trim [0, 1, 2, 7] (
     .trim [0, 1, 2, 7, 20] (
      .ops [D 13 (.mv (T 7)),
       D 14 (.mv (T 0)),
       D 15 (.mv (T 1)),
       D 16 (.ia 12 (T 14) (T 15)),
       D 17 (.fa 3 (T 16)),
       D 18 (.ld1 (T 17)),
       D 19 (.len (T 18)),
       D 20 (.bin .lss (T 13) (T 19))]) (
     .cond (T 20) (
      .skip) (
      .exit 0))) (
    .trim [0, 1, 2, 7] (
     .block 1 (
      .ops [D 23 (.mv (T 0)),
       D 24 (.mv (T 0)),
       D 25 (.mv (T 0)),
       D 26 (.mv (T 1)),
       D 27 (.ia 12 (T 25) (T 26)),
       D 28 (.fa 3 (T 27)),
       D 29 (.ld1 (T 28)),
       D 30 (.mv (T 7)),
       D 31 (.ia 1 (T 29) (T 30)),
       D 32 (.ld1 (T 31)),
       D 33 (.call 61 [(T 24), (T 32)]),
       D 34 (.mv (T 2)),
       D 35 (.call 118 [(T 23), (T 33), (T 34)]),
       D 2 (.mv (T 35))])) (
    .ops [D 21 (.mv (T 7)),
     D 22 (.bin .add (T 21) (I 1)),
     D 7 (.mv (T 22))])))))) (
 .trim [1, 2] (
  .seq (
   .ops [D 36 (.mv (T 2)),
    D 37 (.mv (T 1)),
    D 38 (.call 159 [(T 36), (T 37)]),
    D 39 (.bin .geq (T 38) (I 0))]) (
  .cond (T 39) (
   .seq (
    .ops [D 40 (.mv (T 2)),
     D 6 (.mv (T 40))]) (
   .ret)) (
   .skip))) (
 .trim [6] (
  .ops [D 41 (.mv (T 2)),
   D 42 (.call 88 [(T 41)]),
   D 43 (.mv (T 1)),
   D 44 (.bslice [(.int .i64 0)] 1 [(0, 1, (T 43))]),
   D 45 (.app 1 8 (T 42) (T 44)),
   D 6 (.mv (T 45))]) (
 .ret)))))⟩
theorem dioramaref15_visit_ok : Ok Tryz.prog 118 dioramaref15_visit := ⟨by kernel_rfl, by kernel_rfl⟩

/-- slices.Clone[[][]int,[]int] -/
def slices_Clone_____int___int_ : AF := ⟨8, [.tmp 2],
 .seq (
  .ops [D 2 (.mv (.const (.slice none 0 0)))]) (
 .seq (
  .seq (
   .ops [D 3 (.mv (T 0)),
    D 4 (.nileq false 1 (T 3) (.const (.slice none 0 0)))]) (
  .cond (T 4) (
   .seq (
    .ops [D 2 (.mv (.const (.slice none 0 0)))]) (
   .ret)) (
   .skip))) (
 .seq (
  .ops [D 5 (.bslice [] 0 []),
   D 6 (.mv (T 0)),
   D 7 (.app 1 24 (T 5) (T 6)),
   D 2 (.mv (T 7))]) (
 .ret)))⟩
theorem slices_Clone_____int___int__ok : Ok Tryz.prog 119 slices_Clone_____int___int_ := ⟨by kernel_rfl, by kernel_rfl⟩

/-- slices.Clone[[]int,int] -/
def slices_Clone___int_int_ : AF := ⟨8, [.tmp 2],
 .seq (
  .ops [D 2 (.mv (.const (.slice none 0 0)))]) (
 .seq (
  .seq (
   .ops [D 3 (.mv (T 0)),
    D 4 (.nileq false 1 (T 3) (.const (.slice none 0 0)))]) (
  .cond (T 4) (
   .seq (
    .ops [D 2 (.mv (.const (.slice none 0 0)))]) (
   .ret)) (
   .skip))) (
 .seq (
  .ops [D 5 (.bslice [] 0 []),
   D 6 (.mv (T 0)),
   D 7 (.app 1 8 (T 5) (T 6)),
   D 2 (.mv (T 7))]) (
 .ret)))⟩
theorem slices_Clone___int_int__ok : Ok Tryz.prog 120 slices_Clone___int_int_ := ⟨by kernel_rfl, by kernel_rfl⟩

/-- diorama/dioramaref15.covers -/
def dioramaref15_covers : AF := ⟨20, [.tmp 6],
 .seq (
  .ops [D 6 (.mv (.const (.bool false)))]) (
 .trim [6] (
  .ops [D 7 (.mv (T 0)),
   D 8 (.bin .sub (T 7) (I 1)),
   D 9 (.mv (T 1)),
   D 10 (.bin .mul (T 8) (T 9)),
   D 11 (.mv (T 2)),
   D 12 (.bin .lss (T 10) (T 11)),
   D 13 (.mv (T 12)),
   ⟨(some 14), some (13, true), .mv (T 2)⟩,
   ⟨(some 15), some (13, true), .mv (T 0)⟩,
   ⟨(some 16), some (13, true), .mv (T 1)⟩,
   ⟨(some 17), some (13, true), .bin .mul (T 15) (T 16)⟩,
   ⟨(some 18), some (13, true), .bin .leq (T 14) (T 17)⟩,
   D 19 (.pick (T 13) (T 18) (.const (.bool false))),
   D 6 (.mv (T 19))]) (
 .ret))⟩
theorem dioramaref15_covers_ok : Ok Tryz.prog 121 dioramaref15_covers := ⟨by kernel_rfl, by kernel_rfl⟩

/-- diorama/box.put -/
def box_put : AF := ⟨18, [.tmp 6],
 .seq (
  .ops [D 6 (.mv (.const (.slice none 0 0)))]) (
 .trim [0, 7] (
  .ops [D 10 (.mv (T 1)),
   D 11 (.mv (T 2)),
   D 12 (.call 156 [(T 10), (T 11)]),
   D 9 (.mv (T 12)),
   D 13 (.ext (T 9) 0),
   D 14 (.ext (T 9) 1),
   D 7 (.mv (T 13)),
   D 8 (.mv (T 14))]) (
 .seq (
  .ops [D 15 (.mv (T 0)),
   D 16 (.mv (T 7)),
   D 17 (.app 1 1 (T 15) (T 16)),
   D 6 (.mv (T 17))]) (
 .ret)))⟩
theorem box_put_ok : Ok Tryz.prog 140 box_put := ⟨by kernel_rfl, by kernel_rfl⟩

/-- diorama/box.Type -/
def box_Type : AF := ⟨34, [.tmp 2, .tmp 3],
 .seq (
  .ops [D 2 (.mv (I 0)),
   D 3 (.mv (I 0))]) (
 .trim [0] (
  .trim [0, 30] (
   .ops [D 4 (.mv (T 0)),
    D 5 (.lens (T 4)),
    D 6 (.bin .neq (T 5) (I 4)),
    D 7 (.mv (T 6)),
    ⟨(some 8), some (7, false), .mv (T 0)⟩,
    ⟨(some 9), some (7, false), .ixs (T 8) (I 0)⟩,
    ⟨(some 10), some (7, false), .call 193 [(T 9)]⟩,
    ⟨(some 11), some (7, false), .un .not (T 10)⟩,
    D 12 (.pick (T 7) (.const (.bool true)) (T 11)),
    D 13 (.mv (T 12)),
    ⟨(some 14), some (13, false), .mv (T 0)⟩,
    ⟨(some 15), some (13, false), .ixs (T 14) (I 1)⟩,
    ⟨(some 16), some (13, false), .call 193 [(T 15)]⟩,
    ⟨(some 17), some (13, false), .un .not (T 16)⟩,
    D 18 (.pick (T 13) (.const (.bool true)) (T 17)),
    D 19 (.mv (T 18)),
    ⟨(some 20), some (19, false), .mv (T 0)⟩,
    ⟨(some 21), some (19, false), .ixs (T 20) (I 2)⟩,
    ⟨(some 22), some (19, false), .call 193 [(T 21)]⟩,
    ⟨(some 23), some (19, false), .un .not (T 22)⟩,
    D 24 (.pick (T 19) (.const (.bool true)) (T 23)),
    D 25 (.mv (T 24)),
    ⟨(some 26), some (25, false), .mv (T 0)⟩,
    ⟨(some 27), some (25, false), .ixs (T 26) (I 3)⟩,
    ⟨(some 28), some (25, false), .call 193 [(T 27)]⟩,
    ⟨(some 29), some (25, false), .un .not (T 28)⟩,
    D 30 (.pick (T 25) (.const (.bool true)) (T 29))]) (
  .cond (T 30) (
   .seq (
    .ops [D 2 (.mv (I 0)),
     D 3 (.mv (I 80))]) (
   .ret)) (
   .skip))) (
 .seq (
  .ops [D 31 (.mv (T 0)),
   D 32 (.sob (T 31)),
   D 33 (.call 194 [(T 32), (I 4)]),
   D 2 (.mv (T 33)),
   D 3 (.mv (I 0))]) (
 .ret)))⟩
theorem box_Type_ok : Ok Tryz.prog 141 box_Type := ⟨by kernel_rfl, by kernel_rfl⟩

/-- diorama/box.clone -/
def box_clone : AF := ⟨30, [.cellN 4 2],
 .seq (
  .ops [D 1 (.box (T 0)),
   D 2 (.alloc [(.int .i64 0), (.slice none 0 0), (.slice none 0 0), (.bool false)])]) (
 .seq (
  .ops [D 4 (.fa 1 (T 1)),
   D 5 (.ld1 (T 4)),
   D 6 (.call 195 [(T 5)]),
   D 7 (.fa 1 (T 1)),
   E (.st 1 (T 7) (T 6))]) (
 .seq (
  .ops [D 8 (.fa 2 (T 1)),
   D 9 (.ld1 (T 8)),
   D 10 (.call 196 [(T 9)]),
   D 11 (.fa 2 (T 1)),
   E (.st 1 (T 11) (T 10))]) (
 .trim [1, 2] (
  .seq (
   .ops [D 12 (.fa 2 (T 1)),
    D 13 (.ld1 (T 12)),
    D 14 (.len (T 13)),
    D 15 (.mv (I 0))]) (
  .block 0 (
   .loop [1, 2, 14, 15] (
    .seq (
     .ops [D 16 (.bin .lss (T 15) (T 14))]) (
    .seq (
     .cond (T 16) (
      .skip) (
      .exit 0)) (
    .trim [1, 2, 14, 15] (
     .block 1 (
      .seq (
       .ops [D 17 (.mv (T 15)),
        D 3 (.mv (T 17))]) (
      .draw [⟨0, 0, 0, D 18 (.fa 2 (T 1))⟩,
       ⟨1, 1, 1, D 19 (.ld1 (T 18))⟩,
       ⟨2, 0, 0, D 20 (.mv (T 3))⟩,
       ⟨3, 0, 0, D 21 (.fa 2 (T 1))⟩,
       ⟨4, 1, 8, D 22 (.ld1 (T 21))⟩,
       ⟨5, 0, 0, D 23 (.mv (T 3))⟩,
       ⟨6, 0, 56, D 24 (.ia 4 (T 22) (T 23))⟩,
       ⟨7, 1, 120, D 25 (.ldN 4 (T 24))⟩,
       ⟨8, 4, 248, D 26 (.call 142 [(T 25)])⟩,
       ⟨9, 0, 511, D 27 (.ia 4 (T 19) (T 20))⟩,
       ⟨10, 4, 1023, E (.st 4 (T 27) (T 26))⟩]))) (
    .ops [D 28 (.bin .add (T 15) (I 1)),
     D 15 (.mv (T 28))]))))))) (
 .seq (
  .ops [D 29 (.ldN 4 (T 1)),
   E (.st 4 (T 2) (T 29))]) (
 .ret)))))⟩
theorem box_clone_ok : Ok Tryz.prog 142 box_clone := ⟨by kernel_rfl, by kernel_rfl⟩

/-- diorama/item.only -/
def item_only : AF := ⟨24, [.tmp 4, .tmp 5],
 .seq (
  .ops [D 4 (.mv (.const (.pointer none))),
   D 5 (.mv (I 0))]) (
 .trim [6] (
  .ops [D 7 (.mv (T 0)),
   D 8 (.mv (T 1)),
   D 9 (.call 90 [(T 7), (T 8)]),
   D 10 (.call 196 [(T 9)]),
   D 11 (.call 197 [(T 10), (.func 198)]),
   D 6 (.mv (T 11))]) (
 .trim [] (
  .seq (
   .ops [D 12 (.mv (T 6)),
    D 13 (.len (T 12))]) (
  .block 0 (
   .seq (
    .ops [D 15 (.bin .eql (T 13) (I 0)),
     D 14 (.mv (T 15))]) (
   .cond (T 14) (
    .seq (
     .ops [D 4 (.mv (.const (.pointer none))),
      D 5 (.mv (I 61))]) (
    .ret)) (
    .seq (
     .ops [D 17 (.bin .eql (T 13) (I 1)),
      D 16 (.mv (T 17))]) (
    .cond (T 16) (
     .trim [4, 5] (
      .ops [D 18 (.mv (T 6)),
       D 19 (.ia 4 (T 18) (I 0)),
       D 20 (.fa 1 (T 19)),
       D 21 (.ld1 (T 20)),
       D 22 (.build [(.slice none 0 0), (.int .i64 0), (.int .i64 0)] [(0, 1, (T 21))]),
       D 23 (.box (T 22)),
       D 4 (.mv (T 23)),
       D 5 (.mv (I 0))]) (
     .ret)) (
     .skip))))))) (
 .seq (
  .ops [D 4 (.mv (.const (.pointer none))),
   D 5 (.mv (I 62))]) (
 .ret))))⟩
theorem item_only_ok : Ok Tryz.prog 143 item_only := ⟨by kernel_rfl, by kernel_rfl⟩

/-- (*diorama/item.reader).n -/
def item_reader__n : AF := ⟨51, [.tmp 4],
 .seq (
  .ops [D 4 (.mv (I 0))]) (
 .trim [0, 1] (
  .trim [0, 1, 25] (
   .draw [⟨0, 0, 0, D 7 (.mv (T 0))⟩,
    ⟨1, 0, 1, D 8 (.nil (T 7))⟩,
    ⟨2, 0, 3, D 9 (.fa 2 (T 8))⟩,
    ⟨3, 1, 7, D 10 (.ld1 (T 9))⟩,
    ⟨4, 0, 15, D 11 (.bin .neq (T 10) (I 0))⟩,
    ⟨5, 0, 31, D 12 (.mv (T 11))⟩,
    ⟨6, 0, 63, ⟨(some 13), some (12, false), .mv (T 0)⟩⟩,
    ⟨7, 0, 127, ⟨(some 14), some (12, false), .nil (T 13)⟩⟩,
    ⟨8, 0, 255, ⟨(some 15), some (12, false), .fa 0 (T 14)⟩⟩,
    ⟨9, 1, 511, ⟨(some 16), some (12, false), .ld1 (T 15)⟩⟩,
    ⟨10, 0, 1023, ⟨(some 17), some (12, false), .len (T 16)⟩⟩,
    ⟨11, 0, 63, ⟨(some 18), some (12, false), .mv (T 0)⟩⟩,
    ⟨12, 0, 2111, ⟨(some 19), some (12, false), .nil (T 18)⟩⟩,
    ⟨13, 0, 6207, ⟨(some 20), some (12, false), .fa 1 (T 19)⟩⟩,
    ⟨14, 1, 14399, ⟨(some 21), some (12, false), .ld1 (T 20)⟩⟩,
    ⟨15, 0, 32767, ⟨(some 22), some (12, false), .bin .sub (T 17) (T 21)⟩⟩,
    ⟨16, 0, 63, ⟨(some 23), some (12, false), .mv (T 1)⟩⟩,
    ⟨17, 0, 131071, ⟨(some 24), some (12, false), .bin .lss (T 22) (T 23)⟩⟩,
    ⟨18, 0, 262143, D 25 (.pick (T 12) (.const (.bool true)) (T 24))⟩]) (
  .cond (T 25) (
   .seq (
    .ops [D 26 (.mv (T 0)),
     D 27 (.nil (T 26)),
     D 28 (.fa 2 (T 27)),
     E (.st 1 (T 28) (I 3))]) (
   .seq (
    .ops [D 4 (.mv (I 0))]) (
   .ret))) (
   .skip))) (
 .trim [0, 1, 5] (
  .draw [⟨0, 0, 0, D 30 (.mv (T 0))⟩,
   ⟨1, 0, 1, D 31 (.nil (T 30))⟩,
   ⟨2, 0, 3, D 32 (.fa 0 (T 31))⟩,
   ⟨3, 1, 7, D 33 (.ld1 (T 32))⟩,
   ⟨4, 0, 0, D 34 (.mv (T 0))⟩,
   ⟨5, 0, 16, D 35 (.nil (T 34))⟩,
   ⟨6, 0, 48, D 36 (.fa 1 (T 35))⟩,
   ⟨7, 1, 112, D 37 (.ld1 (T 36))⟩,
   ⟨8, 0, 0, D 38 (.mv (T 1))⟩,
   ⟨9, 4, 511, D 39 (.call 199 [(T 33), (T 37), (T 38)])⟩,
   ⟨10, 0, 1023, D 29 (.mv (T 39))⟩,
   ⟨11, 0, 2047, D 40 (.ext (T 29) 0)⟩,
   ⟨12, 0, 2047, D 41 (.ext (T 29) 1)⟩,
   ⟨13, 0, 4095, D 5 (.mv (T 40))⟩,
   ⟨14, 0, 16383, D 6 (.mv (T 41))⟩]) (
 .trim [5] (
  .ops [D 42 (.mv (T 0)),
   D 43 (.nil (T 42)),
   D 44 (.fa 1 (T 43)),
   D 45 (.ld1 (T 44)),
   D 46 (.mv (T 1)),
   D 47 (.bin .add (T 45) (T 46)),
   D 48 (.nil (T 42)),
   D 49 (.fa 1 (T 48)),
   E (.st 1 (T 49) (T 47))]) (
 .seq (
  .ops [D 50 (.mv (T 5)),
   D 4 (.mv (T 50))]) (
 .ret)))))⟩
theorem item_reader__n_ok : Ok Tryz.prog 144 item_reader__n := ⟨by kernel_rfl, by kernel_rfl⟩

/-- (*diorama/item.reader).close -/
def item_reader__close : AF := ⟨24, [.tmp 2],
 .seq (
  .ops [D 2 (.mv (I 0))]) (
 .trim [0] (
  .trim [0, 19] (
   .draw [⟨0, 0, 0, D 3 (.mv (T 0))⟩,
    ⟨1, 0, 1, D 4 (.nil (T 3))⟩,
    ⟨2, 0, 3, D 5 (.fa 2 (T 4))⟩,
    ⟨3, 1, 7, D 6 (.ld1 (T 5))⟩,
    ⟨4, 0, 15, D 7 (.bin .eql (T 6) (I 0))⟩,
    ⟨5, 0, 31, D 8 (.mv (T 7))⟩,
    ⟨6, 0, 63, ⟨(some 9), some (8, true), .mv (T 0)⟩⟩,
    ⟨7, 0, 127, ⟨(some 10), some (8, true), .nil (T 9)⟩⟩,
    ⟨8, 0, 255, ⟨(some 11), some (8, true), .fa 1 (T 10)⟩⟩,
    ⟨9, 1, 511, ⟨(some 12), some (8, true), .ld1 (T 11)⟩⟩,
    ⟨10, 0, 63, ⟨(some 13), some (8, true), .mv (T 0)⟩⟩,
    ⟨11, 0, 1087, ⟨(some 14), some (8, true), .nil (T 13)⟩⟩,
    ⟨12, 0, 3135, ⟨(some 15), some (8, true), .fa 0 (T 14)⟩⟩,
    ⟨13, 1, 7231, ⟨(some 16), some (8, true), .ld1 (T 15)⟩⟩,
    ⟨14, 0, 15423, ⟨(some 17), some (8, true), .len (T 16)⟩⟩,
    ⟨15, 0, 32767, ⟨(some 18), some (8, true), .bin .lss (T 12) (T 17)⟩⟩,
    ⟨16, 0, 65535, D 19 (.pick (T 8) (T 18) (.const (.bool false)))⟩]) (
  .cond (T 19) (
   .seq (
    .ops [D 2 (.mv (I 4))]) (
   .ret)) (
   .skip))) (
 .seq (
  .ops [D 20 (.mv (T 0)),
   D 21 (.nil (T 20)),
   D 22 (.fa 2 (T 21)),
   D 23 (.ld1 (T 22)),
   D 2 (.mv (T 23))]) (
 .ret)))⟩
theorem item_reader__close_ok : Ok Tryz.prog 145 item_reader__close := ⟨by kernel_rfl, by kernel_rfl⟩

/-- diorama/item.needed -/
def item_needed : AF := ⟨14, [.tmp 2],
 .seq (
  .ops [D 2 (.mv (.const (.slice none 0 0)))]) (
 .trim [] (
  .seq (
   .ops [D 3 (.mv (T 0))]) (
  .block 0 (
   .seq (
    .ops [D 5 (.bin .eql (T 3) (I 0)),
     D 4 (.mv (T 5))]) (
   .cond (T 4) (
    .seq (
     .ops [D 6 (.bslice [(.string ⟨#[]⟩)] 1 [(0, 1, (.const (.string ⟨#[105, 100, 97, 116]⟩)))]),
      D 2 (.mv (T 6))]) (
    .ret)) (
    .seq (
     .ops [D 8 (.bin .eql (T 3) (I 1)),
      D 7 (.mv (T 8))]) (
    .cond (T 7) (
     .seq (
      .ops [D 9 (.bslice [(.string ⟨#[]⟩)] 1 [(0, 1, (.const (.string ⟨#[105, 114, 101, 102]⟩)))]),
       D 2 (.mv (T 9))]) (
     .ret)) (
     .seq (
      .ops [D 11 (.bin .eql (T 3) (I 2)),
       D 10 (.mv (T 11))]) (
     .cond (T 10) (
      .seq (
       .ops [D 12 (.bslice [(.string ⟨#[]⟩), (.string ⟨#[]⟩)] 2 [(0, 1, (.const (.string ⟨#[105, 114, 101, 102]⟩))), (1, 1, (.const (.string ⟨#[105, 111, 118, 108]⟩)))]),
        D 2 (.mv (T 12))]) (
      .ret)) (
      .skip))))))))) (
 .seq (
  .ops [D 13 (.bslice [(.string ⟨#[]⟩), (.string ⟨#[]⟩)] 2 [(0, 1, (.const (.string ⟨#[105, 114, 101, 102]⟩))), (1, 1, (.const (.string ⟨#[105, 103, 114, 100]⟩)))]),
   D 2 (.mv (T 13))]) (
 .ret)))⟩
theorem item_needed_ok : Ok Tryz.prog 146 item_needed := ⟨by kernel_rfl, by kernel_rfl⟩

/-- diorama/item.first -/
def item_first : AF := ⟨41, [],
 .trim [0, 1] (
  .seq (
   .ops [D 4 (.mv (T 0)),
    D 5 (.nil (T 4)),
    D 6 (.fa 1 (T 5)),
    D 7 (.ld1 (T 6)),
    D 8 (.bin .eql (T 7) (I 0))]) (
  .cond (T 8) (
   .trim [1] (
    .ops [D 9 (.mv (T 0)),
     D 10 (.mv (T 1)),
     D 11 (.nil (T 10)),
     D 12 (.fa 0 (T 11)),
     D 13 (.ld1 (T 12)),
     D 14 (.call 98 [(T 13)]),
     D 15 (.nil (T 9)),
     D 16 (.fa 2 (T 15)),
     E (.st 1 (T 16) (T 14))]) (
   .trim [] (
    .ops [D 17 (.mv (T 1)),
     D 18 (.mv (T 1)),
     D 19 (.nil (T 18)),
     D 20 (.fa 0 (T 19)),
     D 21 (.ld1 (T 20)),
     D 22 (.len (T 21)),
     D 23 (.nil (T 17)),
     D 24 (.fa 1 (T 23)),
     E (.st 1 (T 24) (T 22))]) (
   .ret))) (
   .skip))) (
 .seq (
  .ops [D 25 (.mv (T 1)),
   D 26 (.call 144 [(T 25), (I 1)]),
   D 27 (.mv (I 0))]) (
 .block 0 (
  .loop [0, 1, 26, 27] (
   .seq (
    .ops [D 28 (.bin .lss (T 27) (T 26))]) (
   .seq (
    .cond (T 28) (
     .skip) (
     .exit 0)) (
   .trim [0, 1, 26, 27] (
    .block 1 (
     .draw [⟨0, 0, 0, D 29 (.mv (T 0))⟩,
      ⟨1, 0, 0, D 30 (.mv (T 0))⟩,
      ⟨2, 0, 2, D 31 (.nil (T 30))⟩,
      ⟨3, 0, 6, D 32 (.fa 3 (T 31))⟩,
      ⟨4, 1, 14, D 33 (.ld1 (T 32))⟩,
      ⟨5, 0, 0, D 34 (.mv (T 1))⟩,
      ⟨6, 4, 32, D 35 (.call 144 [(T 34), (I 4)])⟩,
      ⟨7, 2, 96, D 36 (.bslice [(.int .i64 0)] 1 [(0, 1, (T 35))])⟩,
      ⟨8, 4, 254, D 37 (.app 1 8 (T 33) (T 36))⟩,
      ⟨9, 0, 511, D 38 (.nil (T 29))⟩,
      ⟨10, 0, 1023, D 39 (.fa 3 (T 38))⟩,
      ⟨11, 4, 2047, E (.st 1 (T 39) (T 37))⟩])) (
   .ops [D 40 (.bin .add (T 27) (I 1)),
    D 27 (.mv (T 40))])))))))⟩
theorem item_first_ok : Ok Tryz.prog 147 item_first := ⟨by kernel_rfl, by kernel_rfl⟩

/-- diorama/item.second -/
def item_second : AF := ⟨86, [],
 .trim [0, 1] (
  .seq (
   .ops [D 4 (.mv (T 0)),
    D 5 (.nil (T 4)),
    D 6 (.fa 1 (T 5)),
    D 7 (.ld1 (T 6)),
    D 8 (.bin .eql (T 7) (I 3))]) (
  .cond (T 8) (
   .trim [0, 1] (
    .ops [D 9 (.mv (T 0)),
     D 10 (.mv (T 0)),
     D 11 (.mv (T 1)),
     D 12 (.call 144 [(T 11), (I 1)]),
     D 13 (.mv (T 1)),
     D 14 (.call 144 [(T 13), (I 1)]),
     D 15 (.nil (T 9)),
     D 16 (.fa 5 (T 15)),
     E (.st 1 (T 16) (T 12)),
     D 17 (.nil (T 10)),
     D 18 (.fa 6 (T 17)),
     E (.st 1 (T 18) (T 14))]) (
   .trim [] (
    .ops [D 19 (.mv (T 0)),
     D 20 (.mv (T 0)),
     D 21 (.mv (T 1)),
     D 22 (.call 144 [(T 21), (I 1)]),
     D 23 (.mv (T 1)),
     D 24 (.call 144 [(T 23), (I 1)]),
     D 25 (.nil (T 19)),
     D 26 (.fa 7 (T 25)),
     E (.st 1 (T 26) (T 22)),
     D 27 (.nil (T 20)),
     D 28 (.fa 8 (T 27)),
     E (.st 1 (T 28) (T 24))]) (
   .ret))) (
   .skip))) (
 .trim [0, 1] (
  .ops [D 29 (.mv (T 0)),
   D 30 (.mv (T 0)),
   D 31 (.mv (T 1)),
   D 32 (.call 144 [(T 31), (I 1)]),
   D 33 (.mv (T 1)),
   D 34 (.call 144 [(T 33), (I 1)]),
   D 35 (.nil (T 29)),
   D 36 (.fa 7 (T 35)),
   E (.st 1 (T 36) (T 32)),
   D 37 (.nil (T 30)),
   D 38 (.fa 8 (T 37)),
   E (.st 1 (T 38) (T 34))]) (
 .trim [0, 1] (
  .seq (
   .ops [D 39 (.mv (T 1)),
    D 40 (.call 144 [(T 39), (I 1)]),
    D 41 (.mv (I 0))]) (
  .block 0 (
   .loop [0, 1, 40, 41] (
    .seq (
     .ops [D 42 (.bin .lss (T 41) (T 40))]) (
    .seq (
     .cond (T 42) (
      .skip) (
      .exit 0)) (
    .trim [0, 1, 40, 41] (
     .block 1 (
      .draw [⟨0, 0, 0, D 43 (.mv (T 0))⟩,
       ⟨1, 0, 0, D 44 (.mv (T 0))⟩,
       ⟨2, 0, 2, D 45 (.nil (T 44))⟩,
       ⟨3, 0, 6, D 46 (.fa 9 (T 45))⟩,
       ⟨4, 1, 14, D 47 (.ld1 (T 46))⟩,
       ⟨5, 0, 0, D 48 (.mv (T 1))⟩,
       ⟨6, 4, 32, D 49 (.call 144 [(T 48), (I 2)])⟩,
       ⟨7, 2, 96, D 50 (.bslice [(.int .i64 0)] 1 [(0, 1, (T 49))])⟩,
       ⟨8, 4, 254, D 51 (.app 1 8 (T 47) (T 50))⟩,
       ⟨9, 0, 511, D 52 (.nil (T 43))⟩,
       ⟨10, 0, 1023, D 53 (.fa 9 (T 52))⟩,
       ⟨11, 4, 2047, E (.st 1 (T 53) (T 51))⟩])) (
    .ops [D 54 (.bin .add (T 41) (I 1)),
     D 41 (.mv (T 54))]))))))) (
 .block 2 (
  .loop [0, 1] (
   .trim [0, 1] (
    .trim [0, 1, 71] (
     .draw [⟨0, 0, 0, D 55 (.mv (T 1))⟩,
      ⟨1, 0, 1, D 56 (.nil (T 55))⟩,
      ⟨2, 0, 3, D 57 (.fa 2 (T 56))⟩,
      ⟨3, 1, 7, D 58 (.ld1 (T 57))⟩,
      ⟨4, 0, 15, D 59 (.bin .eql (T 58) (I 0))⟩,
      ⟨5, 0, 31, D 60 (.mv (T 59))⟩,
      ⟨6, 0, 63, ⟨(some 61), some (60, true), .mv (T 1)⟩⟩,
      ⟨7, 0, 127, ⟨(some 62), some (60, true), .nil (T 61)⟩⟩,
      ⟨8, 0, 255, ⟨(some 63), some (60, true), .fa 1 (T 62)⟩⟩,
      ⟨9, 1, 511, ⟨(some 64), some (60, true), .ld1 (T 63)⟩⟩,
      ⟨10, 0, 63, ⟨(some 65), some (60, true), .mv (T 1)⟩⟩,
      ⟨11, 0, 1087, ⟨(some 66), some (60, true), .nil (T 65)⟩⟩,
      ⟨12, 0, 3135, ⟨(some 67), some (60, true), .fa 0 (T 66)⟩⟩,
      ⟨13, 1, 7231, ⟨(some 68), some (60, true), .ld1 (T 67)⟩⟩,
      ⟨14, 0, 15423, ⟨(some 69), some (60, true), .len (T 68)⟩⟩,
      ⟨15, 0, 32767, ⟨(some 70), some (60, true), .bin .lss (T 64) (T 69)⟩⟩,
      ⟨16, 0, 65535, D 71 (.pick (T 60) (T 70) (.const (.bool false)))⟩]) (
    .cond (T 71) (
     .skip) (
     .exit 2))) (
   .block 3 (
    .draw [⟨0, 0, 0, D 72 (.mv (T 0))⟩,
     ⟨1, 0, 0, D 73 (.mv (T 0))⟩,
     ⟨2, 0, 2, D 74 (.nil (T 73))⟩,
     ⟨3, 0, 6, D 75 (.fa 4 (T 74))⟩,
     ⟨4, 1, 14, D 76 (.ld1 (T 75))⟩,
     ⟨5, 0, 0, D 77 (.mv (T 1))⟩,
     ⟨6, 4, 32, D 78 (.call 144 [(T 77), (I 4)])⟩,
     ⟨7, 0, 96, D 79 (.cvi .u32 (T 78))⟩,
     ⟨8, 0, 224, D 80 (.cvi .i32 (T 79))⟩,
     ⟨9, 0, 480, D 81 (.cvi .i64 (T 80))⟩,
     ⟨10, 2, 992, D 82 (.bslice [(.int .i64 0)] 1 [(0, 1, (T 81))])⟩,
     ⟨11, 4, 2046, D 83 (.app 1 8 (T 76) (T 82))⟩,
     ⟨12, 0, 4095, D 84 (.nil (T 72))⟩,
     ⟨13, 0, 8191, D 85 (.fa 4 (T 84))⟩,
     ⟨14, 4, 16383, E (.st 1 (T 85) (T 83))⟩])))))))⟩
theorem item_second_ok : Ok Tryz.prog 148 item_second := ⟨by kernel_rfl, by kernel_rfl⟩

/-- diorama/dioramaref08.Type -/
def dioramaref08_Type : AF := ⟨11, [.tmp 2, .tmp 3],
 .seq (
  .ops [D 2 (.mv (I 0)),
   D 3 (.mv (I 0))]) (
 .trim [0] (
  .seq (
   .ops [D 4 (.mv (T 0)),
    D 5 (.sob (T 4)),
    D 6 (.call 200 [(T 5)]),
    D 7 (.un .not (T 6))]) (
  .cond (T 7) (
   .seq (
    .ops [D 2 (.mv (I 0)),
     D 3 (.mv (I 80))]) (
   .ret)) (
   .skip))) (
 .seq (
  .ops [D 8 (.mv (T 0)),
   D 9 (.sob (T 8)),
   D 10 (.call 201 [(T 9)]),
   D 2 (.mv (T 10)),
   D 3 (.mv (I 0))]) (
 .ret)))⟩
theorem dioramaref08_Type_ok : Ok Tryz.prog 149 dioramaref08_Type := ⟨by kernel_rfl, by kernel_rfl⟩

/-- diorama/dioramaref15.one -/
def dioramaref15_one : AF := ⟨19, [.tmp 4, .tmp 5],
 .seq (
  .ops [D 2 (.box (T 0)),
   D 4 (.mv (.const (.slice none 0 0))),
   D 5 (.mv (I 0))]) (
 .seq (
  .ops [D 7 (.ldN 4 (T 2)),
   D 8 (.mv (T 1)),
   D 9 (.call 202 [(T 7), (T 8)]),
   D 6 (.mv (T 9))]) (
 .trim [6] (
  .seq (
   .ops [D 10 (.mv (T 6)),
    D 11 (.len (T 10)),
    D 12 (.bin .eql (T 11) (I 0))]) (
  .cond (T 12) (
   .seq (
    .ops [D 4 (.mv (.const (.slice none 0 0))),
     D 5 (.mv (I 61))]) (
   .ret)) (
   .skip))) (
 .trim [6] (
  .seq (
   .ops [D 13 (.mv (T 6)),
    D 14 (.len (T 13)),
    D 15 (.bin .gtr (T 14) (I 1))]) (
  .cond (T 15) (
   .seq (
    .ops [D 4 (.mv (.const (.slice none 0 0))),
     D 5 (.mv (I 62))]) (
   .ret)) (
   .skip))) (
 .seq (
  .ops [D 16 (.mv (T 6)),
   D 17 (.ia 1 (T 16) (I 0)),
   D 18 (.ld1 (T 17)),
   D 4 (.mv (T 18)),
   D 5 (.mv (I 0))]) (
 .ret)))))⟩
theorem dioramaref15_one_ok : Ok Tryz.prog 150 dioramaref15_one := ⟨by kernel_rfl, by kernel_rfl⟩

/-- diorama/dioramaref15.fixed -/
def dioramaref15_fixed : AF := ⟨13, [.tmp 4],
 .seq (
  .ops [D 4 (.mv (I 0))]) (
 .trim [0, 1] (
  .seq (
   .ops [D 5 (.mv (T 0)),
    D 6 (.len (T 5)),
    D 7 (.mv (T 1)),
    D 8 (.bin .lss (T 6) (T 7))]) (
  .cond (T 8) (
   .seq (
    .ops [D 4 (.mv (I 3))]) (
   .ret)) (
   .skip))) (
 .trim [] (
  .seq (
   .ops [D 9 (.mv (T 0)),
    D 10 (.len (T 9)),
    D 11 (.mv (T 1)),
    D 12 (.bin .gtr (T 10) (T 11))]) (
  .cond (T 12) (
   .seq (
    .ops [D 4 (.mv (I 4))]) (
   .ret)) (
   .skip))) (
 .seq (
  .ops [D 4 (.mv (I 0))]) (
 .ret))))⟩
theorem dioramaref15_fixed_ok : Ok Tryz.prog 151 dioramaref15_fixed := ⟨by kernel_rfl, by kernel_rfl⟩

/-- diorama/dioramaref01.Int -/
def dioramaref01_Int : AF := ⟨51, [.tmp 6, .tmp 7],
 .seq (
  .ops [D 6 (.mv (I 0)),
   D 7 (.mv (I 0))]) (
 .trim [0, 1, 2] (
  .trim [0, 1, 2, 19] (
   .ops [D 10 (.mv (T 2)),
    D 11 (.bin .lss (T 10) (I 1)),
    D 12 (.mv (T 11)),
    ⟨(some 13), some (12, false), .mv (T 2)⟩,
    ⟨(some 14), some (12, false), .bin .gtr (T 13) (I 8)⟩,
    D 15 (.pick (T 12) (.const (.bool true)) (T 14)),
    D 16 (.mv (T 15)),
    ⟨(some 17), some (16, false), .mv (T 1)⟩,
    ⟨(some 18), some (16, false), .bin .lss (T 17) (I 0)⟩,
    D 19 (.pick (T 16) (.const (.bool true)) (T 18))]) (
  .cond (T 19) (
   .seq (
    .ops [D 6 (.mv (I 0)),
     D 7 (.mv (I 1))]) (
   .ret)) (
   .skip))) (
 .trim [0, 1, 2] (
  .trim [0, 1, 2, 25] (
   .ops [D 20 (.mv (T 1)),
    D 21 (.mv (T 0)),
    D 22 (.len (T 21)),
    D 23 (.mv (T 2)),
    D 24 (.bin .sub (T 22) (T 23)),
    D 25 (.bin .gtr (T 20) (T 24))]) (
  .cond (T 25) (
   .seq (
    .ops [D 6 (.mv (I 0)),
     D 7 (.mv (I 3))]) (
   .ret)) (
   .skip))) (
 .trim [0, 1, 2] (
  .trim [0, 1, 2, 34] (
   .ops [D 26 (.mv (T 2)),
    D 27 (.bin .eql (T 26) (I 8)),
    D 28 (.mv (T 27)),
    ⟨(some 29), some (28, true), .mv (T 0)⟩,
    ⟨(some 30), some (28, true), .mv (T 1)⟩,
    ⟨(some 31), some (28, true), .ia 1 (T 29) (T 30)⟩,
    ⟨(some 32), some (28, true), .ld1 (T 31)⟩,
    ⟨(some 33), some (28, true), .bin .geq (T 32) (.const (.int .u8 128))⟩,
    D 34 (.pick (T 28) (T 33) (.const (.bool false)))]) (
  .cond (T 34) (
   .seq (
    .ops [D 6 (.mv (I 0)),
     D 7 (.mv (I 1))]) (
   .ret)) (
   .skip))) (
 .seq (
  .ops [D 8 (.mv (I 0))]) (
 .trim [8] (
  .seq (
   .ops [D 9 (.mv (I 0))]) (
  .block 0 (
   .loop [0, 1, 2, 8, 9] (
    .seq (
     .seq (
      .ops [D 35 (.mv (T 9)),
       D 36 (.mv (T 2)),
       D 37 (.bin .lss (T 35) (T 36))]) (
     .cond (T 37) (
      .skip) (
      .exit 0))) (
    .trim [0, 1, 2, 8, 9] (
     .block 1 (
      .ops [D 40 (.mv (T 8)),
       D 41 (.bin .mul (T 40) (I 256)),
       D 42 (.mv (T 0)),
       D 43 (.mv (T 1)),
       D 44 (.mv (T 9)),
       D 45 (.bin .add (T 43) (T 44)),
       D 46 (.ia 1 (T 42) (T 45)),
       D 47 (.ld1 (T 46)),
       D 48 (.cvi .i64 (T 47)),
       D 49 (.bin .add (T 41) (T 48)),
       D 8 (.mv (T 49))])) (
    .ops [D 38 (.mv (T 9)),
     D 39 (.bin .add (T 38) (I 1)),
     D 9 (.mv (T 39))])))))) (
 .seq (
  .ops [D 50 (.mv (T 8)),
   D 6 (.mv (T 50)),
   D 7 (.mv (I 0))]) (
 .ret)))))))⟩
theorem dioramaref01_Int_ok : Ok Tryz.prog 152 dioramaref01_Int := ⟨by kernel_rfl, by kernel_rfl⟩

/-- diorama/dioramaref15.names -/
def dioramaref15_names : AF := ⟨16, [.tmp 2],
 .seq (
  .ops [D 2 (.mv (.const (.slice none 0 0)))]) (
 .trim [] (
  .seq (
   .ops [D 3 (.mv (T 0))]) (
  .block 0 (
   .seq (
    .ops [D 5 (.bin .eql (T 3) (I 0)),
     D 4 (.mv (T 5))]) (
   .cond (T 4) (
    .seq (
     .ops [D 6 (.bslice [(.string ⟨#[]⟩)] 1 [(0, 1, (.const (.string ⟨#[105, 100, 97, 116]⟩)))]),
      D 2 (.mv (T 6))]) (
    .ret)) (
    .seq (
     .ops [D 8 (.bin .eql (T 3) (I 1)),
      D 7 (.mv (T 8))]) (
    .cond (T 7) (
     .seq (
      .ops [D 9 (.bslice [(.string ⟨#[]⟩)] 1 [(0, 1, (.const (.string ⟨#[105, 114, 101, 102]⟩)))]),
       D 2 (.mv (T 9))]) (
     .ret)) (
     .seq (
      .ops [D 11 (.bin .eql (T 3) (I 2)),
       D 10 (.mv (T 11))]) (
     .cond (T 10) (
      .seq (
       .ops [D 12 (.bslice [(.string ⟨#[]⟩), (.string ⟨#[]⟩)] 2 [(0, 1, (.const (.string ⟨#[105, 114, 101, 102]⟩))), (1, 1, (.const (.string ⟨#[105, 111, 118, 108]⟩)))]),
        D 2 (.mv (T 12))]) (
      .ret)) (
      .seq (
       .ops [D 14 (.bin .eql (T 3) (I 3)),
        D 13 (.mv (T 14))]) (
      .cond (T 13) (
       .seq (
        .ops [D 15 (.bslice [(.string ⟨#[]⟩), (.string ⟨#[]⟩)] 2 [(0, 1, (.const (.string ⟨#[105, 114, 101, 102]⟩))), (1, 1, (.const (.string ⟨#[105, 103, 114, 100]⟩)))]),
         D 2 (.mv (T 15))]) (
       .ret)) (
       .skip))))))))))) (
 .seq (
  .ops [D 2 (.mv (.const (.slice none 0 0)))]) (
 .ret)))⟩
theorem dioramaref15_names_ok : Ok Tryz.prog 153 dioramaref15_names := ⟨by kernel_rfl, by kernel_rfl⟩

/-- diorama/dioramaref15.refs -/
def dioramaref15_refs : AF := ⟨44, [.tmp 2, .tmp 3],
 .seq (
  .ops [D 2 (.mv (.const (.slice none 0 0))),
   D 3 (.mv (I 0))]) (
 .trim [0] (
  .seq (
   .ops [D 9 (.mv (T 0)),
    D 10 (.len (T 9)),
    D 11 (.bin .lss (T 10) (I 1))]) (
  .cond (T 11) (
   .seq (
    .ops [D 2 (.mv (.const (.slice none 0 0))),
     D 3 (.mv (I 3))]) (
   .ret)) (
   .skip))) (
 .trim [0, 4] (
  .ops [D 12 (.mv (T 0)),
   D 13 (.mv (T 0)),
   D 14 (.ia 1 (T 13) (I 0)),
   D 15 (.ld1 (T 14)),
   D 16 (.cvi .i64 (T 15)),
   D 17 (.bin .mul (I 4) (T 16)),
   D 18 (.bin .add (I 1) (T 17)),
   D 19 (.call 151 [(T 12), (T 18)]),
   D 4 (.mv (T 19))]) (
 .trim [0] (
  .seq (
   .ops [D 20 (.mv (T 4)),
    D 21 (.bin .neq (T 20) (I 0))]) (
  .cond (T 21) (
   .seq (
    .ops [D 22 (.mv (T 4)),
     D 2 (.mv (.const (.slice none 0 0))),
     D 3 (.mv (T 22))]) (
   .ret)) (
   .skip))) (
 .seq (
  .ops [D 5 (.mv (.const (.slice none 0 0)))]) (
 .trim [5] (
  .seq (
   .ops [D 6 (.mv (I 0))]) (
  .block 0 (
   .loop [0, 5, 6] (
    .trim [0, 5, 6] (
     .trim [0, 5, 6, 28] (
      .ops [D 23 (.mv (T 6)),
       D 24 (.mv (T 0)),
       D 25 (.ia 1 (T 24) (I 0)),
       D 26 (.ld1 (T 25)),
       D 27 (.cvi .i64 (T 26)),
       D 28 (.bin .lss (T 23) (T 27))]) (
     .cond (T 28) (
      .skip) (
      .exit 0))) (
    .trim [0, 5, 6] (
     .block 1 (
      .trim [0, 5, 6, 7] (
       .ops [D 32 (.mv (T 0)),
        D 33 (.mv (T 6)),
        D 34 (.bin .mul (I 4) (T 33)),
        D 35 (.bin .add (I 1) (T 34)),
        D 36 (.call 152 [(T 32), (T 35), (I 4)]),
        D 31 (.mv (T 36)),
        D 37 (.ext (T 31) 0),
        D 38 (.ext (T 31) 1),
        D 7 (.mv (T 37)),
        D 8 (.mv (T 38))]) (
      .ops [D 39 (.mv (T 5)),
       D 40 (.mv (T 7)),
       D 41 (.bslice [(.int .i64 0)] 1 [(0, 1, (T 40))]),
       D 42 (.app 1 8 (T 39) (T 41)),
       D 5 (.mv (T 42))]))) (
    .ops [D 29 (.mv (T 6)),
     D 30 (.bin .add (T 29) (I 1)),
     D 6 (.mv (T 30))])))))) (
 .seq (
  .ops [D 43 (.mv (T 5)),
   D 2 (.mv (T 43)),
   D 3 (.mv (I 0))]) (
 .ret)))))))⟩
theorem dioramaref15_refs_ok : Ok Tryz.prog 154 dioramaref15_refs := ⟨by kernel_rfl, by kernel_rfl⟩

/-- diorama/dioramaref15.overlay -/
def dioramaref15_overlay : AF := ⟨89, [.cellN 12 4, .tmp 5],
 .seq (
  .ops [D 3 (.box (T 1)),
   D 4 (.alloc [(.int .i64 0), (.int .i64 0), (.slice none 0 0), (.slice none 0 0), (.slice none 0 0), (.int .i64 0), (.int .i64 0), (.int .i64 0), (.int .i64 0), (.slice none 0 0), (.int .i64 0), (.bool false)]),
   D 5 (.mv (I 0))]) (
 .trim [0, 3, 4] (
  .trim [0, 3, 4, 25] (
   .ops [D 12 (.mv (T 0)),
    D 13 (.len (T 12)),
    D 14 (.bin .lss (T 13) (I 3)),
    D 15 (.mv (T 14)),
    ⟨(some 16), some (15, false), .mv (T 0)⟩,
    ⟨(some 17), some (15, false), .len (T 16)⟩,
    ⟨(some 18), some (15, false), .mv (T 0)⟩,
    ⟨(some 19), some (15, false), .ia 1 (T 18) (I 2)⟩,
    ⟨(some 20), some (15, false), .ld1 (T 19)⟩,
    ⟨(some 21), some (15, false), .cvi .i64 (T 20)⟩,
    ⟨(some 22), some (15, false), .bin .mul (I 2) (T 21)⟩,
    ⟨(some 23), some (15, false), .bin .add (I 3) (T 22)⟩,
    ⟨(some 24), some (15, false), .bin .lss (T 17) (T 23)⟩,
    D 25 (.pick (T 15) (.const (.bool true)) (T 24))]) (
  .cond (T 25) (
   .seq (
    .ops [D 26 (.ldN 12 (T 3)),
     E (.st 12 (T 4) (T 26)),
     D 5 (.mv (I 3))]) (
   .ret)) (
   .skip))) (
 .trim [0, 3, 4] (
  .draw [⟨0, 0, 0, D 27 (.mv (T 0))⟩,
   ⟨1, 0, 1, D 28 (.ia 1 (T 27) (I 0))⟩,
   ⟨2, 1, 3, D 29 (.ld1 (T 28))⟩,
   ⟨3, 0, 7, D 30 (.cvi .i64 (T 29))⟩,
   ⟨4, 0, 0, D 31 (.mv (T 0))⟩,
   ⟨5, 0, 16, D 32 (.ia 1 (T 31) (I 1))⟩,
   ⟨6, 1, 48, D 33 (.ld1 (T 32))⟩,
   ⟨7, 0, 112, D 34 (.cvi .i64 (T 33))⟩,
   ⟨8, 0, 15, D 35 (.fa 7 (T 3))⟩,
   ⟨9, 4, 271, E (.st 1 (T 35) (T 30))⟩,
   ⟨10, 0, 1023, D 36 (.fa 8 (T 3))⟩,
   ⟨11, 4, 2047, E (.st 1 (T 36) (T 34))⟩]) (
 .seq (
  .ops [D 6 (.mv (I 3))]) (
 .trim [0, 3, 4, 6] (
  .seq (
   .ops [D 7 (.mv (I 0))]) (
  .block 0 (
   .loop [0, 3, 4, 6, 7] (
    .trim [0, 3, 4, 6, 7] (
     .trim [0, 3, 4, 6, 7, 42] (
      .ops [D 37 (.mv (T 7)),
       D 38 (.mv (T 0)),
       D 39 (.ia 1 (T 38) (I 2)),
       D 40 (.ld1 (T 39)),
       D 41 (.cvi .i64 (T 40)),
       D 42 (.bin .lss (T 37) (T 41))]) (
     .cond (T 42) (
      .skip) (
      .exit 0))) (
    .trim [0, 3, 4, 6, 7] (
     .block 1 (
      .trim [0, 3, 4, 6, 7, 8] (
       .ops [D 46 (.mv (T 0)),
        D 47 (.mv (T 6)),
        D 48 (.call 152 [(T 46), (T 47), (I 2)]),
        D 45 (.mv (T 48)),
        D 49 (.ext (T 45) 0),
        D 50 (.ext (T 45) 1),
        D 8 (.mv (T 49)),
        D 9 (.mv (T 50))]) (
      .trim [0, 3, 4, 6, 7] (
       .ops [D 51 (.fa 9 (T 3)),
        D 52 (.ld1 (T 51)),
        D 53 (.mv (T 8)),
        D 54 (.bslice [(.int .i64 0)] 1 [(0, 1, (T 53))]),
        D 55 (.app 1 8 (T 52) (T 54)),
        D 56 (.fa 9 (T 3)),
        E (.st 1 (T 56) (T 55))]) (
      .ops [D 57 (.mv (T 6)),
       D 58 (.bin .add (T 57) (I 2)),
       D 6 (.mv (T 58))])))) (
    .ops [D 43 (.mv (T 7)),
     D 44 (.bin .add (T 43) (I 1)),
     D 7 (.mv (T 44))])))))) (
 .trim [0, 3, 4, 6] (
  .trim [0, 3, 4, 6, 64] (
   .ops [D 59 (.mv (T 0)),
    D 60 (.len (T 59)),
    D 61 (.mv (T 6)),
    D 62 (.bin .sub (T 60) (T 61)),
    D 63 (.bin .rem (T 62) (I 4)),
    D 64 (.bin .neq (T 63) (I 0))]) (
  .cond (T 64) (
   .seq (
    .ops [D 65 (.ldN 12 (T 3)),
     E (.st 12 (T 4) (T 65)),
     D 5 (.mv (I 3))]) (
   .ret)) (
   .skip))) (
 .trim [3, 4] (
  .block 2 (
   .loop [0, 3, 4, 6] (
    .seq (
     .seq (
      .ops [D 66 (.mv (T 6)),
       D 67 (.mv (T 0)),
       D 68 (.len (T 67)),
       D 69 (.bin .lss (T 66) (T 68))]) (
     .cond (T 69) (
      .skip) (
      .exit 2))) (
    .trim [0, 3, 4, 6] (
     .block 3 (
      .trim [0, 3, 4, 6, 10] (
       .ops [D 73 (.mv (T 0)),
        D 74 (.mv (T 6)),
        D 75 (.call 152 [(T 73), (T 74), (I 4)]),
        D 72 (.mv (T 75)),
        D 76 (.ext (T 72) 0),
        D 77 (.ext (T 72) 1),
        D 10 (.mv (T 76)),
        D 11 (.mv (T 77))]) (
      .seq (
       .seq (
        .ops [D 78 (.mv (T 10)),
         D 79 (.bin .geq (T 78) (I 2147483648))]) (
       .cond (T 79) (
        .ops [D 80 (.mv (T 10)),
         D 81 (.bin .sub (T 80) (I 4294967296)),
         D 10 (.mv (T 81))]) (
        .skip))) (
      .ops [D 82 (.fa 4 (T 3)),
       D 83 (.ld1 (T 82)),
       D 84 (.mv (T 10)),
       D 85 (.bslice [(.int .i64 0)] 1 [(0, 1, (T 84))]),
       D 86 (.app 1 8 (T 83) (T 85)),
       D 87 (.fa 4 (T 3)),
       E (.st 1 (T 87) (T 86))])))) (
    .ops [D 70 (.mv (T 6)),
     D 71 (.bin .add (T 70) (I 4)),
     D 6 (.mv (T 71))]))))) (
 .seq (
  .ops [D 88 (.ldN 12 (T 3)),
   E (.st 12 (T 4) (T 88)),
   D 5 (.mv (I 0))]) (
 .ret))))))))⟩
theorem dioramaref15_overlay_ok : Ok Tryz.prog 155 dioramaref15_overlay := ⟨by kernel_rfl, by kernel_rfl⟩

/-- diorama/bits.PutInt -/
def bits_PutInt : AF := ⟨31, [.tmp 4, .tmp 5],
 .seq (
  .ops [D 4 (.mv (.const (.slice none 0 0))),
   D 5 (.mv (I 0))]) (
 .trim [0, 1] (
  .trim [0, 1, 26] (
   .ops [D 6 (.mv (T 1)),
    D 7 (.bin .lss (T 6) (I 1)),
    D 8 (.mv (T 7)),
    ⟨(some 9), some (8, false), .mv (T 1)⟩,
    ⟨(some 10), some (8, false), .bin .gtr (T 9) (I 8)⟩,
    D 11 (.pick (T 8) (.const (.bool true)) (T 10)),
    D 12 (.mv (T 11)),
    ⟨(some 13), some (12, false), .mv (T 0)⟩,
    ⟨(some 14), some (12, false), .bin .lss (T 13) (I 0)⟩,
    D 15 (.pick (T 12) (.const (.bool true)) (T 14)),
    D 16 (.mv (T 15)),
    ⟨(some 17), some (16, false), .mv (T 1)⟩,
    ⟨(some 18), some (16, false), .bin .lss (T 17) (I 8)⟩,
    ⟨(some 19), some (16, false), .mv (T 18)⟩,
    ⟨(some 20), some (19, true), .mv (T 0)⟩,
    ⟨(some 21), some (19, true), .mv (T 1)⟩,
    ⟨(some 22), some (19, true), .bin .mul (I 8) (T 21)⟩,
    ⟨(some 23), some (19, true), .bin .shr (T 20) (T 22)⟩,
    ⟨(some 24), some (19, true), .bin .gtr (T 23) (I 0)⟩,
    ⟨(some 25), some (16, false), .pick (T 19) (T 24) (.const (.bool false))⟩,
    D 26 (.pick (T 16) (.const (.bool true)) (T 25))]) (
  .cond (T 26) (
   .seq (
    .ops [D 4 (.mv (.const (.slice none 0 0))),
     D 5 (.mv (I 1))]) (
   .ret)) (
   .skip))) (
 .seq (
  .ops [D 27 (.mv (T 0)),
   D 28 (.cvi .u64 (T 27)),
   D 29 (.mv (T 1)),
   D 30 (.call 203 [(T 28), (T 29)]),
   D 4 (.mv (T 30)),
   D 5 (.mv (I 0))]) (
 .ret)))⟩
theorem bits_PutInt_ok : Ok Tryz.prog 156 bits_PutInt := ⟨by kernel_rfl, by kernel_rfl⟩

/-- slices.IndexFunc[[][]int,[]int] -/
def slices_IndexFunc_____int___int_ : AF := ⟨19, [.tmp 4],
 .seq (
  .ops [D 4 (.mv (I 0))]) (
 .trim [] (
  .seq (
   .ops [D 6 (.mv (T 0)),
    D 7 (.len (T 6)),
    D 8 (.mv (I 0))]) (
  .block 0 (
   .loop [0, 1, 7, 8] (
    .seq (
     .ops [D 9 (.bin .lss (T 8) (T 7))]) (
    .seq (
     .cond (T 9) (
      .skip) (
      .exit 0)) (
    .trim [0, 1, 7, 8] (
     .block 1 (
      .seq (
       .ops [D 10 (.mv (T 8)),
        D 5 (.mv (T 10))]) (
      .trim [0, 1, 5, 7, 8, 16] (
       .ops [D 11 (.mv (T 1)),
        D 12 (.mv (T 0)),
        D 13 (.mv (T 5)),
        D 14 (.ia 1 (T 12) (T 13)),
        D 15 (.ld1 (T 14)),
        D 16 (.callv (T 11) [(T 15)])]) (
      .cond (T 16) (
       .seq (
        .ops [D 17 (.mv (T 5)),
         D 4 (.mv (T 17))]) (
       .ret)) (
       .skip))))) (
    .ops [D 18 (.bin .add (T 8) (I 1)),
     D 8 (.mv (T 18))]))))))) (
 .seq (
  .ops [D 4 (.mv (I (-1)))]) (
 .ret)))⟩
theorem slices_IndexFunc_____int___int__ok : Ok Tryz.prog 157 slices_IndexFunc_____int___int_ := ⟨by kernel_rfl, by kernel_rfl⟩

/-- slices.Index[[]int,int] -/
def slices_Index___int_int_ : AF := ⟨19, [.tmp 4],
 .seq (
  .ops [D 4 (.mv (I 0))]) (
 .trim [] (
  .seq (
   .ops [D 6 (.mv (T 0)),
    D 7 (.len (T 6)),
    D 8 (.mv (I 0))]) (
  .block 0 (
   .loop [0, 1, 7, 8] (
    .seq (
     .ops [D 9 (.bin .lss (T 8) (T 7))]) (
    .seq (
     .cond (T 9) (
      .skip) (
      .exit 0)) (
    .trim [0, 1, 7, 8] (
     .block 1 (
      .seq (
       .ops [D 10 (.mv (T 8)),
        D 5 (.mv (T 10))]) (
      .trim [0, 1, 5, 7, 8, 16] (
       .ops [D 11 (.mv (T 1)),
        D 12 (.mv (T 0)),
        D 13 (.mv (T 5)),
        D 14 (.ia 1 (T 12) (T 13)),
        D 15 (.ld1 (T 14)),
        D 16 (.bin .eql (T 11) (T 15))]) (
      .cond (T 16) (
       .seq (
        .ops [D 17 (.mv (T 5)),
         D 4 (.mv (T 17))]) (
       .ret)) (
       .skip))))) (
    .ops [D 18 (.bin .add (T 8) (I 1)),
     D 8 (.mv (T 18))]))))))) (
 .seq (
  .ops [D 4 (.mv (I (-1)))]) (
 .ret)))⟩
theorem slices_Index___int_int__ok : Ok Tryz.prog 158 slices_Index___int_int_ := ⟨by kernel_rfl, by kernel_rfl⟩

/-- diorama/dioramaref00.HasInt -/
def dioramaref00_HasInt : AF := ⟨19, [.tmp 4],
 .seq (
  .ops [D 4 (.mv (I 0))]) (
 .trim [] (
  .seq (
   .ops [D 5 (.mv (I 0))]) (
  .block 0 (
   .loop [0, 1, 5] (
    .seq (
     .seq (
      .ops [D 6 (.mv (T 5)),
       D 7 (.mv (T 0)),
       D 8 (.len (T 7)),
       D 9 (.bin .lss (T 6) (T 8))]) (
     .cond (T 9) (
      .skip) (
      .exit 0))) (
    .trim [0, 1, 5] (
     .block 1 (
      .trim [0, 1, 5, 17] (
       .ops [D 12 (.mv (T 0)),
        D 13 (.mv (T 5)),
        D 14 (.ia 1 (T 12) (T 13)),
        D 15 (.ld1 (T 14)),
        D 16 (.mv (T 1)),
        D 17 (.bin .eql (T 15) (T 16))]) (
      .cond (T 17) (
       .seq (
        .ops [D 18 (.mv (T 5)),
         D 4 (.mv (T 18))]) (
       .ret)) (
       .skip)))) (
    .ops [D 10 (.mv (T 5)),
     D 11 (.bin .add (T 10) (I 1)),
     D 5 (.mv (T 11))])))))) (
 .seq (
  .ops [D 4 (.mv (I (-1)))]) (
 .ret)))⟩
theorem dioramaref00_HasInt_ok : Ok Tryz.prog 159 dioramaref00_HasInt := ⟨by kernel_rfl, by kernel_rfl⟩

/-- diorama/box.letter -/
def box_letter : AF := ⟨17, [.tmp 2],
 .seq (
  .ops [D 2 (.mv (.const (.bool false)))]) (
 .trim [2] (
  .ops [D 3 (.mv (T 0)),
   D 4 (.bin .geq (T 3) (.const (.int .u8 97))),
   D 5 (.mv (T 4)),
   ⟨(some 6), some (5, true), .mv (T 0)⟩,
   ⟨(some 7), some (5, true), .bin .leq (T 6) (.const (.int .u8 122))⟩,
   D 8 (.pick (T 5) (T 7) (.const (.bool false))),
   D 9 (.mv (T 8)),
   ⟨(some 10), some (9, false), .mv (T 0)⟩,
   ⟨(some 11), some (9, false), .bin .geq (T 10) (.const (.int .u8 48))⟩,
   ⟨(some 12), some (9, false), .mv (T 11)⟩,
   ⟨(some 13), some (12, true), .mv (T 0)⟩,
   ⟨(some 14), some (12, true), .bin .leq (T 13) (.const (.int .u8 57))⟩,
   ⟨(some 15), some (9, false), .pick (T 12) (T 14) (.const (.bool false))⟩,
   D 16 (.pick (T 9) (.const (.bool true)) (T 15)),
   D 2 (.mv (T 16))]) (
 .ret))⟩
theorem box_letter_ok : Ok Tryz.prog 193 box_letter := ⟨by kernel_rfl, by kernel_rfl⟩

/-- diorama/box.number -/
def box_number : AF := ⟨16, [.tmp 4],
 .seq (
  .ops [D 4 (.mv (I 0))]) (
 .trim [5, 6] (
  .ops [D 8 (.mv (T 0)),
   D 9 (.mv (T 1)),
   D 10 (.call 199 [(T 8), (I 0), (T 9)]),
   D 7 (.mv (T 10)),
   D 11 (.ext (T 7) 0),
   D 12 (.ext (T 7) 1),
   D 5 (.mv (T 11)),
   D 6 (.mv (T 12))]) (
 .seq (
  .seq (
   .ops [D 13 (.mv (T 6)),
    D 14 (.bin .neq (T 13) (I 0))]) (
  .cond (T 14) (
   .seq (
    .ops [D 4 (.mv (I 9223372036854775807))]) (
   .ret)) (
   .skip))) (
 .seq (
  .ops [D 15 (.mv (T 5)),
   D 4 (.mv (T 15))]) (
 .ret))))⟩
theorem box_number_ok : Ok Tryz.prog 194 box_number := ⟨by kernel_rfl, by kernel_rfl⟩

/-- bytes.Clone -/
def bytes_Clone : AF := ⟨8, [.tmp 2],
 .seq (
  .ops [D 2 (.mv (.const (.slice none 0 0)))]) (
 .seq (
  .seq (
   .ops [D 3 (.mv (T 0)),
    D 4 (.nileq false 1 (T 3) (.const (.slice none 0 0)))]) (
  .cond (T 4) (
   .seq (
    .ops [D 2 (.mv (.const (.slice none 0 0)))]) (
   .ret)) (
   .skip))) (
 .seq (
  .ops [D 5 (.bslice [] 0 []),
   D 6 (.mv (T 0)),
   D 7 (.app 1 1 (T 5) (T 6)),
   D 2 (.mv (T 7))]) (
 .ret)))⟩
theorem bytes_Clone_ok : Ok Tryz.prog 195 bytes_Clone := ⟨by kernel_rfl, by kernel_rfl⟩

/-- slices.Clone[[]diorama/api.Node,diorama/api.Node] -/
def slices_Clone___api_Node_api_Node_ : AF := ⟨8, [.tmp 2],
 .seq (
  .ops [D 2 (.mv (.const (.slice none 0 0)))]) (
 .seq (
  .seq (
   .ops [D 3 (.mv (T 0)),
    D 4 (.nileq false 1 (T 3) (.const (.slice none 0 0)))]) (
  .cond (T 4) (
   .seq (
    .ops [D 2 (.mv (.const (.slice none 0 0)))]) (
   .ret)) (
   .skip))) (
 .seq (
  .ops [D 5 (.bslice [] 0 []),
   D 6 (.mv (T 0)),
   D 7 (.app 4 64 (T 5) (T 6)),
   D 2 (.mv (T 7))]) (
 .ret)))⟩
theorem slices_Clone___api_Node_api_Node__ok : Ok Tryz.prog 196 slices_Clone___api_Node_api_Node_ := ⟨by kernel_rfl, by kernel_rfl⟩

/-- slices.DeleteFunc[[]diorama/api.Node,diorama/api.Node] -/
def slices_DeleteFunc___api_Node_api_Node_ : AF := ⟨42, [.tmp 4],
 .seq (
  .ops [D 4 (.mv (.const (.slice none 0 0)))]) (
 .seq (
  .ops [D 8 (.mv (T 0)),
   D 9 (.mv (T 1)),
   D 10 (.call 243 [(T 8), (T 9)]),
   D 5 (.mv (T 10))]) (
 .seq (
  .seq (
   .ops [D 11 (.mv (T 5)),
    D 12 (.bin .eql (T 11) (I (-1)))]) (
  .cond (T 12) (
   .seq (
    .ops [D 13 (.mv (T 0)),
     D 4 (.mv (T 13))]) (
   .ret)) (
   .skip))) (
 .trim [0, 5] (
  .seq (
   .ops [D 14 (.mv (T 5)),
    D 15 (.bin .add (T 14) (I 1)),
    D 6 (.mv (T 15))]) (
  .block 0 (
   .loop [0, 1, 5, 6] (
    .seq (
     .seq (
      .ops [D 16 (.mv (T 6)),
       D 17 (.mv (T 0)),
       D 18 (.len (T 17)),
       D 19 (.bin .lss (T 16) (T 18))]) (
     .cond (T 19) (
      .skip) (
      .exit 0))) (
    .trim [0, 1, 5, 6] (
     .block 1 (
      .seq (
       .ops [D 22 (.mv (T 0)),
        D 23 (.mv (T 6)),
        D 24 (.ia 4 (T 22) (T 23)),
        D 25 (.ldN 4 (T 24)),
        D 7 (.alloc [(.int .i64 0), (.slice none 0 0), (.slice none 0 0), (.bool false)]),
        E (.st 4 (T 7) (T 25))]) (
      .seq (
       .ops [D 26 (.mv (T 1)),
        D 27 (.ldN 4 (T 7)),
        D 28 (.callv (T 26) [(T 27)]),
        D 29 (.un .not (T 28))]) (
      .cond (T 29) (
       .seq (
        .ops [D 30 (.mv (T 0)),
         D 31 (.mv (T 5)),
         D 32 (.ldN 4 (T 7)),
         D 33 (.ia 4 (T 30) (T 31)),
         E (.st 4 (T 33) (T 32))]) (
       .ops [D 34 (.mv (T 5)),
        D 35 (.bin .add (T 34) (I 1)),
        D 5 (.mv (T 35))])) (
       .skip))))) (
    .ops [D 20 (.mv (T 6)),
     D 21 (.bin .add (T 20) (I 1)),
     D 6 (.mv (T 21))])))))) (
 .seq (
  .ops [D 36 (.mv (T 0)),
   D 37 (.mv (T 5)),
   D 38 (.slc 4 (T 36) (some (T 37)) none none),
   E (.clr [(.int .i64 0), (.slice none 0 0), (.slice none 0 0), (.bool false)] (T 38))]) (
 .seq (
  .ops [D 39 (.mv (T 0)),
   D 40 (.mv (T 5)),
   D 41 (.slc 4 (T 39) none (some (T 40)) none),
   D 4 (.mv (T 41))]) (
 .ret))))))⟩
theorem slices_DeleteFunc___api_Node_api_Node__ok : Ok Tryz.prog 197 slices_DeleteFunc___api_Node_api_Node_ := ⟨by kernel_rfl, by kernel_rfl⟩

/-- diorama/item.only$1 -/
def item_only_1 : AF := ⟨5, [.tmp 2],
 .seq (
  .ops [D 1 (.box (T 0)),
   D 2 (.mv (.const (.bool false)))]) (
 .seq (
  .ops [D 3 (.fa 3 (T 1)),
   D 4 (.ld1 (T 3)),
   D 2 (.mv (T 4))]) (
 .ret))⟩
theorem item_only_1_ok : Ok Tryz.prog 198 item_only_1 := ⟨by kernel_rfl, by kernel_rfl⟩

/-- diorama/bits.Int -/
def bits_Int : AF := ⟨54, [.tmp 6, .tmp 7],
 .seq (
  .ops [D 6 (.mv (I 0)),
   D 7 (.mv (I 0))]) (
 .trim [0, 1, 2] (
  .trim [0, 1, 2, 20] (
   .ops [D 11 (.mv (T 2)),
    D 12 (.bin .lss (T 11) (I 1)),
    D 13 (.mv (T 12)),
    ⟨(some 14), some (13, false), .mv (T 2)⟩,
    ⟨(some 15), some (13, false), .bin .gtr (T 14) (I 8)⟩,
    D 16 (.pick (T 13) (.const (.bool true)) (T 15)),
    D 17 (.mv (T 16)),
    ⟨(some 18), some (17, false), .mv (T 1)⟩,
    ⟨(some 19), some (17, false), .bin .lss (T 18) (I 0)⟩,
    D 20 (.pick (T 17) (.const (.bool true)) (T 19))]) (
  .cond (T 20) (
   .seq (
    .ops [D 6 (.mv (I 0)),
     D 7 (.mv (I 1))]) (
   .ret)) (
   .skip))) (
 .trim [0, 1, 2] (
  .trim [0, 1, 2, 32] (
   .ops [D 21 (.mv (T 1)),
    D 22 (.mv (T 0)),
    D 23 (.len (T 22)),
    D 24 (.bin .gtr (T 21) (T 23)),
    D 25 (.mv (T 24)),
    ⟨(some 26), some (25, false), .mv (T 0)⟩,
    ⟨(some 27), some (25, false), .len (T 26)⟩,
    ⟨(some 28), some (25, false), .mv (T 1)⟩,
    ⟨(some 29), some (25, false), .bin .sub (T 27) (T 28)⟩,
    ⟨(some 30), some (25, false), .mv (T 2)⟩,
    ⟨(some 31), some (25, false), .bin .lss (T 29) (T 30)⟩,
    D 32 (.pick (T 25) (.const (.bool true)) (T 31))]) (
  .cond (T 32) (
   .seq (
    .ops [D 6 (.mv (I 0)),
     D 7 (.mv (I 3))]) (
   .ret)) (
   .skip))) (
 .seq (
  .ops [D 8 (.mv (.const (.int .u64 0)))]) (
 .trim [8] (
  .trim [8, 38, 39, 40] (
   .ops [D 33 (.mv (T 0)),
    D 34 (.mv (T 1)),
    D 35 (.mv (T 1)),
    D 36 (.mv (T 2)),
    D 37 (.bin .add (T 35) (T 36)),
    D 38 (.slc 1 (T 33) (some (T 34)) (some (T 37)) none),
    D 39 (.len (T 38)),
    D 40 (.mv (I 0))]) (
  .block 0 (
   .loop [8, 38, 39, 40] (
    .seq (
     .ops [D 41 (.bin .lss (T 40) (T 39))]) (
    .seq (
     .cond (T 41) (
      .skip) (
      .exit 0)) (
    .trim [8, 38, 39, 40] (
     .block 1 (
      .seq (
       .ops [D 42 (.ia 1 (T 38) (T 40)),
        D 43 (.ld1 (T 42)),
        D 10 (.mv (T 43))]) (
      .ops [D 44 (.mv (T 8)),
       D 45 (.shlc (T 44) 8),
       D 46 (.mv (T 10)),
       D 47 (.cvi .u64 (T 46)),
       D 48 (.bin .or (T 45) (T 47)),
       D 8 (.mv (T 48))]))) (
    .ops [D 49 (.bin .add (T 40) (I 1)),
     D 40 (.mv (T 49))]))))))) (
 .seq (
  .seq (
   .ops [D 50 (.mv (T 8)),
    D 51 (.bin .gtr (T 50) (.const (.int .u64 9223372036854775807)))]) (
  .cond (T 51) (
   .seq (
    .ops [D 6 (.mv (I 0)),
     D 7 (.mv (I 1))]) (
   .ret)) (
   .skip))) (
 .seq (
  .ops [D 52 (.mv (T 8)),
   D 53 (.cvi .i64 (T 52)),
   D 6 (.mv (T 53)),
   D 7 (.mv (I 0))]) (
 .ret)))))))⟩
theorem bits_Int_ok : Ok Tryz.prog 199 bits_Int := ⟨by kernel_rfl, by kernel_rfl⟩

/-- diorama/dioramaref08.isType -/
def dioramaref08_isType : AF := ⟨33, [.tmp 2],
 .seq (
  .ops [D 2 (.mv (.const (.bool false)))]) (
 .trim [0] (
  .seq (
   .ops [D 3 (.mv (I 0))]) (
  .block 0 (
   .loop [0, 3] (
    .seq (
     .seq (
      .ops [D 5 (.mv (T 3)),
       D 6 (.mv (T 0)),
       D 7 (.len (T 6)),
       D 8 (.bin .lss (T 5) (T 7))]) (
     .cond (T 8) (
      .skip) (
      .exit 0))) (
    .trim [0, 3] (
     .block 1 (
      .seq (
       .ops [D 11 (.mv (T 0)),
        D 12 (.mv (T 3)),
        D 13 (.ia 1 (T 11) (T 12)),
        D 14 (.ld1 (T 13)),
        D 4 (.mv (T 14))]) (
      .trim [0, 3, 29] (
       .ops [D 15 (.mv (T 4)),
        D 16 (.bin .geq (T 15) (.const (.int .u8 97))),
        D 17 (.mv (T 16)),
        ⟨(some 18), some (17, true), .mv (T 4)⟩,
        ⟨(some 19), some (17, true), .bin .leq (T 18) (.const (.int .u8 122))⟩,
        D 20 (.pick (T 17) (T 19) (.const (.bool false))),
        D 21 (.mv (T 20)),
        ⟨(some 22), some (21, false), .mv (T 4)⟩,
        ⟨(some 23), some (21, false), .bin .geq (T 22) (.const (.int .u8 48))⟩,
        ⟨(some 24), some (21, false), .mv (T 23)⟩,
        ⟨(some 25), some (24, true), .mv (T 4)⟩,
        ⟨(some 26), some (24, true), .bin .leq (T 25) (.const (.int .u8 57))⟩,
        ⟨(some 27), some (21, false), .pick (T 24) (T 26) (.const (.bool false))⟩,
        D 28 (.pick (T 21) (.const (.bool true)) (T 27)),
        D 29 (.un .not (T 28))]) (
      .cond (T 29) (
       .seq (
        .ops [D 2 (.mv (.const (.bool false)))]) (
       .ret)) (
       .skip))))) (
    .ops [D 9 (.mv (T 3)),
     D 10 (.bin .add (T 9) (I 1)),
     D 3 (.mv (T 10))])))))) (
 .seq (
  .ops [D 30 (.mv (T 0)),
   D 31 (.len (T 30)),
   D 32 (.bin .eql (T 31) (I 4)),
   D 2 (.mv (T 32))]) (
 .ret)))⟩
theorem dioramaref08_isType_ok : Ok Tryz.prog 200 dioramaref08_isType := ⟨by kernel_rfl, by kernel_rfl⟩

/-- diorama/dioramaref08.number -/
def dioramaref08_number : AF := ⟨20, [.tmp 2],
 .seq (
  .ops [D 2 (.mv (I 0))]) (
 .seq (
  .ops [D 3 (.mv (I 0))]) (
 .trim [3] (
  .seq (
   .ops [D 4 (.mv (I 0))]) (
  .block 0 (
   .loop [0, 3, 4] (
    .seq (
     .seq (
      .ops [D 5 (.mv (T 4)),
       D 6 (.mv (T 0)),
       D 7 (.len (T 6)),
       D 8 (.bin .lss (T 5) (T 7))]) (
     .cond (T 8) (
      .skip) (
      .exit 0))) (
    .trim [0, 3, 4] (
     .block 1 (
      .ops [D 11 (.mv (T 3)),
       D 12 (.bin .mul (T 11) (I 256)),
       D 13 (.mv (T 0)),
       D 14 (.mv (T 4)),
       D 15 (.ia 1 (T 13) (T 14)),
       D 16 (.ld1 (T 15)),
       D 17 (.cvi .i64 (T 16)),
       D 18 (.bin .add (T 12) (T 17)),
       D 3 (.mv (T 18))])) (
    .ops [D 9 (.mv (T 4)),
     D 10 (.bin .add (T 9) (I 1)),
     D 4 (.mv (T 10))])))))) (
 .seq (
  .ops [D 19 (.mv (T 3)),
   D 2 (.mv (T 19))]) (
 .ret))))⟩
theorem dioramaref08_number_ok : Ok Tryz.prog 201 dioramaref08_number := ⟨by kernel_rfl, by kernel_rfl⟩

/-- diorama/dioramaref15.leaves -/
def dioramaref15_leaves : AF := ⟨42, [.tmp 4],
 .seq (
  .ops [D 2 (.box (T 0)),
   D 4 (.mv (.const (.slice none 0 0)))]) (
 .seq (
  .ops [D 5 (.mv (.const (.slice none 0 0)))]) (
 .trim [5] (
  .seq (
   .ops [D 6 (.mv (I 0))]) (
  .block 0 (
   .loop [1, 2, 5, 6] (
    .trim [1, 2, 5, 6] (
     .seq (
      .ops [D 7 (.mv (T 6)),
       D 8 (.fa 2 (T 2)),
       D 9 (.ld1 (T 8)),
       D 10 (.len (T 9)),
       D 11 (.bin .lss (T 7) (T 10))]) (
     .cond (T 11) (
      .skip) (
      .exit 0))) (
    .trim [1, 2, 5, 6] (
     .block 1 (
      .trim [1, 2, 5, 6, 31] (
       .draw [⟨0, 0, 0, D 14 (.fa 2 (T 2))⟩,
        ⟨1, 1, 1, D 15 (.ld1 (T 14))⟩,
        ⟨2, 0, 0, D 16 (.mv (T 6))⟩,
        ⟨3, 0, 7, D 17 (.ia 4 (T 15) (T 16))⟩,
        ⟨4, 0, 15, D 18 (.fa 0 (T 17))⟩,
        ⟨5, 1, 31, D 19 (.ld1 (T 18))⟩,
        ⟨6, 0, 0, D 20 (.mv (T 1))⟩,
        ⟨7, 4, 64, D 21 (.call 92 [(T 20)])⟩,
        ⟨8, 0, 255, D 22 (.bin .eql (T 19) (T 21))⟩,
        ⟨9, 0, 511, D 23 (.mv (T 22))⟩,
        ⟨10, 0, 1023, ⟨(some 24), some (23, true), .fa 2 (T 2)⟩⟩,
        ⟨11, 1, 2047, ⟨(some 25), some (23, true), .ld1 (T 24)⟩⟩,
        ⟨12, 0, 1023, ⟨(some 26), some (23, true), .mv (T 6)⟩⟩,
        ⟨13, 0, 8191, ⟨(some 27), some (23, true), .ia 4 (T 25) (T 26)⟩⟩,
        ⟨14, 0, 16383, ⟨(some 28), some (23, true), .fa 3 (T 27)⟩⟩,
        ⟨15, 1, 32767, ⟨(some 29), some (23, true), .ld1 (T 28)⟩⟩,
        ⟨16, 0, 65535, ⟨(some 30), some (23, true), .un .not (T 29)⟩⟩,
        ⟨17, 0, 131071, D 31 (.pick (T 23) (T 30) (.const (.bool false)))⟩]) (
      .cond (T 31) (
       .ops [D 32 (.mv (T 5)),
        D 33 (.fa 2 (T 2)),
        D 34 (.ld1 (T 33)),
        D 35 (.mv (T 6)),
        D 36 (.ia 4 (T 34) (T 35)),
        D 37 (.fa 1 (T 36)),
        D 38 (.ld1 (T 37)),
        D 39 (.bslice [(.slice none 0 0)] 1 [(0, 1, (T 38))]),
        D 40 (.app 1 24 (T 32) (T 39)),
        D 5 (.mv (T 40))]) (
       .skip)))) (
    .ops [D 12 (.mv (T 6)),
     D 13 (.bin .add (T 12) (I 1)),
     D 6 (.mv (T 13))])))))) (
 .seq (
  .ops [D 41 (.mv (T 5)),
   D 4 (.mv (T 41))]) (
 .ret))))⟩
theorem dioramaref15_leaves_ok : Ok Tryz.prog 202 dioramaref15_leaves := ⟨by kernel_rfl, by kernel_rfl⟩

/-- diorama/bits.big -/
def bits_big : AF := ⟨23, [.tmp 4],
 .seq (
  .ops [D 4 (.mv (.const (.slice none 0 0)))]) (
 .seq (
  .ops [D 7 (.mv (T 1)),
   D 8 (.mks [(.int .u8 0)] 1 (T 7) (T 7)),
   D 5 (.mv (T 8))]) (
 .trim [5] (
  .seq (
   .ops [D 9 (.mv (T 1)),
    D 10 (.bin .sub (T 9) (I 1)),
    D 6 (.mv (T 10))]) (
  .block 0 (
   .loop [0, 5, 6] (
    .seq (
     .seq (
      .ops [D 11 (.mv (T 6)),
       D 12 (.bin .geq (T 11) (I 0))]) (
     .cond (T 12) (
      .skip) (
      .exit 0))) (
    .trim [0, 5, 6] (
     .block 1 (
      .trim [0, 5, 6] (
       .ops [D 15 (.mv (T 5)),
        D 16 (.mv (T 6)),
        D 17 (.mv (T 0)),
        D 18 (.cvi .u8 (T 17)),
        D 19 (.ia 1 (T 15) (T 16)),
        E (.st 1 (T 19) (T 18))]) (
      .ops [D 20 (.mv (T 0)),
       D 21 (.shrc (T 20) 8),
       D 0 (.mv (T 21))]))) (
    .ops [D 13 (.mv (T 6)),
     D 14 (.bin .sub (T 13) (I 1)),
     D 6 (.mv (T 14))])))))) (
 .seq (
  .ops [D 22 (.mv (T 5)),
   D 4 (.mv (T 22))]) (
 .ret))))⟩
theorem bits_big_ok : Ok Tryz.prog 203 bits_big := ⟨by kernel_rfl, by kernel_rfl⟩

/-- slices.IndexFunc[[]diorama/api.Node,diorama/api.Node] -/
def slices_IndexFunc___api_Node_api_Node_ : AF := ⟨19, [.tmp 4],
 .seq (
  .ops [D 4 (.mv (I 0))]) (
 .trim [] (
  .seq (
   .ops [D 6 (.mv (T 0)),
    D 7 (.len (T 6)),
    D 8 (.mv (I 0))]) (
  .block 0 (
   .loop [0, 1, 7, 8] (
    .seq (
     .ops [D 9 (.bin .lss (T 8) (T 7))]) (
    .seq (
     .cond (T 9) (
      .skip) (
      .exit 0)) (
    .trim [0, 1, 7, 8] (
     .block 1 (
      .seq (
       .ops [D 10 (.mv (T 8)),
        D 5 (.mv (T 10))]) (
      .trim [0, 1, 5, 7, 8, 16] (
       .ops [D 11 (.mv (T 1)),
        D 12 (.mv (T 0)),
        D 13 (.mv (T 5)),
        D 14 (.ia 4 (T 12) (T 13)),
        D 15 (.ldN 4 (T 14)),
        D 16 (.callv (T 11) [(T 15)])]) (
      .cond (T 16) (
       .seq (
        .ops [D 17 (.mv (T 5)),
         D 4 (.mv (T 17))]) (
       .ret)) (
       .skip))))) (
    .ops [D 18 (.bin .add (T 8) (I 1)),
     D 8 (.mv (T 18))]))))))) (
 .seq (
  .ops [D 4 (.mv (I (-1)))]) (
 .ret)))⟩
theorem slices_IndexFunc___api_Node_api_Node__ok : Ok Tryz.prog 243 slices_IndexFunc___api_Node_api_Node_ := ⟨by kernel_rfl, by kernel_rfl⟩

/-- slices.Repeat[[]int,int] -/
def slices_Repeat___int_int_ : AF := ⟨48, [.tmp 4],
 .seq (
  .ops [D 4 (.mv (.const (.slice none 0 0)))]) (
 .seq (
  .seq (
   .ops [D 9 (.mv (T 1)),
    D 10 (.bin .lss (T 9) (I 0))]) (
  .cond (T 10) (
   .ops [D 11 (.mkif 9 (.const (.string ⟨#[99, 97, 110, 110, 111, 116, 32, 98, 101, 32, 110, 101, 103, 97, 116, 105, 118, 101]⟩))),
    E (.stuck)]) (
   .skip))) (
 .trim [0, 5, 6] (
  .ops [D 13 (.mv (T 0)),
   D 14 (.len (T 13)),
   D 15 (.cvi .u64 (T 14)),
   D 16 (.mv (T 1)),
   D 17 (.cvi .u64 (T 16)),
   D 18 (.call 275 [(T 15), (T 17)]),
   D 12 (.mv (T 18)),
   D 19 (.ext (T 12) 0),
   D 20 (.ext (T 12) 1),
   D 5 (.mv (T 19)),
   D 6 (.mv (T 20))]) (
 .trim [0, 6] (
  .trim [0, 6, 26] (
   .ops [D 21 (.mv (T 5)),
    D 22 (.bin .gtr (T 21) (.const (.int .u64 0))),
    D 23 (.mv (T 22)),
    ⟨(some 24), some (23, false), .mv (T 6)⟩,
    ⟨(some 25), some (23, false), .bin .gtr (T 24) (.const (.int .u64 9223372036854775807))⟩,
    D 26 (.pick (T 23) (.const (.bool true)) (T 25))]) (
  .cond (T 26) (
   .ops [D 27 (.mkif 9 (.const (.string ⟨#[116, 104, 101, 32, 114, 101, 115, 117, 108, 116, 32, 111, 102, 32, 40, 108, 101, 110, 40, 120, 41, 32, 42, 32, 99, 111, 117, 110, 116, 41, 32, 111, 118, 101, 114, 102, 108, 111, 119, 115]⟩))),
    E (.stuck)]) (
   .skip))) (
 .seq (
  .ops [D 28 (.mv (T 6)),
   D 29 (.cvi .i64 (T 28)),
   D 30 (.mks [(.int .i64 0)] 8 (T 29) (T 29)),
   D 7 (.mv (T 30))]) (
 .seq (
  .ops [D 31 (.mv (T 7)),
   D 32 (.mv (T 0)),
   D 33 (.cpy 1 (T 31) (T 32)),
   D 8 (.mv (T 33))]) (
 .trim [7] (
  .block 0 (
   .loop [7, 8] (
    .seq (
     .seq (
      .ops [D 34 (.mv (T 8)),
       D 35 (.mv (T 7)),
       D 36 (.len (T 35)),
       D 37 (.bin .lss (T 34) (T 36))]) (
     .cond (T 37) (
      .skip) (
      .exit 0))) (
    .block 1 (
     .draw [⟨0, 0, 0, D 38 (.mv (T 8))⟩,
      ⟨1, 0, 0, D 39 (.mv (T 7))⟩,
      ⟨2, 0, 0, D 40 (.mv (T 8))⟩,
      ⟨3, 0, 6, D 41 (.slc 1 (T 39) (some (T 40)) none none)⟩,
      ⟨4, 0, 0, D 42 (.mv (T 7))⟩,
      ⟨5, 0, 0, D 43 (.mv (T 8))⟩,
      ⟨6, 0, 48, D 44 (.slc 1 (T 42) none (some (T 43)) none)⟩,
      ⟨7, 4, 126, D 45 (.cpy 1 (T 41) (T 44))⟩,
      ⟨8, 0, 255, D 46 (.bin .add (T 38) (T 45))⟩,
      ⟨9, 0, 511, D 8 (.mv (T 46))⟩]))))) (
 .seq (
  .ops [D 47 (.mv (T 7)),
   D 4 (.mv (T 47))]) (
 .ret))))))))⟩
theorem slices_Repeat___int_int__ok : Ok Tryz.prog 260 slices_Repeat___int_int_ := ⟨by kernel_rfl, by kernel_rfl⟩

/-- math/bits.Mul -/
def bits_Mul : AF := ⟨30, [.tmp 4, .tmp 5],
 .seq (
  .ops [D 4 (.mv (.const (.int .u64 0))),
   D 5 (.mv (.const (.int .u64 0)))]) (
 .trim [0, 1] (
  .cond (.const (.bool false)) (
   .trim [6, 7] (
    .ops [D 11 (.mv (T 0)),
     D 12 (.cvi .u32 (T 11)),
     D 13 (.mv (T 1)),
     D 14 (.cvi .u32 (T 13)),
     D 15 (.call 294 [(T 12), (T 14)]),
     D 10 (.mv (T 15)),
     D 16 (.ext (T 10) 0),
     D 17 (.ext (T 10) 1),
     D 6 (.mv (T 16)),
     D 7 (.mv (T 17))]) (
   .seq (
    .ops [D 18 (.mv (T 6)),
     D 19 (.cvi .u64 (T 18)),
     D 20 (.mv (T 7)),
     D 21 (.cvi .u64 (T 20)),
     D 4 (.mv (T 19)),
     D 5 (.mv (T 21))]) (
   .ret))) (
   .skip)) (
 .trim [8, 9] (
  .ops [D 23 (.mv (T 0)),
   D 24 (.mv (T 1)),
   D 25 (.call 295 [(T 23), (T 24)]),
   D 22 (.mv (T 25)),
   D 26 (.ext (T 22) 0),
   D 27 (.ext (T 22) 1),
   D 8 (.mv (T 26)),
   D 9 (.mv (T 27))]) (
 .seq (
  .ops [D 28 (.mv (T 8)),
   D 29 (.mv (T 9)),
   D 4 (.mv (T 28)),
   D 5 (.mv (T 29))]) (
 .ret))))⟩
theorem bits_Mul_ok : Ok Tryz.prog 275 bits_Mul := ⟨by kernel_rfl, by kernel_rfl⟩

/-- math/bits.Mul32 -/
def bits_Mul32 : AF := ⟨17, [.tmp 4, .tmp 5],
 .seq (
  .ops [D 4 (.mv (.const (.int .u32 0))),
   D 5 (.mv (.const (.int .u32 0)))]) (
 .trim [6] (
  .ops [D 7 (.mv (T 0)),
   D 8 (.cvi .u64 (T 7)),
   D 9 (.mv (T 1)),
   D 10 (.cvi .u64 (T 9)),
   D 11 (.bin .mul (T 8) (T 10)),
   D 6 (.mv (T 11))]) (
 .trim [4, 5] (
  .ops [D 12 (.mv (T 6)),
   D 13 (.shrc (T 12) 32),
   D 14 (.cvi .u32 (T 13)),
   D 15 (.mv (T 6)),
   D 16 (.cvi .u32 (T 15)),
   D 4 (.mv (T 14)),
   D 5 (.mv (T 16))]) (
 .ret)))⟩
theorem bits_Mul32_ok : Ok Tryz.prog 294 bits_Mul32 := ⟨by kernel_rfl, by kernel_rfl⟩

/-- math/bits.Mul64 -/
def bits_Mul64 : AF := ⟨51, [.tmp 4, .tmp 5],
 .seq (
  .ops [D 4 (.mv (.const (.int .u64 0))),
   D 5 (.mv (.const (.int .u64 0)))]) (
 .seq (
  .ops [D 14 (.mv (T 0)),
   D 15 (.bin .and (T 14) (.const (.int .u64 4294967295))),
   D 6 (.mv (T 15))]) (
 .seq (
  .ops [D 16 (.mv (T 0)),
   D 17 (.shrc (T 16) 32),
   D 7 (.mv (T 17))]) (
 .seq (
  .ops [D 18 (.mv (T 1)),
   D 19 (.bin .and (T 18) (.const (.int .u64 4294967295))),
   D 8 (.mv (T 19))]) (
 .seq (
  .ops [D 20 (.mv (T 1)),
   D 21 (.shrc (T 20) 32),
   D 9 (.mv (T 21))]) (
 .seq (
  .ops [D 22 (.mv (T 6)),
   D 23 (.mv (T 8)),
   D 24 (.bin .mul (T 22) (T 23)),
   D 10 (.mv (T 24))]) (
 .trim [0, 1, 6, 7, 9, 11] (
  .ops [D 25 (.mv (T 7)),
   D 26 (.mv (T 8)),
   D 27 (.bin .mul (T 25) (T 26)),
   D 28 (.mv (T 10)),
   D 29 (.shrc (T 28) 32),
   D 30 (.bin .add (T 27) (T 29)),
   D 11 (.mv (T 30))]) (
 .seq (
  .ops [D 31 (.mv (T 11)),
   D 32 (.bin .and (T 31) (.const (.int .u64 4294967295))),
   D 12 (.mv (T 32))]) (
 .seq (
  .ops [D 33 (.mv (T 11)),
   D 34 (.shrc (T 33) 32),
   D 13 (.mv (T 34))]) (
 .trim [0, 1, 7, 9, 12, 13] (
  .ops [D 35 (.mv (T 12)),
   D 36 (.mv (T 6)),
   D 37 (.mv (T 9)),
   D 38 (.bin .mul (T 36) (T 37)),
   D 39 (.bin .add (T 35) (T 38)),
   D 12 (.mv (T 39))]) (
 .trim [0, 1, 4] (
  .ops [D 40 (.mv (T 7)),
   D 41 (.mv (T 9)),
   D 42 (.bin .mul (T 40) (T 41)),
   D 43 (.mv (T 13)),
   D 44 (.bin .add (T 42) (T 43)),
   D 45 (.mv (T 12)),
   D 46 (.shrc (T 45) 32),
   D 47 (.bin .add (T 44) (T 46)),
   D 4 (.mv (T 47))]) (
 .seq (
  .ops [D 48 (.mv (T 0)),
   D 49 (.mv (T 1)),
   D 50 (.bin .mul (T 48) (T 49)),
   D 5 (.mv (T 50))]) (
 .ret))))))))))))⟩
theorem bits_Mul64_ok : Ok Tryz.prog 295 bits_Mul64 := ⟨by kernel_rfl, by kernel_rfl⟩

/-- (diorama/item.sameItem).draw -/
def item_sameItem__draw : AF := ⟨8, [.cellN 4 4],
 .seq (
  .ops [D 2 (.box (T 0)),
   D 4 (.alloc [(.int .i64 0), (.int .i64 0), (.int .i64 0), (.slice none 0 0)])]) (
 .seq (
  .ops [D 5 (.mv (T 1)),
   D 6 (.ia 4 (T 5) (I 0)),
   D 7 (.ldN 4 (T 6)),
   E (.st 4 (T 4) (T 7))]) (
 .ret))⟩
theorem item_sameItem__draw_ok : Ok Tryz.prog 320 item_sameItem__draw := ⟨by kernel_rfl, by kernel_rfl⟩

/-- (diorama/item.sameItem).shape -/
def item_sameItem__shape : AF := ⟨9, [.cellN 4 4, .tmp 5],
 .seq (
  .ops [D 2 (.box (T 0)),
   D 4 (.alloc [(.int .i64 0), (.int .i64 0), (.int .i64 0), (.int .i64 0)]),
   D 5 (.mv (I 0))]) (
 .seq (
  .ops [D 6 (.mv (T 1)),
   D 7 (.ia 4 (T 6) (I 0)),
   D 8 (.ldN 4 (T 7)),
   E (.st 4 (T 4) (T 8)),
   D 5 (.mv (I 0))]) (
 .ret))⟩
theorem item_sameItem__shape_ok : Ok Tryz.prog 321 item_sameItem__shape := ⟨by kernel_rfl, by kernel_rfl⟩

/-- (diorama/item.overItem).draw -/
def item_overItem__draw : AF := ⟨64, [.cellN 4 4],
 .seq (
  .ops [D 2 (.box (T 0)),
   D 4 (.alloc [(.int .i64 0), (.int .i64 0), (.int .i64 0), (.slice none 0 0)])]) (
 .trim [1, 2, 4, 5] (
  .ops [D 10 (.fa 7 (T 2)),
   D 11 (.ld1 (T 10)),
   D 12 (.fa 8 (T 2)),
   D 13 (.ld1 (T 12)),
   D 14 (.build [(.int .i64 0), (.int .i64 0), (.int .i64 0), (.slice none 0 0)] [(0, 1, (T 11)), (1, 1, (T 13)), (2, 1, (I 8))]),
   D 5 (.alloc [(.int .i64 0), (.int .i64 0), (.int .i64 0), (.slice none 0 0)]),
   E (.st 4 (T 5) (T 14))]) (
 .trim [1, 2, 4, 5] (
  .seq (
   .ops [D 15 (.fa 9 (T 2)),
    D 16 (.ld1 (T 15)),
    D 17 (.len (T 16)),
    D 18 (.mv (I 0))]) (
  .block 0 (
   .loop [1, 2, 4, 5, 16, 17, 18] (
    .seq (
     .ops [D 19 (.bin .lss (T 18) (T 17))]) (
    .seq (
     .cond (T 19) (
      .skip) (
      .exit 0)) (
    .trim [1, 2, 4, 5, 16, 17, 18] (
     .block 1 (
      .seq (
       .ops [D 20 (.ia 1 (T 16) (T 18)),
        D 21 (.ld1 (T 20)),
        D 7 (.mv (T 21))]) (
      .draw [⟨0, 0, 0, D 22 (.fa 3 (T 5))⟩,
       ⟨1, 1, 1, D 23 (.ld1 (T 22))⟩,
       ⟨2, 0, 0, D 24 (.mv (T 7))⟩,
       ⟨4, 0, 0, D 26 (.fa 7 (T 2))⟩,
       ⟨5, 1, 16, D 27 (.ld1 (T 26))⟩,
       ⟨6, 0, 0, D 28 (.fa 8 (T 2))⟩,
       ⟨7, 1, 64, D 29 (.ld1 (T 28))⟩,
       ⟨8, 0, 240, D 30 (.bin .mul (T 27) (T 29))⟩,
       ⟨3, 2, 4, D 25 (.bslice [(.int .i64 0)] 1 [(0, 1, (T 24))])⟩,
       ⟨9, 4, 508, D 31 (.call 260 [(T 25), (T 30)])⟩,
       ⟨10, 2, 1020, D 32 (.bslice [(.slice none 0 0)] 1 [(0, 1, (T 31))])⟩,
       ⟨11, 4, 2047, D 33 (.app 1 24 (T 23) (T 32))⟩,
       ⟨12, 0, 4095, D 34 (.fa 3 (T 5))⟩,
       ⟨13, 4, 8191, E (.st 1 (T 34) (T 33))⟩]))) (
    .ops [D 35 (.bin .add (T 18) (I 1)),
     D 18 (.mv (T 35))]))))))) (
 .trim [4, 5] (
  .seq (
   .ops [D 36 (.mv (T 1)),
    D 37 (.len (T 36)),
    D 38 (.mv (I 0))]) (
  .block 2 (
   .loop [2, 4, 5, 36, 37, 38] (
    .seq (
     .ops [D 39 (.bin .lss (T 38) (T 37))]) (
    .seq (
     .cond (T 39) (
      .skip) (
      .exit 2)) (
    .trim [2, 4, 5, 36, 37, 38] (
     .block 3 (
      .seq (
       .ops [D 40 (.mv (T 38)),
        D 41 (.ia 4 (T 36) (T 38)),
        D 42 (.ldN 4 (T 41)),
        D 9 (.alloc [(.int .i64 0), (.int .i64 0), (.int .i64 0), (.slice none 0 0)]),
        D 8 (.mv (T 40)),
        E (.st 4 (T 9) (T 42))]) (
      .seq (
       .ops [D 43 (.fa 2 (T 9)),
        D 44 (.ld1 (T 43)),
        D 45 (.fa 2 (T 5)),
        E (.st 1 (T 45) (T 44))]) (
      .draw [⟨0, 1, 0, D 46 (.ldN 4 (T 5))⟩,
       ⟨1, 1, 0, D 47 (.ldN 4 (T 9))⟩,
       ⟨2, 0, 0, D 48 (.fa 4 (T 2))⟩,
       ⟨3, 1, 4, D 49 (.ld1 (T 48))⟩,
       ⟨4, 0, 0, D 50 (.mv (T 8))⟩,
       ⟨5, 0, 16, D 51 (.bin .mul (I 2) (T 50))⟩,
       ⟨6, 0, 60, D 52 (.ia 1 (T 49) (T 51))⟩,
       ⟨7, 1, 124, D 53 (.ld1 (T 52))⟩,
       ⟨8, 0, 0, D 54 (.fa 4 (T 2))⟩,
       ⟨9, 1, 256, D 55 (.ld1 (T 54))⟩,
       ⟨10, 0, 0, D 56 (.mv (T 8))⟩,
       ⟨11, 0, 1024, D 57 (.bin .mul (I 2) (T 56))⟩,
       ⟨12, 0, 3072, D 58 (.bin .add (T 57) (I 1))⟩,
       ⟨13, 0, 7936, D 59 (.ia 1 (T 55) (T 58))⟩,
       ⟨14, 1, 16128, D 60 (.ld1 (T 59))⟩,
       ⟨15, 4, 32767, D 61 (.call 68 [(T 46), (T 47), (T 53), (T 60)])⟩])))) (
    .ops [D 62 (.bin .add (T 38) (I 1)),
     D 38 (.mv (T 62))]))))))) (
 .seq (
  .ops [D 63 (.ldN 4 (T 5)),
   E (.st 4 (T 4) (T 63))]) (
 .ret)))))⟩
theorem item_overItem__draw_ok : Ok Tryz.prog 322 item_overItem__draw := ⟨by kernel_rfl, by kernel_rfl⟩

end Go.Proofs.YtmkcngcnedjfkaaGreat.Af

/- The functions of the program in the abstract machine's words, printed by a program of ours; each is the program's by the kernel's reckoning.
   Conditions: none. -/
namespace Go.Proofs.YtmkcngcnedjfkaaGreat.Af
open Go Go.RowKit Go.Proofs.YtmkcngcnedjfkaaGreat.Am
/-- (diorama/item.overItem).shape -/
def item_overItem__shape : AF := ⟨53, [.cellN 4 4, .tmp 5],
 .seq (
  .ops [D 2 (.box (T 0)),
   D 4 (.alloc [(.int .i64 0), (.int .i64 0), (.int .i64 0), (.int .i64 0)]),
   D 5 (.mv (I 0))]) (
 .trim [1, 2, 4, 6] (
  .ops [D 9 (.fa 7 (T 2)),
   D 10 (.ld1 (T 9)),
   D 11 (.fa 8 (T 2)),
   D 12 (.ld1 (T 11)),
   D 13 (.fa 9 (T 2)),
   D 14 (.ld1 (T 13)),
   D 15 (.len (T 14)),
   D 16 (.build [(.int .i64 0), (.int .i64 0), (.int .i64 0), (.int .i64 0)] [(0, 1, (T 10)), (1, 1, (T 12)), (2, 1, (I 8)), (3, 1, (T 15))]),
   D 6 (.alloc [(.int .i64 0), (.int .i64 0), (.int .i64 0), (.int .i64 0)]),
   E (.st 4 (T 6) (T 16))]) (
 .trim [2, 4, 6] (
  .seq (
   .ops [D 17 (.mv (T 1)),
    D 18 (.len (T 17)),
    D 19 (.mv (I 0))]) (
  .block 0 (
   .loop [1, 2, 4, 6, 17, 18, 19] (
    .seq (
     .ops [D 20 (.bin .lss (T 19) (T 18))]) (
    .seq (
     .cond (T 20) (
      .skip) (
      .exit 0)) (
    .trim [1, 2, 4, 6, 17, 18, 19] (
     .block 1 (
      .seq (
       .ops [D 21 (.mv (T 19)),
        D 22 (.ia 4 (T 17) (T 19)),
        D 23 (.ldN 4 (T 22)),
        D 8 (.alloc [(.int .i64 0), (.int .i64 0), (.int .i64 0), (.int .i64 0)]),
        D 7 (.mv (T 21)),
        E (.st 4 (T 8) (T 23))]) (
      .trim [1, 2, 4, 6, 8, 17, 18, 19] (
       .trim [1, 2, 4, 6, 8, 17, 18, 19, 41] (
        .draw [⟨0, 0, 0, D 24 (.mv (T 7))⟩,
         ⟨1, 0, 1, D 25 (.bin .gtr (T 24) (I 0))⟩,
         ⟨2, 0, 3, D 26 (.mv (T 25))⟩,
         ⟨3, 0, 7, ⟨(some 27), some (26, true), .fa 2 (T 8)⟩⟩,
         ⟨4, 1, 15, ⟨(some 28), some (26, true), .ld1 (T 27)⟩⟩,
         ⟨5, 0, 7, ⟨(some 29), some (26, true), .mv (T 1)⟩⟩,
         ⟨6, 0, 39, ⟨(some 30), some (26, true), .ia 4 (T 29) (I 0)⟩⟩,
         ⟨7, 0, 103, ⟨(some 31), some (26, true), .fa 2 (T 30)⟩⟩,
         ⟨8, 1, 231, ⟨(some 32), some (26, true), .ld1 (T 31)⟩⟩,
         ⟨9, 0, 511, ⟨(some 33), some (26, true), .bin .neq (T 28) (T 32)⟩⟩,
         ⟨10, 0, 1023, D 34 (.pick (T 26) (T 33) (.const (.bool false)))⟩,
         ⟨11, 0, 2047, D 35 (.mv (T 34))⟩,
         ⟨12, 0, 4095, ⟨(some 36), some (35, false), .fa 3 (T 8)⟩⟩,
         ⟨13, 1, 8191, ⟨(some 37), some (35, false), .ld1 (T 36)⟩⟩,
         ⟨14, 0, 4095, ⟨(some 38), some (35, false), .fa 3 (T 6)⟩⟩,
         ⟨15, 1, 20479, ⟨(some 39), some (35, false), .ld1 (T 38)⟩⟩,
         ⟨16, 0, 65535, ⟨(some 40), some (35, false), .bin .neq (T 37) (T 39)⟩⟩,
         ⟨17, 0, 131071, D 41 (.pick (T 35) (.const (.bool true)) (T 40))⟩]) (
       .cond (T 41) (
        .seq (
         .ops [D 42 (.build [(.int .i64 0), (.int .i64 0), (.int .i64 0), (.int .i64 0)] []),
          E (.st 4 (T 4) (T 42)),
          D 5 (.mv (I 151))]) (
        .ret)) (
        .skip))) (
      .ops [D 43 (.fa 2 (T 8)),
       D 44 (.ld1 (T 43)),
       D 45 (.fa 2 (T 6)),
       E (.st 1 (T 45) (T 44))])))) (
    .ops [D 46 (.bin .add (T 19) (I 1)),
     D 19 (.mv (T 46))]))))))) (
 .trim [4, 6] (
  .seq (
   .ops [D 47 (.fa 9 (T 2)),
    D 48 (.ld1 (T 47)),
    D 49 (.mkf 324 [] [(T 6)]),
    D 50 (.call 56 [(T 48), (T 49)])]) (
  .cond (T 50) (
   .seq (
    .ops [D 51 (.build [(.int .i64 0), (.int .i64 0), (.int .i64 0), (.int .i64 0)] []),
     E (.st 4 (T 4) (T 51)),
     D 5 (.mv (I 151))]) (
   .ret)) (
   .skip))) (
 .seq (
  .ops [D 52 (.ldN 4 (T 6)),
   E (.st 4 (T 4) (T 52)),
   D 5 (.mv (I 0))]) (
 .ret)))))⟩
theorem item_overItem__shape_ok : Ok Tryz.prog 323 item_overItem__shape := ⟨by kernel_rfl, by kernel_rfl⟩

/-- (diorama/item.overItem).shape$1 -/
def item_overItem__shape_1 : AF := ⟨9, [.tmp 3],
 .seq (
  .ops [D 3 (.mv (.const (.bool false)))]) (
 .trim [3] (
  .ops [D 4 (.mv (T 0)),
   D 5 (.fa 2 (T 1)),
   D 6 (.ld1 (T 5)),
   D 7 (.bin .shl (I 1) (T 6)),
   D 8 (.bin .geq (T 4) (T 7)),
   D 3 (.mv (T 8))]) (
 .ret))⟩
theorem item_overItem__shape_1_ok : Ok Tryz.prog 324 item_overItem__shape_1 := ⟨by kernel_rfl, by kernel_rfl⟩

/-- (diorama/item.gridItem).draw -/
def item_gridItem__draw : AF := ⟨13, [.cellN 4 4],
 .seq (
  .ops [D 2 (.box (T 0)),
   D 4 (.alloc [(.int .i64 0), (.int .i64 0), (.int .i64 0), (.slice none 0 0)])]) (
 .trim [4] (
  .ops [D 5 (.mv (T 1)),
   D 6 (.fa 6 (T 2)),
   D 7 (.ld1 (T 6)),
   D 8 (.fa 7 (T 2)),
   D 9 (.ld1 (T 8)),
   D 10 (.fa 8 (T 2)),
   D 11 (.ld1 (T 10)),
   D 12 (.call 73 [(T 5), (T 7), (T 9), (T 11)]),
   E (.st 4 (T 4) (T 12))]) (
 .ret))⟩
theorem item_gridItem__draw_ok : Ok Tryz.prog 325 item_gridItem__draw := ⟨by kernel_rfl, by kernel_rfl⟩

/-- (diorama/item.gridItem).shape -/
def item_gridItem__shape : AF := ⟨18, [.cellN 4 4, .tmp 5],
 .seq (
  .ops [D 2 (.box (T 0)),
   D 4 (.alloc [(.int .i64 0), (.int .i64 0), (.int .i64 0), (.int .i64 0)]),
   D 5 (.mv (I 0))]) (
 .trim [4, 5] (
  .ops [D 6 (.mv (T 1)),
   D 7 (.fa 5 (T 2)),
   D 8 (.ld1 (T 7)),
   D 9 (.fa 6 (T 2)),
   D 10 (.ld1 (T 9)),
   D 11 (.fa 7 (T 2)),
   D 12 (.ld1 (T 11)),
   D 13 (.fa 8 (T 2)),
   D 14 (.ld1 (T 13)),
   D 15 (.call 72 [(T 6), (T 8), (T 10), (T 12), (T 14)]),
   D 16 (.ext (T 15) 0),
   D 17 (.ext (T 15) 1),
   E (.st 4 (T 4) (T 16)),
   D 5 (.mv (T 17))]) (
 .ret))⟩
theorem item_gridItem__shape_ok : Ok Tryz.prog 326 item_gridItem__shape := ⟨by kernel_rfl, by kernel_rfl⟩

end Go.Proofs.YtmkcngcnedjfkaaGreat.Af

/- Tracks in memory. Plain theorems over the abstract machine.
   Conditions: none. -/
namespace Go.Proofs.YtmkcngcnedjfkaaGreat.Md
open Go Go.RowKit Go.Proofs.YtmkcngcnedjfkaaGreat.Am Go.Proofs.YtmkcngcnedjfkaaGreat.Af
set_option linter.unusedVariables false
set_option linter.unusedSimpArgs false
set_option linter.defProp false
set_option maxRecDepth 20000

theorem i64 {n : Int} (h : -9223372036854775808 ≤ n ∧ n ≤ 9223372036854775807) : IntKind.i64.wrap n = n := IntWalk.i64_in n h
theorem u64 {n : Int} (h : 0 ≤ n ∧ n ≤ 18446744073709551615) : IntKind.u64.wrap n = n := IntWalk.u64_in n h
theorem u32 {n : Int} (h : 0 ≤ n ∧ n ≤ 4294967295) : IntKind.u32.wrap n = n := IntWalk.u32_in n h
theorem u8 {n : Int} (h : 0 ≤ n ∧ n ≤ 255) : IntKind.u8.wrap n = n := IntWalk.u8_in n h
theorem i64s {i : Nat} (h : (i : Int) ≤ 9223372036854775806) : IntKind.i64.wrap ((i : Int) + 1) = ((i + 1 : Nat) : Int) := by rw [i64 (by omega)]; rfl
def Bytes (l : List Int) : Prop := ∀ x ∈ l, 0 ≤ x ∧ x ≤ 255

/-! ### words for simp -/
theorem nadd (a b : Nat) : (a : Int) + (b : Int) = ((a + b : Nat) : Int) := rfl
theorem nadd1 (a : Nat) : (a : Int) + 1 = ((a + 1 : Nat) : Int) := rfl
theorem nsub1 (a : Nat) : ((a + 1 : Nat) : Int) - 1 = (a : Int) := by omega
theorem tn_1 : Int.toNat 1 = 1 := rfl
theorem le01 : ((0 : Int) ≤ 1) = True := by simp
theorem le00 : ((0 : Int) ≤ 0) = True := by simp
theorem lt00 : ((0 : Int) < ((0 : Nat) : Int)) = False := by simp
theorem src_n1 {h : Hp} {a : Value} {md : Md} : (h.new ⟨[a], md⟩).src 1 (.slice (some ⟨h.size, 0, none⟩) 1 1) = some [a] := src_new rfl
theorem src_n2 {h : Hp} {a b : Value} {md : Md} : (h.new ⟨[a, b], md⟩).src 2 (.slice (some ⟨h.size, 0, none⟩) 1 1) = some [a, b] := src_new rfl
theorem src_n6 {h : Hp} {a b c d e f : Value} {md : Md} : (h.new ⟨[a, b, c, d, e, f], md⟩).src 6 (.slice (some ⟨h.size, 0, none⟩) 1 1) = some [a, b, c, d, e, f] := src_new rfl
theorem rdN_new {h : Hp} {cs : List Value} {md : Md} {m : Nat} (e : lenIs cs m = true) : (h.new ⟨cs, md⟩).rdN h.size 0 m = some cs := by
  have hl : cs.length = m := by rw [lenIs_p]; exact e
  rw [rdN_mk get_new_self (by simp [hl]), List.drop_zero, List.take_of_length_le (by simp [hl])]
theorem rd_n2 {h : Hp} {a b : Value} {md : Md} : (h.new ⟨[a, b], md⟩).rdN h.size 0 2 = some [a, b] := rdN_new rfl
theorem rd_n4 {h : Hp} {a b c d : Value} {md : Md} : (h.new ⟨[a, b, c, d], md⟩).rdN h.size 0 4 = some [a, b, c, d] := rdN_new rfl
theorem rd_n6 {h : Hp} {a b c d e f : Value} {md : Md} : (h.new ⟨[a, b, c, d, e, f], md⟩).rdN h.size 0 6 = some [a, b, c, d, e, f] := rdN_new rfl
theorem rd_n11 {h : Hp} {a b c d e f g i j k l : Value} {md : Md} : (h.new ⟨[a, b, c, d, e, f, g, i, j, k, l], md⟩).rdN h.size 0 11 = some [a, b, c, d, e, f, g, i, j, k, l] := rdN_new rfl
def CQ := And.intro @rd_n2 <| And.intro @rd_n4 <| And.intro @rd_n6 <| And.intro @rd_n11 <| And.intro @tn_1 (And.intro @le01 (And.intro @le00 (And.intro @lt00 (And.intro @nsub1 (And.intro @nadd1 (And.intro @nadd (And.intro @src_n1 (And.intro @src_n2 (And.intro @src_n6 @new_put)))))))))

/-! ### rows -/
theorem rdN_sub {h : Hp} {b off m k l : Nat} {cs : List Value} (e : h.rdN b off m = some cs) (hk : k + l ≤ m) : h.rdN b (off + k) l = some ((cs.drop k).take l) := by
  obtain ⟨ob, h1, h2, rfl⟩ := rdN_of e
  rw [rdN_mk h1 (by omega)]
  congr 1
  rw [List.drop_take, List.take_take, List.drop_drop, Nat.min_eq_left (by omega)]
theorem row_elem {α : Type} {d : AKd α} {z : Nat} (hz : d.sz = z) {h g : Hp} {oa : Option Addr} {n : Nat} {r : List Value} {xs : List α} (rd : Rd h z oa n r) (row : AKd.Row (d.A g) xs r) (hl : xs.length = n) {i : Nat} (hi : i < n) :
    ∃ b off sp x c, oa = some ⟨b, off, sp⟩ ∧ flagOk sp = true ∧ xs[i]? = some x ∧ d.A g x c ∧ h.rdN b (off + i * z) z = some c ∧ ∀ j v, c[j]? = some v → h.rd b (off + i * z + j) = some v := by
  subst hz
  obtain ⟨b, off, sp, e, h1, h2⟩ := rd.pos (by omega)
  have hx : xs[i]? = some xs[i] := List.getElem?_eq_getElem (by omega)
  have hc := AKd.Row.get (fun x cs h => d.alen h) row hx
  have h3 := rdN_sub (k := i * d.sz) (l := d.sz) h2 (by rw [← Nat.succ_mul]; exact Nat.mul_le_mul_right _ hi)
  exact ⟨b, off, sp, _, _, e, h1, hx, hc, h3, fun j v hv => rdN_get h3 hv⟩
theorem row_flat {α : Type} {A : α → List Value → Prop} {f : α → List Value} (hf : ∀ x cs, A x cs → cs = f x) : ∀ {xs : List α} {cs : List Value}, AKd.Row A xs cs → cs = xs.flatMap f
  | [], _, h => h
  | x :: xs, _, ⟨c, r, e, h1, h2⟩ => by
    rw [e, hf x c h1, row_flat hf h2]; rfl
theorem flat_row {α : Type} {A : α → List Value → Prop} {f : α → List Value} (hf : ∀ x, A x (f x)) : ∀ xs : List α, AKd.Row A xs (xs.flatMap f)
  | [] => rfl
  | x :: xs => ⟨f x, xs.flatMap f, rfl, hf x, flat_row hf xs⟩
theorem row_snoc {α : Type} {A : α → List Value → Prop} : ∀ {xs : List α} {x : α} {cs c : List Value}, AKd.Row A xs cs → A x c → AKd.Row A (xs ++ [x]) (cs ++ c)
  | [], x, cs, c, h, hx => by
    have h : cs = [] := h
    subst h
    exact ⟨c, [], by simp, hx, rfl⟩
  | y :: xs, x, cs, c, ⟨d, r, e, h1, h2⟩, hx => ⟨d, r ++ c, by rw [e]; simp, h1, row_snoc h2 hx⟩
theorem row_len {α : Type} {d : AKd α} {h : Hp} {xs : List α} {r : List Value} (row : AKd.Row (d.A h) xs r) : r.length = xs.length * d.sz := AKd.Row.len (fun x cs => d.alen) row
theorem _root_.Go.Proofs.YtmkcngcnedjfkaaGreat.Am.Rd.keepW {h h' : Hp} {z n : Nat} {oa : Option Addr} {cs : List Value} {F : Nat → Prop} (w : Wf h) (r : Rd h z oa n cs) (f : Fm F h h') (hF : ∀ x, x < h.size → ¬ F x) : Rd h' z oa n cs :=
  ⟨r.len, r.nil, fun a ha => (r.at_ a ha).imp (fun ⟨h1, h2⟩ => ⟨h1, (rdN_keep (f.get _ (rdN_wf w h2) (hF _ (rdN_wf w h2)))).trans h2⟩) id⟩
/-- What only new blocks have suffered. -/
theorem _root_.Go.Proofs.YtmkcngcnedjfkaaGreat.Am.Fm.exF {h h' : Hp} {F : Nat → Prop} (f : Fm F h h') (w : Wf h) (hF : ∀ x, x < h.size → ¬ F x) : Ex h h' := fun b o e => f.keep w e (hF _ (w.lt e))
theorem _root_.Go.Proofs.YtmkcngcnedjfkaaGreat.Am.Ex.rd {h h' : Hp} (x : Ex h h') {b i : Nat} {v : Value} (e : h.rd b i = some v) : h'.rd b i = some v := by
  unfold Hp.rd at e ⊢
  cases hg : h.get b with
  | none => rw [hg] at e; cases e
  | some o => rw [hg] at e; rw [x b o hg]; exact e
theorem ints_open {k : IntKind} {h : Hp} {xs : List Int} {cs : List Value} (a : (AKd.slice (AKd.int k)).A h xs cs) : ∃ oa c, cs = [.slice oa xs.length c] ∧ Rd h 1 oa xs.length (xs.map (Value.int k)) ∧ xs.length ≤ c := by
  obtain ⟨oa, c, r, h1, h2, h3, h4⟩ := a
  have := AKd.Row.int h3
  subst this
  exact ⟨oa, c, h1, h2, h4⟩
theorem flat_int {k : IntKind} : ∀ xs : List Int, xs.flatMap (fun x => [Value.int k x]) = xs.map (Value.int k)
  | [] => rfl
  | x :: xs => by rw [List.flatMap_cons, flat_int xs]; rfl
theorem ints_mk {k : IntKind} {h : Hp} {xs : List Int} {oa : Option Addr} {c : Nat} (r : Rd h 1 oa xs.length (xs.map (Value.int k))) (hc : xs.length ≤ c) : (AKd.slice (AKd.int k)).A h xs [.slice oa xs.length c] := by
  refine ⟨oa, c, _, rfl, r, ?_, hc⟩
  have := flat_row (A := (AKd.int k).A h) (f := fun x => [Value.int k x]) (fun x => rfl) xs
  have e := flat_int (k := k) xs
  rw [e] at this
  exact this

/-! ### samples and tracks -/
abbrev Edit := Int × Int × Int × Int
abbrev Rf := ByteArray × Int
abbrev Smp := Int × Int × Int × Bool × List Int × List Int
abbrev Trk := Int × Int × ByteArray × Int × List Int × ByteArray × ByteArray × Int × List Edit × List Rf × List Smp
abbrev editK : AKd Edit := AKd.pair (AKd.int .i64) (AKd.pair (AKd.int .i64) (AKd.pair (AKd.int .i64) (AKd.int .i64)))
abbrev refK : AKd Rf := AKd.pair AKd.string (AKd.int .i64)
abbrev smpK : AKd Smp := AKd.pair (AKd.int .i64) (AKd.pair (AKd.int .i64) (AKd.pair (AKd.int .i64) (AKd.pair AKd.bool (AKd.pair (AKd.slice (AKd.int .i64)) (AKd.slice (AKd.int .u8))))))
abbrev trkK : AKd Trk := AKd.pair (AKd.int .i64) (AKd.pair (AKd.int .i64) (AKd.pair AKd.string (AKd.pair (AKd.int .i64) (AKd.pair (AKd.slice (AKd.int .u8)) (AKd.pair AKd.string (AKd.pair AKd.string (AKd.pair (AKd.int .i64)
  (AKd.pair (AKd.slice editK) (AKd.pair (AKd.slice refK) (AKd.slice smpK))))))))))
def Smp.dts (s : Smp) : Int := s.1
def Smp.pts (s : Smp) : Int := s.2.1
def Smp.dur (s : Smp) : Int := s.2.2.1
def Smp.sync (s : Smp) : Bool := s.2.2.2.1
def Smp.deps (s : Smp) : List Int := s.2.2.2.2.1
def Smp.data (s : Smp) : List Int := s.2.2.2.2.2
def editC (e : Edit) : List Value := [.int .i64 e.1, .int .i64 e.2.1, .int .i64 e.2.2.1, .int .i64 e.2.2.2]
def refC (r : Rf) : List Value := [.string r.1, .int .i64 r.2]
theorem edit_cells {h : Hp} (x : Edit) (cs : List Value) (a : editK.A h x cs) : cs = editC x := by
  obtain ⟨c1, c2, rfl, h1, c3, c4, rfl, h2, c5, c6, rfl, h3, h4⟩ := a
  have h1 : c1 = [.int .i64 x.1] := h1
  have h2 : c3 = [.int .i64 x.2.1] := h2
  have h3 : c5 = [.int .i64 x.2.2.1] := h3
  have h4 : c6 = [.int .i64 x.2.2.2] := h4
  rw [h1, h2, h3, h4]; rfl
theorem ref_cells {h : Hp} (x : Rf) (cs : List Value) (a : refK.A h x cs) : cs = refC x := by
  obtain ⟨c1, c2, rfl, h1, h2⟩ := a
  have h1 : c1 = [.string x.1] := h1
  have h2 : c2 = [.int .i64 x.2] := h2
  rw [h1, h2]; rfl
theorem smp_open {h : Hp} {s : Smp} {c : List Value} (a : smpK.A h s c) : ∃ pa pc da dc, c = [.int .i64 s.dts, .int .i64 s.pts, .int .i64 s.dur, .bool s.sync, .slice pa s.deps.length pc, .slice da s.data.length dc] ∧
    Rd h 1 pa s.deps.length (s.deps.map (Value.int .i64)) ∧ s.deps.length ≤ pc ∧ Rd h 1 da s.data.length (s.data.map (Value.int .u8)) ∧ s.data.length ≤ dc := by
  obtain ⟨c1, c2, rfl, h1, c3, c4, rfl, h2, c5, c6, rfl, h3, c7, c8, rfl, h4, c9, c10, rfl, h5, h6⟩ := a
  have h1 : c1 = [.int .i64 s.1] := h1
  have h2 : c3 = [.int .i64 s.2.1] := h2
  have h3 : c5 = [.int .i64 s.2.2.1] := h3
  have h4 : c7 = [.bool s.2.2.2.1] := h4
  obtain ⟨pa, pc, rfl, r1, l1⟩ := ints_open h5
  obtain ⟨da, dc, rfl, r2, l2⟩ := ints_open h6
  exact ⟨pa, pc, da, dc, by rw [h1, h2, h3, h4]; rfl, r1, l1, r2, l2⟩
theorem smp_mk {h : Hp} {s : Smp} {pa da : Option Addr} {pc dc : Nat} (r1 : Rd h 1 pa s.deps.length (s.deps.map (Value.int .i64))) (l1 : s.deps.length ≤ pc) (r2 : Rd h 1 da s.data.length (s.data.map (Value.int .u8))) (l2 : s.data.length ≤ dc) :
    smpK.A h s [.int .i64 s.dts, .int .i64 s.pts, .int .i64 s.dur, .bool s.sync, .slice pa s.deps.length pc, .slice da s.data.length dc] :=
  ⟨[.int .i64 s.1], _, rfl, rfl, [.int .i64 s.2.1], _, rfl, rfl, [.int .i64 s.2.2.1], _, rfl, rfl, [.bool s.2.2.2.1], _, rfl, rfl, [_], [_], rfl, ints_mk r1 l1, ints_mk r2 l2⟩
def Trk.id (t : Trk) : Int := t.1
def Trk.kind (t : Trk) : Int := t.2.1
def Trk.codec (t : Trk) : ByteArray := t.2.2.1
def Trk.scale (t : Trk) : Int := t.2.2.2.1
def Trk.setup (t : Trk) : List Int := t.2.2.2.2.1
def Trk.lang (t : Trk) : ByteArray := t.2.2.2.2.2.1
def Trk.name (t : Trk) : ByteArray := t.2.2.2.2.2.2.1
def Trk.preroll (t : Trk) : Int := t.2.2.2.2.2.2.2.1
def Trk.edits (t : Trk) : List Edit := t.2.2.2.2.2.2.2.2.1
def Trk.refs (t : Trk) : List Rf := t.2.2.2.2.2.2.2.2.2.1
def Trk.samples (t : Trk) : List Smp := t.2.2.2.2.2.2.2.2.2.2
/-- The cells of a track, and what they lead to. -/
structure TrkC (h : Hp) (t : Trk) (cs : List Value) (sa ea ra qa : Option Addr) (sc ec rc qc : Nat) (qr : List Value) : Prop where
  cells : cs = [.int .i64 t.id, .int .i64 t.kind, .string t.codec, .int .i64 t.scale, .slice sa t.setup.length sc, .string t.lang, .string t.name, .int .i64 t.preroll, .slice ea t.edits.length ec, .slice ra t.refs.length rc, .slice qa t.samples.length qc]
  setup : Rd h 1 sa t.setup.length (t.setup.map (Value.int .u8))
  edits : Rd h 4 ea t.edits.length (t.edits.flatMap editC)
  refs : Rd h 2 ra t.refs.length (t.refs.flatMap refC)
  samples : Rd h 6 qa t.samples.length qr
  row : AKd.Row (smpK.A h) t.samples qr
  c1 : t.setup.length ≤ sc
  c2 : t.edits.length ≤ ec
  c3 : t.refs.length ≤ rc
  c4 : t.samples.length ≤ qc
theorem trk_open {h : Hp} {t : Trk} {cs : List Value} (a : trkK.A h t cs) : ∃ sa ea ra qa sc ec rc qc qr, TrkC h t cs sa ea ra qa sc ec rc qc qr := by
  obtain ⟨c1, c2, rfl, h1, c3, c4, rfl, h2, c5, c6, rfl, h3, c7, c8, rfl, h4, c9, c10, rfl, h5, c11, c12, rfl, h6, c13, c14, rfl, h7, c15, c16, rfl, h8, c17, c18, rfl, h9, c19, c20, rfl, h10, h11⟩ := a
  have h1 : c1 = [.int .i64 t.1] := h1
  have h2 : c3 = [.int .i64 t.2.1] := h2
  have h3 : c5 = [.string t.2.2.1] := h3
  have h4 : c7 = [.int .i64 t.2.2.2.1] := h4
  have h6 : c11 = [.string t.2.2.2.2.2.1] := h6
  have h7 : c13 = [.string t.2.2.2.2.2.2.1] := h7
  have h8 : c15 = [.int .i64 t.2.2.2.2.2.2.2.1] := h8
  obtain ⟨sa, sc, rfl, r1, l1⟩ := ints_open h5
  obtain ⟨ea, ec, er, rfl, r2, w2, l2⟩ := h9
  obtain ⟨ra, rc, rr, rfl, r3, w3, l3⟩ := h10
  obtain ⟨qa, qc, qr, rfl, r4, w4, l4⟩ := h11
  rw [row_flat edit_cells w2] at r2
  rw [row_flat ref_cells w3] at r3
  exact ⟨sa, ea, ra, qa, sc, ec, rc, qc, qr, ⟨by rw [h1, h2, h3, h4, h6, h7, h8]; rfl, r1, r2, r3, r4, w4, l1, l2, l3, l4⟩⟩
theorem editA (h : Hp) (x : Edit) : editK.A h x (editC x) := ⟨[.int .i64 x.1], _, rfl, rfl, [.int .i64 x.2.1], _, rfl, rfl, [.int .i64 x.2.2.1], [.int .i64 x.2.2.2], rfl, rfl, rfl⟩
theorem refA (h : Hp) (x : Rf) : refK.A h x (refC x) := ⟨[.string x.1], [.int .i64 x.2], rfl, rfl, rfl⟩
theorem TrkC.mk' {h : Hp} {t : Trk} {cs : List Value} {sa ea ra qa : Option Addr} {sc ec rc qc : Nat} {qr : List Value} (c : TrkC h t cs sa ea ra qa sc ec rc qc qr) : trkK.A h t cs := by
  rw [c.cells]
  exact ⟨[.int .i64 t.1], _, rfl, rfl, [.int .i64 t.2.1], _, rfl, rfl, [.string t.2.2.1], _, rfl, rfl, [.int .i64 t.2.2.2.1], _, rfl, rfl, [_], _, rfl, ints_mk c.setup c.c1, [.string t.2.2.2.2.2.1], _, rfl, rfl, [.string t.2.2.2.2.2.2.1], _, rfl, rfl, [.int .i64 t.2.2.2.2.2.2.2.1], _, rfl, rfl,
    [_], _, rfl, ⟨ea, ec, _, rfl, c.edits, flat_row (editA h) _, c.c2⟩, [_], [_], rfl, ⟨ra, rc, _, rfl, c.refs, flat_row (refA h) _, c.c3⟩, ⟨qa, qc, qr, rfl, c.samples, c.row, c.c4⟩⟩
theorem TrkC.ex {h h' : Hp} {t : Trk} {cs : List Value} {sa ea ra qa : Option Addr} {sc ec rc qc : Nat} {qr : List Value} (c : TrkC h t cs sa ea ra qa sc ec rc qc qr) (x : Ex h h') : TrkC h' t cs sa ea ra qa sc ec rc qc qr :=
  ⟨c.cells, c.setup.ex x, c.edits.ex x, c.refs.ex x, c.samples.ex x, c.row.mono fun y cs hy => smpK.mono x hy, c.c1, c.c2, c.c3, c.c4⟩
end Go.Proofs.YtmkcngcnedjfkaaGreat.Md

/- Rows of numbers in memory: read, and owned. Plain theorems over the abstract machine.
   Conditions: none. -/
namespace Go.Proofs.YtmkcngcnedjfkaaGreat.It
open Go Go.RowKit Go.Proofs.YtmkcngcnedjfkaaGreat.Am Go.Proofs.YtmkcngcnedjfkaaGreat.Af Go.Proofs.YtmkcngcnedjfkaaGreat.Md
set_option linter.unusedVariables false
set_option linter.unusedSimpArgs false
set_option linter.defProp false
set_option maxRecDepth 20000
set_option maxHeartbeats 1000000

theorem eqI_self {a : Int} : EqI a a = True := eq_true rfl
def iV (L : List Int) : List Value := L.map (Value.int .i64)
theorem iV_len (L : List Int) : (iV L).length = L.length := by simp [iV]
theorem iV_set (L : List Int) (k : Nat) (v : Int) : (iV L).set k (.int .i64 v) = iV (L.set k v) := by simp [iV, List.map_set]
theorem Fm.nw {h0 h h' : Hp} {F : Nat → Prop} {oa : Option Addr} (f : Fm F h0 h) (g : Fm (At oa) h h') (n : Nw h0 oa) : Fm F h0 h' := f.trans g fun x hx ha => absurd (n x ha) (by omega)

/-! ### rows, read -/
/-- Rows of numbers. -/
def R2 (h : Hp) (oa : Option Addr) (ls : List (List Int)) : Prop :=
  ∃ cs : List Value, Rd h 1 oa ls.length cs ∧ ∀ (i : Nat) (l : List Int), ls[i]? = some l → ∃ ob c, cs[i]? = some (Value.slice ob l.length c) ∧ l.length ≤ c ∧ Rd h 1 ob l.length (iV l)
theorem R2.keep {h h' : Hp} {oa : Option Addr} {ls : List (List Int)} (w : Wf h) (r : R2 h oa ls) (f : Fm No h h') : R2 h' oa ls := by
  obtain ⟨cs, r1, r2⟩ := r
  exact ⟨cs, r1.keep w f (fun _ _ => id), fun i l hl => let ⟨ob, c, a, b, d⟩ := r2 i l hl; ⟨ob, c, a, b, d.keep w f (fun _ _ => id)⟩⟩
theorem R2.keepW {h h' : Hp} {oa : Option Addr} {ls : List (List Int)} {F : Nat → Prop} (w : Wf h) (r : R2 h oa ls) (f : Fm F h h') (hF : ∀ x, x < h.size → ¬ F x) : R2 h' oa ls := by
  obtain ⟨cs, r1, r2⟩ := r
  exact ⟨cs, r1.keepW w f hF, fun i l hl => let ⟨ob, c, a, b, d⟩ := r2 i l hl; ⟨ob, c, a, b, d.keepW w f hF⟩⟩
theorem R2.at {h : Hp} {oa : Option Addr} {ls : List (List Int)} (r : R2 h oa ls) {i : Nat} (hi : i < ls.length) :
    ∃ b off sp ob c l, oa = some ⟨b, off, sp⟩ ∧ flagOk sp = true ∧ ls[i]? = some l ∧ h.rd b (off + i) = some (.slice ob l.length c) ∧ l.length ≤ c ∧ Rd h 1 ob l.length (iV l) := by
  obtain ⟨cs, r1, r2⟩ := r
  obtain ⟨b, off, sp, v, e, f1, hv, hr⟩ := r1.one hi
  obtain ⟨ob, c, h1, h2, h3⟩ := r2 i ls[i] (List.getElem?_eq_getElem hi)
  rw [h1] at hv
  cases hv
  exact ⟨b, off, sp, ob, c, _, e, f1, List.getElem?_eq_getElem hi, hr, h2, h3⟩
theorem R2.of {h : Hp} {ls : List (List Int)} {cs : List Value} (a : (AKd.slice (AKd.slice (AKd.int .i64))).A h ls cs) : ∃ oa c, cs = [.slice oa ls.length c] ∧ R2 h oa ls ∧ ls.length ≤ c := by
  obtain ⟨oa, c, r, h1, h2, h3, h4⟩ := a
  refine ⟨oa, c, h1, ⟨r, h2, fun i l hl => ?_⟩, h4⟩
  have hg := AKd.Row.get (z := 1) (fun x cs h => (AKd.slice (AKd.int .i64)).alen h) h3 hl
  obtain ⟨ob, cc, e, r1, lc⟩ := ints_open hg
  refine ⟨ob, cc, ?_, lc, r1⟩
  have := congrArg (fun q => q[0]?) e
  simpa using this
theorem R2.nil {h : Hp} : R2 h none [] := ⟨[], Rd.mk0, fun i l hl => by simp at hl⟩

/-! ### equal -/
theorem take_step {α : Type} {A B : List α} {i : Nat} {x : α} (h : A.take i = B.take i) (ha : A[i]? = some x) (hb : B[i]? = some x) : A.take (i + 1) = B.take (i + 1) := by
  rw [List.take_add_one, List.take_add_one, h, ha, hb]
theorem c_EqInts {h : Hp} {a b : Option Addr} {c d : Nat} {A B : List Int} (ra : Rd h 1 a A.length (iV A)) (rb : Rd h 1 b B.length (iV B)) (hn : A.length ≤ 140737488351232) :
    ACalls Tryz.prog 23 [.slice a A.length c, .slice b B.length d] h fun v h' => v = .bool (decide (A = B)) ∧ h' = h := by
  refine dioramaref00_EqInts_ok.snd Af.hm rfl fun w => ?_
  rw [WF_eq, dioramaref00_EqInts]
  simp +contextual (disch := omega) only [↓AM, ↓AV, AP, CQ, eqI_self]
  refine ⟨fun hne => ?_, fun heq => ?_⟩
  · have : A ≠ B := fun e => hne (show ((A.length : Nat) : Int) = ((B.length : Nat) : Int) by rw [e])
    simp [this]
  · have hl : A.length = B.length := by have heq : ((A.length : Nat) : Int) = ((B.length : Nat) : Int) := heq; omega
    refine WL.mk (fun k u h' => ∃ i : Nat, h' = h ∧ i ≤ A.length ∧ A.take i = B.take i ∧ k = A.length - i ∧ u = [(0, some (.slice a A.length c)), (1, some (.slice b B.length d)), (5, some (.int .i64 (i : Int)))]) ⟨A.length, 0, rfl, by omega, by simp, rfl, rfl⟩ ?_
    rintro k u _ ⟨i, rfl, hi, hT, rfl, rfl⟩
    by_cases hin : i < A.length
    · have hin2 : i < B.length := by omega
      obtain ⟨b1, o1, s1, rfl, f1, x, hx, r1⟩ := Rd.int ra hin
      obtain ⟨b2, o2, s2, rfl, f2, y, hy, r2⟩ := Rd.int rb hin2
      simp +contextual (disch := omega) only [↓AM, ↓AV, AP, CQ, hin, hin2, f1, f2, r1, r2, i64]
      refine ⟨fun hne => ?_, fun he => ?_⟩
      · have : A ≠ B := fun e => by
          subst e
          rw [hx] at hy
          cases hy
          exact hne rfl
        simp [this]
      · have he : x = y := he
        subst he
        exact ⟨A.length - (i + 1), by omega, i + 1, by omega, take_step hT hx hy, rfl, rfl⟩
    · simp +contextual (disch := omega) only [↓AM, ↓AV, AP, CQ, hin]
      rw [List.take_of_length_le (by omega), List.take_of_length_le (by omega)] at hT
      simp [hT]
theorem c_EqRows {h : Hp} {a b : Option Addr} {c d : Nat} {A B : List (List Int)} (ra : R2 h a A) (rb : R2 h b B) (hn : A.length ≤ 140737488351232) (hm : ∀ l ∈ A, l.length ≤ 140737488351232) :
    ACalls Tryz.prog 52 [.slice a A.length c, .slice b B.length d] h fun v h' => v = .bool (decide (A = B)) ∧ h' = h := by
  refine dioramaref00_EqRows_ok.snd Af.hm rfl fun w => ?_
  rw [WF_eq, dioramaref00_EqRows]
  simp +contextual (disch := omega) only [↓AM, ↓AV, AP, CQ, eqI_self]
  refine ⟨fun hne => ?_, fun heq => ?_⟩
  · have : A ≠ B := fun e => hne (show ((A.length : Nat) : Int) = ((B.length : Nat) : Int) by rw [e])
    simp [this]
  · have hl : A.length = B.length := by have heq : ((A.length : Nat) : Int) = ((B.length : Nat) : Int) := heq; omega
    refine WL.mk (fun k u h' => ∃ i : Nat, h' = h ∧ i ≤ A.length ∧ A.take i = B.take i ∧ k = A.length - i ∧ u = [(0, some (.slice a A.length c)), (1, some (.slice b B.length d)), (5, some (.int .i64 (i : Int)))]) ⟨A.length, 0, rfl, by omega, by simp, rfl, rfl⟩ ?_
    rintro k u _ ⟨i, rfl, hi, hT, rfl, rfl⟩
    by_cases hin : i < A.length
    · have hin2 : i < B.length := by omega
      obtain ⟨b1, o1, s1, ob1, c1, x, rfl, f1, hx, r1, l1, q1⟩ := R2.at ra hin
      obtain ⟨b2, o2, s2, ob2, c2, y, rfl, f2, hy, r2, l2, q2⟩ := R2.at rb hin2
      simp +contextual (disch := omega) only [↓AM, ↓AV, AP, CQ, hin, hin2, f1, f2, r1, r2]
      refine (c_EqInts q1 q2 (hm x (List.mem_of_getElem? hx))).use ?_
      rintro _ _ w1 ⟨rfl, rfl⟩
      simp +contextual (disch := omega) only [↓AM, ↓AV, AP, CQ, r1, r2, i64]
      refine ⟨fun hne => ?_, fun he => ?_⟩
      · have : A ≠ B := fun e => by
          subst e
          rw [hx] at hy
          cases hy
          simp at hne
        simp [this]
      · have he : x = y := by simpa using he
        subst he
        exact ⟨A.length - (i + 1), by omega, i + 1, by omega, take_step hT hx hy, rfl, rfl⟩
    · simp +contextual (disch := omega) only [↓AM, ↓AV, AP, CQ, hin]
      rw [List.take_of_length_le (by omega), List.take_of_length_le (by omega)] at hT
      simp [hT]
end Go.Proofs.YtmkcngcnedjfkaaGreat.It

/- Whether a picture is valid: the program's and the document's. Plain theorems over the abstract machine.
   Conditions: none. -/
namespace Go.Proofs.YtmkcngcnedjfkaaGreat.It
open Go Go.RowKit Go.Proofs.YtmkcngcnedjfkaaGreat.Am Go.Proofs.YtmkcngcnedjfkaaGreat.Af Go.Proofs.YtmkcngcnedjfkaaGreat.Md
set_option linter.unusedVariables false
set_option linter.unusedSimpArgs false
set_option linter.defProp false
set_option maxRecDepth 20000
set_option maxHeartbeats 1000000

/-- A picture: its width, its height, its bits, its planes. -/
abbrev Im := Int × Int × Int × List (List Int)
abbrev Im.wd (m : Im) : Int := m.1
abbrev Im.hg (m : Im) : Int := m.2.1
abbrev Im.bt (m : Im) : Int := m.2.2.1
abbrev Im.pl (m : Im) : List (List Int) := m.2.2.2
def imC (m : Im) (oa : Option Addr) (c : Nat) : List Value := [.int .i64 m.wd, .int .i64 m.hg, .int .i64 m.bt, .slice oa m.pl.length c]
/-- Of a size that a machine holds. -/
def Sz (ls : List (List Int)) : Prop := ls.length ≤ 140737488351232 ∧ ∀ l ∈ ls, l.length ≤ 140737488351232
def dimOk (m : Im) : Prop := ((1 ≤ m.wd ∧ m.wd ≤ 64) ∧ 1 ≤ m.hg ∧ m.hg ≤ 64) ∧ (1 ≤ m.bt ∧ m.bt ≤ 12) ∧ 1 ≤ (m.pl.length : Int) ∧ (m.pl.length : Int) ≤ 4
instance (m : Im) : Decidable (dimOk m) := by unfold dimOk; infer_instance
def topOf (b : Int) : Int := 2 ^ b.toNat - 1
def badLen (m : Im) (l : List Int) : Bool := decide ((l.length : Int) ≠ m.wd * m.hg)
def badPix (b v : Int) : Bool := decide (¬ (0 ≤ v ∧ v ≤ topOf b))
/-- The error of a picture. -/
def pchk (m : Im) : Int := if ¬ dimOk m then 1 else if m.pl.any (badLen m) = true then 4 else if (m.pl.any fun l => l.any (badPix m.bt)) = true then 1 else 0
theorem pchk_dim {m : Im} (h : ¬ dimOk m) : pchk m = 1 := if_pos h
theorem top_shl {b : Int} (h : 1 ≤ b ∧ b ≤ 12) : IntKind.i64.wrap (1 * 2 ^ min b.toNat IntKind.i64.bits) = topOf b + 1 ∧ 1 ≤ topOf b ∧ topOf b ≤ 4095 := by
  have : b = 1 ∨ b = 2 ∨ b = 3 ∨ b = 4 ∨ b = 5 ∨ b = 6 ∨ b = 7 ∨ b = 8 ∨ b = 9 ∨ b = 10 ∨ b = 11 ∨ b = 12 := by omega
  rcases this with rfl | rfl | rfl | rfl | rfl | rfl | rfl | rfl | rfl | rfl | rfl | rfl <;> decide
theorem mul_ok {a b : Int} (ha : 1 ≤ a ∧ a ≤ 64) (hb : 1 ≤ b ∧ b ≤ 64) : 1 ≤ a * b ∧ a * b ≤ 4096 := by
  have h1 : 1 * 1 ≤ a * b := Int.mul_le_mul ha.1 hb.1 (by decide) (by omega)
  have h2 : a * b ≤ 64 * 64 := Int.mul_le_mul ha.2 hb.2 (by omega) (by decide)
  omega

/-! ### numbers in a range, and what holds of some -/
theorem c_pw {h : Hp} {n a b : Int} : ACalls Tryz.prog 103 [.int .i64 n, .int .i64 a, .int .i64 b] h fun v h' => v = .bool (decide (a ≤ n ∧ n ≤ b)) ∧ h' = h := by
  refine picture_within_ok.snd Af.hm rfl fun w => ?_
  rw [WF_eq, picture_within]
  by_cases h1 : a ≤ n
  · simp +contextual (disch := omega) only [↓AM, ↓AV, AP, CQ, h1]
  · simp +contextual (disch := omega) only [↓AM, ↓AV, AP, CQ, h1]
theorem c_iw {h : Hp} {n a b : Int} : ACalls Tryz.prog 48 [.int .i64 n, .int .i64 a, .int .i64 b] h fun v h' => v = .bool (decide (a ≤ n ∧ n ≤ b)) ∧ h' = h := by
  refine item_within_ok.snd Af.hm rfl fun w => ?_
  rw [WF_eq, item_within]
  by_cases h1 : a ≤ n
  · simp +contextual (disch := omega) only [↓AM, ↓AV, AP, CQ, h1]
  · simp +contextual (disch := omega) only [↓AM, ↓AV, AP, CQ, h1]
theorem c_in14 {h : Hp} {n a b : Int} : ACalls Tryz.prog 77 [.int .i64 n, .int .i64 a, .int .i64 b] h fun v h' => v = .bool (decide (a ≤ n ∧ n ≤ b)) ∧ h' = h := by
  refine dioramaref14_in_ok.snd Af.hm rfl fun w => ?_
  rw [WF_eq, dioramaref14_in]
  by_cases h1 : a ≤ n
  · simp +contextual (disch := omega) only [↓AM, ↓AV, AP, CQ, h1]
  · simp +contextual (disch := omega) only [↓AM, ↓AV, AP, CQ, h1]
theorem c_in15 {h : Hp} {n a b : Int} : ACalls Tryz.prog 50 [.int .i64 n, .int .i64 a, .int .i64 b] h fun v h' => v = .bool (decide (a ≤ n ∧ n ≤ b)) ∧ h' = h := by
  refine dioramaref15_in_ok.snd Af.hm rfl fun w => ?_
  rw [WF_eq, dioramaref15_in]
  by_cases h1 : a ≤ n
  · simp +contextual (disch := omega) only [↓AM, ↓AV, AP, CQ, h1]
  · simp +contextual (disch := omega) only [↓AM, ↓AV, AP, CQ, h1]
theorem c_IdxRows {h : Hp} {a : Option Addr} {c f : Nat} {us vs : Array Value} {ls : List (List Int)} {p : List Int → Bool} (ha : R2 h a ls) (hn : ls.length ≤ 140737488351232) (hf : okF Tryz.prog f = true)
    (hp : ∀ l ∈ ls, ∀ ob cc h1, Fm No h h1 → Wf h1 → ACalls Tryz.prog f (us.toList ++ [.slice ob l.length cc] ++ vs.toList) h1 fun v h' => v = .bool (p l) ∧ Fm No h1 h') :
    ACalls Tryz.prog 157 [.slice a ls.length c, .func (.func f) us vs] h fun v h' => (∃ i : Int, v = .int .i64 i ∧ decide (0 ≤ i) = ls.any p) ∧ Fm No h h' := by
  refine slices_IndexFunc_____int___int__ok.snd Af.hm rfl fun w => ?_
  rw [WF_eq, slices_IndexFunc_____int___int_]
  simp +contextual only [↓AM, ↓AV, AP]
  refine WL.mk (fun k t h' => Wf h' ∧ Fm No h h' ∧ ∃ i : Nat, i ≤ ls.length ∧ k = ls.length - i ∧ (ls.take i).any p = false ∧ t = [(0, some (.slice a ls.length c)), (1, some (.func (.func f) us vs)), (7, some (.int .i64 ls.length)), (8, some (.int .i64 i))]) ⟨ls.length, w, Fm.refl, 0, by omega, rfl, rfl, rfl⟩ ?_
  rintro k t h1 ⟨w1, fm, i, hi, rfl, hall, rfl⟩
  by_cases hin : i < ls.length
  · obtain ⟨b1, o1, s1, ob, cc, l, rfl, f1, hl, r1, l1, q1⟩ := (ha.keep w fm).at hin
    simp +contextual only [↓AM, ↓AV, AP, f1, r1, hin]
    refine ⟨hf, (hp l (List.mem_of_getElem? hl) _ _ _ fm w1).use ?_⟩
    rintro _ h2 w2 ⟨rfl, fm2⟩
    have fm' := fm.trans fm2 (fun _ _ x => x)
    simp +contextual only [↓AM, ↓AV, AP]
    refine ⟨fun hpu => ⟨⟨_, rfl, ?_⟩, fm'⟩, fun hpu => ⟨_, ?_, w2, fm', i + 1, hin, rfl, ?_, ?_⟩⟩
    · have : ls.any p = true := List.any_eq_true.2 ⟨l, List.mem_of_getElem? hl, hpu⟩
      rw [this]; simp
    · omega
    · rw [List.take_add_one, hl]; simp [hall, hpu]
    · rw [i64 (by omega)]; rfl
  · simp +contextual only [↓AM, ↓AV, AP, hin]
    rw [List.take_of_length_le (by omega)] at hall
    exact ⟨⟨_, rfl, by rw [hall]; rfl⟩, fm⟩
theorem c_HasRows {h : Hp} {a : Option Addr} {c f : Nat} {us vs : Array Value} {ls : List (List Int)} {p : List Int → Bool} (ha : R2 h a ls) (hn : ls.length ≤ 140737488351232) (hf : okF Tryz.prog f = true)
    (hp : ∀ l ∈ ls, ∀ ob cc h1, Fm No h h1 → Wf h1 → ACalls Tryz.prog f (us.toList ++ [.slice ob l.length cc] ++ vs.toList) h1 fun v h' => v = .bool (p l) ∧ Fm No h1 h') :
    ACalls Tryz.prog 104 [.slice a ls.length c, .func (.func f) us vs] h fun v h' => v = .bool (ls.any p) ∧ Fm No h h' := by
  refine slices_ContainsFunc_____int___int__ok.snd Af.hm rfl fun w => ?_
  rw [WF_eq, slices_ContainsFunc_____int___int_]
  simp +contextual only [↓AM, ↓AV, AP]
  refine (c_IdxRows ha hn hf hp).use ?_
  rintro _ _ w1 ⟨⟨i, rfl, hi⟩, fm⟩
  simp +contextual only [↓AM, ↓AV, AP, hi]
  exact fm
theorem c_IdxInts {h : Hp} {a : Option Addr} {c f : Nat} {us vs : Array Value} {L : List Int} {p : Int → Bool} (ha : Rd h 1 a L.length (iV L)) (hn : L.length ≤ 140737488351232) (hf : okF Tryz.prog f = true)
    (hp : ∀ x ∈ L, ∀ h1, Fm No h h1 → Wf h1 → ACalls Tryz.prog f (us.toList ++ [.int .i64 x] ++ vs.toList) h1 fun v h' => v = .bool (p x) ∧ Fm No h1 h') :
    ACalls Tryz.prog 113 [.slice a L.length c, .func (.func f) us vs] h fun v h' => (∃ i : Int, v = .int .i64 i ∧ decide (0 ≤ i) = L.any p) ∧ Fm No h h' := by
  refine slices_IndexFunc___int_int__ok.snd Af.hm rfl fun w => ?_
  rw [WF_eq, slices_IndexFunc___int_int_]
  simp +contextual only [↓AM, ↓AV, AP]
  refine WL.mk (fun k t h' => Wf h' ∧ Fm No h h' ∧ ∃ i : Nat, i ≤ L.length ∧ k = L.length - i ∧ (L.take i).any p = false ∧ t = [(0, some (.slice a L.length c)), (1, some (.func (.func f) us vs)), (7, some (.int .i64 L.length)), (8, some (.int .i64 i))]) ⟨L.length, w, Fm.refl, 0, by omega, rfl, rfl, rfl⟩ ?_
  rintro k t h1 ⟨w1, fm, i, hi, rfl, hall, rfl⟩
  by_cases hin : i < L.length
  · obtain ⟨b1, o1, s1, rfl, f1, x, hx, r1⟩ := Rd.int (ha.keep w fm (fun _ _ => id)) hin
    simp +contextual only [↓AM, ↓AV, AP, f1, r1, hin]
    refine ⟨hf, (hp x (List.mem_of_getElem? hx) _ fm w1).use ?_⟩
    rintro _ h2 w2 ⟨rfl, fm2⟩
    have fm' := fm.trans fm2 (fun _ _ x => x)
    simp +contextual only [↓AM, ↓AV, AP]
    refine ⟨fun hpu => ⟨⟨_, rfl, ?_⟩, fm'⟩, fun hpu => ⟨_, ?_, w2, fm', i + 1, hin, rfl, ?_, ?_⟩⟩
    · have : L.any p = true := List.any_eq_true.2 ⟨x, List.mem_of_getElem? hx, hpu⟩
      rw [this]; simp
    · omega
    · rw [List.take_add_one, hx]; simp [hall, hpu]
    · rw [i64 (by omega)]; rfl
  · simp +contextual only [↓AM, ↓AV, AP, hin]
    rw [List.take_of_length_le (by omega)] at hall
    exact ⟨⟨_, rfl, by rw [hall]; rfl⟩, fm⟩
theorem c_HasInts {h : Hp} {a : Option Addr} {c f : Nat} {us vs : Array Value} {L : List Int} {p : Int → Bool} (ha : Rd h 1 a L.length (iV L)) (hn : L.length ≤ 140737488351232) (hf : okF Tryz.prog f = true)
    (hp : ∀ x ∈ L, ∀ h1, Fm No h h1 → Wf h1 → ACalls Tryz.prog f (us.toList ++ [.int .i64 x] ++ vs.toList) h1 fun v h' => v = .bool (p x) ∧ Fm No h1 h') :
    ACalls Tryz.prog 56 [.slice a L.length c, .func (.func f) us vs] h fun v h' => v = .bool (L.any p) ∧ Fm No h h' := by
  refine slices_ContainsFunc___int_int__ok.snd Af.hm rfl fun w => ?_
  rw [WF_eq, slices_ContainsFunc___int_int_]
  simp +contextual only [↓AM, ↓AV, AP]
  refine (c_IdxInts ha hn hf hp).use ?_
  rintro _ _ w1 ⟨⟨i, rfl, hi⟩, fm⟩
  simp +contextual only [↓AM, ↓AV, AP, hi]
  exact fm

/-! ### the program's -/
theorem c_pc1 {h : Hp} {m : Im} {b : Nat} {v : Value} {md : Md} {l : List Int} {ob : Option Addr} {cc : Nat} (hd : dimOk m) (hg : h.get b = some ⟨[.int .i64 m.wd, .int .i64 m.hg, .int .i64 m.bt, v], md⟩) :
    ACalls Tryz.prog 105 [.slice ob l.length cc, .pointer (some ⟨b, 0, none⟩)] h fun v h' => v = .bool (badLen m l) ∧ Fm No h h' := by
  refine picture_Check_1_ok.snd Af.hm rfl fun w => ?_
  rw [WF_eq, picture_Check_1]
  have hm := mul_ok hd.1.1 hd.1.2
  simp +contextual (disch := omega) only [↓AM, ↓AV, AP, CQ, rd_mk hg, i64]
  exact ⟨rfl, Fm.refl⟩
theorem c_pc2 {h : Hp} {m : Im} {b : Nat} {v : Value} {md : Md} {x : Int} (hd : dimOk m) (hg : h.get b = some ⟨[.int .i64 m.wd, .int .i64 m.hg, .int .i64 m.bt, v], md⟩) :
    ACalls Tryz.prog 106 [.int .i64 x, .pointer (some ⟨b, 0, none⟩)] h fun v h' => v = .bool (badPix m.bt x) ∧ Fm No h h' := by
  refine picture_Check_2_ok.snd Af.hm rfl fun w => ?_
  rw [WF_eq, picture_Check_2]
  obtain ⟨ht, t1, t2⟩ := top_shl hd.2.1
  have hb : (0 : Int) ≤ m.bt := by have := hd.2.1.1; omega
  simp +contextual (disch := omega) only [↓AM, ↓AV, AP, CQ, rd_mk hg, ht, i64, hb, Int.add_sub_cancel]
  refine c_pw.use ?_
  rintro _ h2 w2 ⟨rfl, rfl⟩
  simp +contextual only [↓AM, ↓AV, AP]
  exact ⟨rfl, Fm.refl⟩
theorem c_pcheck {h : Hp} {m : Im} {oa : Option Addr} {c : Nat} (r : R2 h oa m.pl) (hz : Sz m.pl) :
    ACalls Tryz.prog 47 [.agg (imC m oa c).toArray] h fun v h' => v = .int .i64 (pchk m) ∧ Fm No h h' := by
  refine picture_Check_ok.snd Af.hm rfl fun w => ?_
  rw [WF_eq, picture_Check]
  obtain ⟨h0, e0⟩ : ∃ g, h.new ⟨imC m oa c, .own⟩ = g := ⟨_, rfl⟩
  have w0 : Wf h0 := e0 ▸ w.new
  have f0 : Fm No h h0 := e0 ▸ Fm.new Fm.refl
  have g0 : h0.get h.size = some ⟨[.int .i64 m.wd, .int .i64 m.hg, .int .i64 m.bt, .slice oa m.pl.length c], .own⟩ := e0 ▸ gnew
  have r0 := r.keep w f0
  simp only [imC] at e0
  simp +contextual (disch := omega) only [↓AM, ↓AV, AP, CQ, imC, e0, rd_mk g0]
  refine c_pw.use ?_
  rintro _ _ _ ⟨rfl, rfl⟩
  by_cases d1 : 1 ≤ m.wd ∧ m.wd ≤ 64
  case neg =>
    simp +contextual (disch := omega) only [↓AM, ↓AV, AP, CQ, rd_mk g0, d1]
    exact ⟨by rw [pchk_dim fun q => d1 q.1.1], f0⟩
  simp +contextual (disch := omega) only [↓AM, ↓AV, AP, CQ, rd_mk g0, d1]
  refine c_pw.use ?_
  rintro _ _ _ ⟨rfl, rfl⟩
  by_cases d2 : 1 ≤ m.hg ∧ m.hg ≤ 64
  case neg =>
    simp +contextual (disch := omega) only [↓AM, ↓AV, AP, CQ, rd_mk g0, d2]
    exact ⟨by rw [pchk_dim fun q => d2 q.1.2], f0⟩
  simp +contextual (disch := omega) only [↓AM, ↓AV, AP, CQ, rd_mk g0, d2]
  refine c_pw.use ?_
  rintro _ _ _ ⟨rfl, rfl⟩
  by_cases d3 : 1 ≤ m.bt ∧ m.bt ≤ 12
  case neg =>
    simp +contextual (disch := omega) only [↓AM, ↓AV, AP, CQ, rd_mk g0, d3]
    exact ⟨by rw [pchk_dim fun q => d3 q.2.1], f0⟩
  simp +contextual (disch := omega) only [↓AM, ↓AV, AP, CQ, rd_mk g0, d3]
  refine c_pw.use ?_
  rintro _ _ _ ⟨rfl, rfl⟩
  by_cases d4 : 1 ≤ (m.pl.length : Int) ∧ (m.pl.length : Int) ≤ 4
  case neg =>
    simp +contextual (disch := omega) only [↓AM, ↓AV, AP, CQ, rd_mk g0, d4]
    exact ⟨by rw [pchk_dim fun q => d4 q.2.2], f0⟩
  have hd : dimOk m := ⟨⟨d1, d2⟩, d3, d4⟩
  simp +contextual (disch := omega) only [↓AM, ↓AV, AP, CQ, rd_mk g0, d4]
  refine (c_HasRows (p := badLen m) r0 hz.1 (by kernel_rfl) fun l hl ob cc h1 fm w1 => c_pc1 hd (fm.keep w0 g0 (fun f => f))).use ?_
  rintro _ h1 w1 ⟨rfl, f1⟩
  by_cases hl : m.pl.any (badLen m) = true
  · simp +contextual (disch := omega) only [↓AM, ↓AV, AP, CQ, hl]
    exact ⟨by unfold pchk; rw [if_neg (fun q => q hd), if_pos hl], f0.trans f1 fun _ _ x => x⟩
  have g1 := f1.keep w0 g0 (fun f => f)
  have r1 := r0.keep w0 f1
  have f01 : Fm No h h1 := f0.trans f1 fun _ _ x => x
  simp +contextual (disch := omega) only [↓AM, ↓AV, AP, CQ, hl, rd_mk g1]
  refine WL.mk (fun k t h' => ∃ i : Nat, Wf h' ∧ Fm No h1 h' ∧ i ≤ m.pl.length ∧ k = m.pl.length - i ∧ ((m.pl.take i).any fun l => l.any (badPix m.bt)) = false ∧
    t = [(1, some (.pointer (some ⟨h.size, 0, none⟩))), (33, some (.slice oa m.pl.length c)), (34, some (.int .i64 (m.pl.length : Int))), (35, some (.int .i64 (i : Int)))]) ⟨m.pl.length, 0, w1, Fm.refl, by omega, rfl, rfl, rfl⟩ ?_
  rintro k t h2 ⟨i, w2, f2, hi, rfl, hall, rfl⟩
  by_cases hin : i < m.pl.length
  · obtain ⟨b1, o1, s1, ob, cc, l, rfl, fl1, hl1, rr1, l1, q1⟩ := (r1.keep w1 f2).at hin
    simp +contextual (disch := omega) only [↓AM, ↓AV, AP, CQ, hin, fl1, rr1]
    have g2 := f2.keep w1 g1 (fun f => f)
    refine (c_HasInts (p := badPix m.bt) q1 (hz.2 l (List.mem_of_getElem? hl1)) (by kernel_rfl) fun x hx h3 fm w3 => c_pc2 hd (fm.keep w2 g2 (fun f => f))).use ?_
    rintro _ h3 w3 ⟨rfl, f3⟩
    by_cases hb : l.any (badPix m.bt) = true
    · simp +contextual (disch := omega) only [↓AM, ↓AV, AP, CQ, hb]
      have hany : (m.pl.any fun l => l.any (badPix m.bt)) = true := List.any_eq_true.2 ⟨l, List.mem_of_getElem? hl1, hb⟩
      exact ⟨by unfold pchk; rw [if_neg (fun q => q hd), if_neg hl, if_pos hany], f01.trans (f2.trans f3 fun _ _ x => x) fun _ _ x => x⟩
    · simp +contextual (disch := omega) only [↓AM, ↓AV, AP, CQ, hb, i64]
      exact ⟨m.pl.length - (i + 1), by omega, i + 1, w3, f2.trans f3 (fun _ _ x => x), by omega, rfl, by rw [List.take_add_one, hl1]; simpa [hall] using hb, rfl⟩
  · simp +contextual (disch := omega) only [↓AM, ↓AV, AP, CQ, hin]
    rw [List.take_of_length_le (by omega)] at hall
    exact ⟨by unfold pchk; rw [if_neg (fun q => q hd), if_neg hl, if_neg (by rw [hall]; simp)], f01.trans f2 fun _ _ x => x⟩
end Go.Proofs.YtmkcngcnedjfkaaGreat.It
