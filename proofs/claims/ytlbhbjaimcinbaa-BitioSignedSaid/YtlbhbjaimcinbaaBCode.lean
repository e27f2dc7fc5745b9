/- The functions in the form that the interpreter reads: printed by program. -/
import Derived.Test.YtlbhbjaimcinbaaAI20
namespace Go.Proofs.Ytlbhbjaimcinbaa.AI
open Go

/-- Of a list of pairs, the second beside a first. -/
def find : List (Nat × List Nat) → Nat → List Nat
  | [], _ => []
  | (k, v) :: r, n => if k = n then v else find r n
def findO : List (Nat × List (Nat × Nat)) → Nat → List (Nat × Nat)
  | [], _ => []
  | (k, v) :: r, n => if k = n then v else findO r n
def look : List (Nat × AFn) → Nat → Option AFn
  | [], _ => none
  | (k, v) :: r, n => if k = n then some v else look r n
def num : List (Nat × Nat) → Nat → Nat
  | [], _ => 0
  | (k, v) :: r, n => if k = n then v else num r n

def Lit0 : ByteArray := ⟨#[0, 1, 2, 2, 3, 3, 3, 3, 4, 4, 4, 4, 4, 4, 4, 4, 5, 5, 5, 5, 5, 5, 5, 5, 5, 5, 5, 5, 5, 5, 5, 5, 6, 6, 6, 6, 6, 6, 6, 6, 6, 6, 6, 6, 6, 6, 6, 6, 6, 6, 6, 6, 6, 6, 6, 6, 6, 6, 6, 6, 6, 6, 6, 6, 7, 7, 7, 7, 7, 7, 7, 7, 7, 7, 7, 7, 7, 7, 7, 7, 7, 7, 7, 7, 7, 7, 7, 7, 7, 7, 7, 7, 7, 7, 7, 7, 7, 7, 7, 7, 7, 7, 7, 7, 7, 7, 7, 7, 7, 7, 7, 7, 7, 7, 7, 7, 7, 7, 7, 7, 7, 7, 7, 7, 7, 7, 7, 7, 8, 8, 8, 8, 8, 8, 8, 8, 8, 8, 8, 8, 8, 8, 8, 8, 8, 8, 8, 8, 8, 8, 8, 8, 8, 8, 8, 8, 8, 8, 8, 8, 8, 8, 8, 8, 8, 8, 8, 8, 8, 8, 8, 8, 8, 8, 8, 8, 8, 8, 8, 8, 8, 8, 8, 8, 8, 8, 8, 8, 8, 8, 8, 8, 8, 8, 8, 8, 8, 8, 8, 8, 8, 8, 8, 8, 8, 8, 8, 8, 8, 8, 8, 8, 8, 8, 8, 8, 8, 8, 8, 8, 8, 8, 8, 8, 8, 8, 8, 8, 8, 8, 8, 8, 8, 8, 8, 8, 8, 8, 8, 8, 8, 8, 8, 8, 8, 8, 8, 8, 8, 8, 8, 8, 8, 8, 8, 8]⟩
/-- hopmesh/hopmeshlaw02.BitioWrites -/
def F3 : AFn := ⟨63,
 (.seq (.reg [⟨(some 2), none, .mov (.c (.bool false))⟩] [0])
 (.seq (.seq (.reg [⟨(some 11), none, .call 11 []⟩,
  ⟨(some 12), none, .un .not (.t 11)⟩] [0, 12])
 (.cond (.t 12)
  (.seq (.reg [⟨(some 2), none, .mov (.c (.bool false))⟩] [2])
  .ret)
  .skip))
 (.seq (.seq (.reg [⟨(some 13), none, .mov (.t 0)⟩,
  ⟨(some 14), none, .call 12 [(.t 13)]⟩,
  ⟨(some 15), none, .un .not (.t 14)⟩] [0, 15])
 (.cond (.t 15)
  (.seq (.reg [⟨(some 2), none, .mov (.c (.bool true))⟩] [2])
  .ret)
  .skip))
 (.seq (.reg [⟨(some 16), none, .call 13 []⟩,
  ⟨(some 17), none, .call 14 []⟩,
  ⟨(some 3), none, .mov (.t 16)⟩,
  ⟨(some 4), none, .mov (.t 17)⟩] [0, 3, 4])
 (.seq (.seq (.reg [⟨(some 18), none, .mov (.t 3)⟩,
  ⟨(some 19), none, .eqp false (.t 18) (.c (.pointer none))⟩] [0, 3, 4, 19])
 (.cond (.t 19)
  (.seq (.reg [⟨(some 2), none, .mov (.c (.bool false))⟩] [2])
  .ret)
  .skip))
 (.seq (.seq (.reg [⟨(some 20), none, .mov (.t 0)⟩,
  ⟨(some 21), none, .lenL (.t 20)⟩,
  ⟨(some 22), none, .mov (.c (.int .i64 0))⟩] [3, 4, 20, 21, 22])
 (.block 0 (.loop (.seq (.reg [⟨(some 23), none, .bin .lss (.t 22) (.t 21)⟩] [3, 4, 20, 21, 22, 23])
   (.seq (.cond (.t 23)
    .skip
    (.exit 0))
   (.seq (.block 1 (.seq (.reg [⟨(some 24), none, .iaddrS 4 (.t 20) (.t 22)⟩,
     ⟨(some 25), none, .load (some 4) (.t 24)⟩,
     ⟨(some 6), none, .new [(.int .i64 0), (.int .i64 0), (.int .i64 0), (.string ⟨#[]⟩)]⟩,
     ⟨none, none, .store 4 (.t 6) (.t 25)⟩] [3, 4, 6, 20, 21, 22])
    (.seq (.reg [⟨(some 26), none, .mov (.t 3)⟩,
     ⟨(some 27), none, .load (some 4) (.t 6)⟩,
     ⟨(some 28), none, .call 15 [(.t 26), (.t 27)]⟩] [3, 4, 6, 20, 21, 22])
    (.seq (.reg [⟨(some 29), none, .mov (.t 4)⟩,
     ⟨(some 30), none, .load (some 4) (.t 6)⟩,
     ⟨(some 31), none, .call 16 [(.t 29), (.t 30)]⟩] [3, 4, 20, 21, 22])
    (.seq (.reg [⟨(some 33), none, .mov (.t 3)⟩,
     ⟨(some 34), none, .call 17 [(.t 33)]⟩,
     ⟨(some 32), none, .mov (.t 34)⟩,
     ⟨(some 35), none, .ext 0 (.t 32)⟩,
     ⟨(some 36), none, .ext 1 (.t 32)⟩,
     ⟨(some 7), none, .mov (.t 35)⟩,
     ⟨(some 8), none, .mov (.t 36)⟩] [3, 4, 7, 8, 20, 21, 22])
    (.seq (.reg [⟨(some 38), none, .mov (.t 4)⟩,
     ⟨(some 39), none, .call 18 [(.t 38)]⟩,
     ⟨(some 37), none, .mov (.t 39)⟩,
     ⟨(some 40), none, .ext 0 (.t 37)⟩,
     ⟨(some 41), none, .ext 1 (.t 37)⟩,
     ⟨(some 9), none, .mov (.t 40)⟩,
     ⟨(some 10), none, .mov (.t 41)⟩] [3, 4, 7, 8, 9, 10, 20, 21, 22])
    (.seq (.reg [⟨(some 42), none, .mov (.t 7)⟩,
     ⟨(some 43), none, .mov (.t 9)⟩,
     ⟨(some 44), none, .bin .neq (.t 42) (.t 43)⟩,
     ⟨(some 45), none, .mov (.t 44)⟩,
     ⟨(some 46), some (45, false), .mov (.t 8)⟩,
     ⟨(some 47), some (45, false), .mov (.t 10)⟩,
     ⟨(some 48), some (45, false), .bin .neq (.t 46) (.t 47)⟩,
     ⟨(some 49), none, .pick (.t 45) (.c (.bool true)) (.t 48)⟩,
     ⟨(some 50), none, .mov (.t 49)⟩,
     ⟨(some 51), some (50, false), .mov (.t 3)⟩,
     ⟨(some 52), some (50, false), .call 19 [(.t 51)]⟩,
     ⟨(some 53), some (50, false), .mov (.t 4)⟩,
     ⟨(some 54), some (50, false), .call 20 [(.t 53)]⟩,
     ⟨(some 55), some (50, false), .bin .neq (.t 52) (.t 54)⟩,
     ⟨(some 56), none, .pick (.t 50) (.c (.bool true)) (.t 55)⟩] [3, 4, 20, 21, 22, 56])
    (.cond (.t 56)
     (.seq (.reg [⟨(some 2), none, .mov (.c (.bool false))⟩] [2])
     .ret)
     .skip))))))))
   (.reg [⟨(some 57), none, .bin .add (.t 22) (.c (.int .i64 1))⟩,
    ⟨(some 22), none, .mov (.t 57)⟩] [3, 4, 20, 21, 22])))))))
 (.seq (.reg [⟨(some 58), none, .mov (.t 3)⟩,
  ⟨(some 59), none, .call 19 [(.t 58)]⟩,
  ⟨(some 60), none, .mov (.t 4)⟩,
  ⟨(some 61), none, .call 20 [(.t 60)]⟩,
  ⟨(some 62), none, .bin .eql (.t 59) (.t 61)⟩,
  ⟨(some 2), none, .mov (.t 62)⟩] [2])
 .ret))))))),
 [.tmp 2], false, false⟩

/-- hopmesh/hopmeshlaw02.BitioStrict -/
def F4 : AFn := ⟨59,
 (.seq (.reg [⟨(some 4), none, .mov (.c (.bool false))⟩] [0, 1])
 (.seq (.seq (.reg [⟨(some 12), none, .call 11 []⟩,
  ⟨(some 13), none, .un .not (.t 12)⟩] [0, 1, 13])
 (.cond (.t 13)
  (.seq (.reg [⟨(some 4), none, .mov (.c (.bool false))⟩] [4])
  .ret)
  .skip))
 (.seq (.seq (.reg [⟨(some 14), none, .mov (.t 0)⟩,
  ⟨(some 15), none, .lenS (.t 14)⟩,
  ⟨(some 16), none, .bin .gtr (.t 15) (.c (.int .i64 300))⟩,
  ⟨(some 17), none, .mov (.t 16)⟩,
  ⟨(some 18), some (17, false), .mov (.t 1)⟩,
  ⟨(some 19), some (17, false), .call 12 [(.t 18)]⟩,
  ⟨(some 20), some (17, false), .un .not (.t 19)⟩,
  ⟨(some 21), none, .pick (.t 17) (.c (.bool true)) (.t 20)⟩] [0, 1, 21])
 (.cond (.t 21)
  (.seq (.reg [⟨(some 4), none, .mov (.c (.bool true))⟩] [4])
  .ret)
  .skip))
 (.seq (.reg [⟨(some 22), none, .mov (.t 0)⟩,
  ⟨(some 23), none, .call 21 [(.t 22)]⟩,
  ⟨(some 24), none, .call 13 []⟩,
  ⟨(some 5), none, .mov (.t 23)⟩,
  ⟨(some 6), none, .mov (.t 24)⟩] [0, 1, 5, 6])
 (.seq (.seq (.reg [⟨(some 25), none, .mov (.t 5)⟩,
  ⟨(some 26), none, .eqp false (.t 25) (.c (.pointer none))⟩,
  ⟨(some 27), none, .mov (.t 26)⟩,
  ⟨(some 28), some (27, false), .mov (.t 6)⟩,
  ⟨(some 29), some (27, false), .eqp false (.t 28) (.c (.pointer none))⟩,
  ⟨(some 30), none, .pick (.t 27) (.c (.bool true)) (.t 29)⟩] [0, 1, 5, 6, 30])
 (.cond (.t 30)
  (.seq (.reg [⟨(some 4), none, .mov (.c (.bool false))⟩] [4])
  .ret)
  .skip))
 (.seq (.seq (.reg [⟨(some 31), none, .mov (.t 1)⟩,
  ⟨(some 32), none, .lenL (.t 31)⟩,
  ⟨(some 33), none, .mov (.c (.int .i64 0))⟩] [0, 5, 6, 31, 32, 33])
 (.block 0 (.loop (.seq (.reg [⟨(some 34), none, .bin .lss (.t 33) (.t 32)⟩] [0, 5, 6, 31, 32, 33, 34])
   (.seq (.cond (.t 34)
    .skip
    (.exit 0))
   (.seq (.block 1 (.seq (.reg [⟨(some 35), none, .iaddrS 4 (.t 31) (.t 33)⟩,
     ⟨(some 36), none, .load (some 4) (.t 35)⟩,
     ⟨(some 8), none, .new [(.int .i64 0), (.int .i64 0), (.int .i64 0), (.string ⟨#[]⟩)]⟩,
     ⟨none, none, .store 4 (.t 8) (.t 36)⟩] [0, 5, 6, 8, 31, 32, 33])
    (.seq (.reg [⟨(some 37), none, .mov (.t 5)⟩,
     ⟨(some 38), none, .load (some 4) (.t 8)⟩,
     ⟨(some 39), none, .call 22 [(.t 37), (.t 38)]⟩,
     ⟨(some 9), none, .new [(.int .i64 0), (.int .i64 0), (.int .i64 0), (.string ⟨#[]⟩)]⟩,
     ⟨none, none, .store 4 (.t 9) (.t 39)⟩] [0, 5, 6, 9, 31, 32, 33])
    (.reg [⟨(some 40), none, .mov (.t 6)⟩,
     ⟨(some 41), none, .load (some 4) (.t 9)⟩,
     ⟨(some 42), none, .call 15 [(.t 40), (.t 41)]⟩] [0, 5, 6, 31, 32, 33]))))
   (.reg [⟨(some 43), none, .bin .add (.t 33) (.c (.int .i64 1))⟩,
    ⟨(some 33), none, .mov (.t 43)⟩] [0, 5, 6, 31, 32, 33])))))))
 (.seq (.seq (.reg [⟨(some 44), none, .mov (.t 5)⟩,
  ⟨(some 45), none, .call 23 [(.t 44)]⟩,
  ⟨(some 46), none, .bin .neq (.t 45) (.c (.int .i64 0))⟩] [0, 6, 46])
 (.cond (.t 46)
  (.seq (.reg [⟨(some 4), none, .mov (.c (.bool true))⟩] [4])
  .ret)
  .skip))
 (.seq (.reg [⟨(some 48), none, .mov (.t 6)⟩,
  ⟨(some 49), none, .call 17 [(.t 48)]⟩,
  ⟨(some 47), none, .mov (.t 49)⟩,
  ⟨(some 50), none, .ext 0 (.t 47)⟩,
  ⟨(some 51), none, .ext 1 (.t 47)⟩,
  ⟨(some 10), none, .mov (.t 50)⟩,
  ⟨(some 11), none, .mov (.t 51)⟩] [0, 10, 11])
 (.seq (.reg [⟨(some 52), none, .mov (.t 11)⟩,
  ⟨(some 53), none, .bin .eql (.t 52) (.c (.int .i64 0))⟩,
  ⟨(some 54), none, .mov (.t 53)⟩,
  ⟨(some 55), some (54, true), .mov (.t 10)⟩,
  ⟨(some 56), some (54, true), .mov (.t 0)⟩,
  ⟨(some 57), some (54, true), .bin .eql (.t 55) (.t 56)⟩,
  ⟨(some 58), none, .pick (.t 54) (.t 57) (.c (.bool false))⟩,
  ⟨(some 4), none, .mov (.t 58)⟩] [4])
 .ret))))))))),
 [.tmp 4], false, false⟩

/-- hopmesh/hopmeshlaw02.BitioWidths -/
def F5 : AFn := ⟨70,
 (.seq (.reg [⟨(some 2), none, .mov (.c (.bool false))⟩] [0])
 (.seq (.seq (.reg [⟨(some 10), none, .call 11 []⟩,
  ⟨(some 11), none, .un .not (.t 10)⟩] [0, 11])
 (.cond (.t 11)
  (.seq (.reg [⟨(some 2), none, .mov (.c (.bool false))⟩] [2])
  .ret)
  .skip))
 (.seq (.reg [⟨(some 12), none, .mov (.t 0)⟩,
  ⟨(some 13), none, .call 24 [(.t 12)]⟩,
  ⟨(some 3), none, .mov (.t 13)⟩] [0, 3])
 (.seq (.seq (.reg [⟨(some 14), none, .mov (.t 0)⟩,
  ⟨(some 15), none, .bin .lss (.t 14) (.c (.int .i64 0))⟩] [0, 3, 15])
 (.cond (.t 15)
  (.seq (.reg [⟨(some 16), none, .mov (.t 3)⟩,
   ⟨(some 17), none, .bin .eql (.t 16) (.c (.int .i64 0))⟩,
   ⟨(some 2), none, .mov (.t 17)⟩] [2])
  .ret)
  .skip))
 (.seq (.seq (.reg [⟨(some 18), none, .mov (.t 3)⟩,
  ⟨(some 19), none, .bin .lss (.t 18) (.c (.int .i64 1))⟩,
  ⟨(some 20), none, .mov (.t 19)⟩,
  ⟨(some 21), some (20, false), .mov (.t 3)⟩,
  ⟨(some 22), some (20, false), .bin .gtr (.t 21) (.c (.int .i64 63))⟩,
  ⟨(some 23), none, .pick (.t 20) (.c (.bool true)) (.t 22)⟩] [0, 3, 23])
 (.cond (.t 23)
  (.seq (.reg [⟨(some 2), none, .mov (.c (.bool false))⟩] [2])
  .ret)
  .skip))
 (.seq (.reg [⟨(some 24), none, .call 13 []⟩,
  ⟨(some 25), none, .call 13 []⟩,
  ⟨(some 4), none, .mov (.t 24)⟩,
  ⟨(some 5), none, .mov (.t 25)⟩] [0, 3, 4, 5])
 (.seq (.seq (.reg [⟨(some 26), none, .mov (.t 4)⟩,
  ⟨(some 27), none, .eqp false (.t 26) (.c (.pointer none))⟩,
  ⟨(some 28), none, .mov (.t 27)⟩,
  ⟨(some 29), some (28, false), .mov (.t 5)⟩,
  ⟨(some 30), some (28, false), .eqp false (.t 29) (.c (.pointer none))⟩,
  ⟨(some 31), none, .pick (.t 28) (.c (.bool true)) (.t 30)⟩] [0, 3, 4, 5, 31])
 (.cond (.t 31)
  (.seq (.reg [⟨(some 2), none, .mov (.c (.bool false))⟩] [2])
  .ret)
  .skip))
 (.seq (.reg [⟨(some 32), none, .mov (.t 4)⟩,
  ⟨(some 33), none, .mov (.t 3)⟩,
  ⟨(some 34), none, .mov (.t 0)⟩,
  ⟨(some 35), none, .call 25 [(.t 32), (.t 33), (.t 34)]⟩] [0, 3, 4, 5])
 (.seq (.seq (.reg [⟨(some 37), none, .mov (.t 4)⟩,
  ⟨(some 38), none, .call 17 [(.t 37)]⟩,
  ⟨(some 36), none, .mov (.t 38)⟩,
  ⟨(some 39), none, .ext 0 (.t 36)⟩,
  ⟨(some 40), none, .ext 1 (.t 36)⟩,
  ⟨(some 6), none, .mov (.t 39)⟩,
  ⟨(some 7), none, .mov (.t 40)⟩] [0, 3, 4, 5, 7])
 (.seq (.reg [⟨(some 41), none, .mov (.t 7)⟩,
  ⟨(some 42), none, .bin .neq (.t 41) (.c (.int .i64 0))⟩,
  ⟨(some 43), none, .mov (.t 42)⟩,
  ⟨(some 44), some (43, false), .mov (.t 4)⟩,
  ⟨(some 45), some (43, false), .call 19 [(.t 44)]⟩,
  ⟨(some 46), some (43, false), .mov (.t 3)⟩,
  ⟨(some 47), some (43, false), .bin .neq (.t 45) (.t 46)⟩,
  ⟨(some 48), none, .pick (.t 43) (.c (.bool true)) (.t 47)⟩] [0, 3, 5, 48])
 (.cond (.t 48)
  (.seq (.reg [⟨(some 2), none, .mov (.c (.bool false))⟩] [2])
  .ret)
  .skip)))
 (.seq (.seq (.reg [⟨(some 49), none, .mov (.t 3)⟩,
  ⟨(some 50), none, .bin .eql (.t 49) (.c (.int .i64 1))⟩] [0, 3, 5, 50])
 (.cond (.t 50)
  (.seq (.reg [⟨(some 51), none, .mov (.t 0)⟩,
   ⟨(some 52), none, .bin .leq (.t 51) (.c (.int .i64 1))⟩,
   ⟨(some 2), none, .mov (.t 52)⟩] [2])
  .ret)
  .skip))
 (.seq (.reg [⟨(some 53), none, .mov (.t 5)⟩,
  ⟨(some 54), none, .mov (.t 3)⟩,
  ⟨(some 55), none, .bin .sub (.t 54) (.c (.int .i64 1))⟩,
  ⟨(some 56), none, .mov (.t 0)⟩,
  ⟨(some 57), none, .call 25 [(.t 53), (.t 55), (.t 56)]⟩] [5])
 (.seq (.reg [⟨(some 59), none, .mov (.t 5)⟩,
  ⟨(some 60), none, .call 17 [(.t 59)]⟩,
  ⟨(some 58), none, .mov (.t 60)⟩,
  ⟨(some 61), none, .ext 0 (.t 58)⟩,
  ⟨(some 62), none, .ext 1 (.t 58)⟩,
  ⟨(some 8), none, .mov (.t 61)⟩,
  ⟨(some 9), none, .mov (.t 62)⟩] [5, 9])
 (.seq (.reg [⟨(some 63), none, .mov (.t 9)⟩,
  ⟨(some 64), none, .bin .eql (.t 63) (.c (.int .i64 2))⟩,
  ⟨(some 65), none, .mov (.t 64)⟩,
  ⟨(some 66), some (65, true), .mov (.t 5)⟩,
  ⟨(some 67), some (65, true), .call 19 [(.t 66)]⟩,
  ⟨(some 68), some (65, true), .bin .eql (.t 67) (.c (.int .i64 0))⟩,
  ⟨(some 69), none, .pick (.t 65) (.t 68) (.c (.bool false))⟩,
  ⟨(some 2), none, .mov (.t 69)⟩] [2])
 .ret))))))))))))),
 [.tmp 2], false, false⟩

/-- hopmesh/hopmeshlaw02.BitioSigned -/
def F6 : AFn := ⟨96,
 (.seq (.reg [⟨(some 4), none, .mov (.c (.bool false))⟩] [0, 1])
 (.seq (.seq (.reg [⟨(some 14), none, .call 11 []⟩,
  ⟨(some 15), none, .un .not (.t 14)⟩] [0, 1, 15])
 (.cond (.t 15)
  (.seq (.reg [⟨(some 4), none, .mov (.c (.bool false))⟩] [4])
  .ret)
  .skip))
 (.seq (.reg [⟨(some 16), none, .mov (.t 0)⟩,
  ⟨(some 17), none, .cvI .i64 (.t 16)⟩,
  ⟨(some 18), none, .bin .rem (.t 17) (.c (.int .i64 61))⟩,
  ⟨(some 19), none, .bin .add (.c (.int .i64 2)) (.t 18)⟩,
  ⟨(some 5), none, .mov (.t 19)⟩] [1, 5])
 (.seq (.reg [⟨(some 20), none, .call 13 []⟩,
  ⟨(some 21), none, .call 13 []⟩,
  ⟨(some 6), none, .mov (.t 20)⟩,
  ⟨(some 7), none, .mov (.t 21)⟩] [1, 5, 6, 7])
 (.seq (.seq (.reg [⟨(some 22), none, .mov (.t 6)⟩,
  ⟨(some 23), none, .eqp false (.t 22) (.c (.pointer none))⟩,
  ⟨(some 24), none, .mov (.t 23)⟩,
  ⟨(some 25), some (24, false), .mov (.t 7)⟩,
  ⟨(some 26), some (24, false), .eqp false (.t 25) (.c (.pointer none))⟩,
  ⟨(some 27), none, .pick (.t 24) (.c (.bool true)) (.t 26)⟩] [1, 5, 6, 7, 27])
 (.cond (.t 27)
  (.seq (.reg [⟨(some 4), none, .mov (.c (.bool false))⟩] [4])
  .ret)
  .skip))
 (.seq (.reg [⟨(some 28), none, .mov (.t 6)⟩,
  ⟨(some 29), none, .mov (.t 5)⟩,
  ⟨(some 30), none, .mov (.t 1)⟩,
  ⟨(some 31), none, .call 26 [(.t 28), (.t 29), (.t 30)]⟩] [1, 5, 6, 7])
 (.seq (.reg [⟨(some 33), none, .mov (.t 6)⟩,
  ⟨(some 34), none, .call 17 [(.t 33)]⟩,
  ⟨(some 32), none, .mov (.t 34)⟩,
  ⟨(some 35), none, .ext 0 (.t 32)⟩,
  ⟨(some 36), none, .ext 1 (.t 32)⟩,
  ⟨(some 8), none, .mov (.t 35)⟩,
  ⟨(some 9), none, .mov (.t 36)⟩] [1, 5, 7, 8, 9])
 (.seq (.seq (.reg [⟨(some 37), none, .mov (.t 1)⟩,
  ⟨(some 38), none, .mov (.t 5)⟩,
  ⟨(some 39), none, .bin .sub (.t 38) (.c (.int .i64 1))⟩,
  ⟨(some 40), none, .bin .shl (.c (.int .i64 1)) (.t 39)⟩,
  ⟨(some 41), none, .un .neg (.t 40)⟩,
  ⟨(some 42), none, .bin .lss (.t 37) (.t 41)⟩,
  ⟨(some 43), none, .mov (.t 42)⟩,
  ⟨(some 44), some (43, false), .mov (.t 1)⟩,
  ⟨(some 45), some (43, false), .mov (.t 5)⟩,
  ⟨(some 46), some (43, false), .bin .sub (.t 45) (.c (.int .i64 1))⟩,
  ⟨(some 47), some (43, false), .bin .shl (.c (.int .i64 1)) (.t 46)⟩,
  ⟨(some 48), some (43, false), .bin .geq (.t 44) (.t 47)⟩,
  ⟨(some 49), none, .pick (.t 43) (.c (.bool true)) (.t 48)⟩] [1, 5, 7, 8, 9, 49])
 (.cond (.t 49)
  (.seq (.reg [⟨(some 50), none, .mov (.t 9)⟩,
   ⟨(some 51), none, .bin .eql (.t 50) (.c (.int .i64 2))⟩,
   ⟨(some 52), none, .mov (.t 51)⟩,
   ⟨(some 53), some (52, true), .mov (.t 8)⟩,
   ⟨(some 54), some (52, true), .bin .eql (.t 53) (.c (.string ⟨#[]⟩))⟩,
   ⟨(some 55), none, .pick (.t 52) (.t 54) (.c (.bool false))⟩,
   ⟨(some 4), none, .mov (.t 55)⟩] [4])
  .ret)
  .skip))
 (.seq (.reg [⟨(some 56), none, .mov (.t 1)⟩,
  ⟨(some 10), none, .mov (.t 56)⟩] [1, 5, 7, 8, 9, 10])
 (.seq (.seq (.reg [⟨(some 57), none, .mov (.t 1)⟩,
  ⟨(some 58), none, .bin .lss (.t 57) (.c (.int .i64 0))⟩] [1, 5, 7, 8, 9, 10, 58])
 (.cond (.t 58)
  (.reg [⟨(some 59), none, .mov (.t 1)⟩,
   ⟨(some 60), none, .mov (.t 5)⟩,
   ⟨(some 61), none, .bin .shl (.c (.int .i64 1)) (.t 60)⟩,
   ⟨(some 62), none, .bin .add (.t 59) (.t 61)⟩,
   ⟨(some 10), none, .mov (.t 62)⟩] [1, 5, 7, 8, 9, 10])
  .skip))
 (.seq (.reg [⟨(some 63), none, .mov (.t 7)⟩,
  ⟨(some 64), none, .mov (.t 5)⟩,
  ⟨(some 65), none, .mov (.t 10)⟩,
  ⟨(some 66), none, .call 25 [(.t 63), (.t 64), (.t 65)]⟩] [1, 5, 7, 8, 9])
 (.seq (.reg [⟨(some 68), none, .mov (.t 7)⟩,
  ⟨(some 69), none, .call 17 [(.t 68)]⟩,
  ⟨(some 67), none, .mov (.t 69)⟩,
  ⟨(some 70), none, .ext 0 (.t 67)⟩,
  ⟨(some 71), none, .ext 1 (.t 67)⟩,
  ⟨(some 11), none, .mov (.t 70)⟩,
  ⟨(some 12), none, .mov (.t 71)⟩] [1, 5, 8, 9, 11, 12])
 (.seq (.reg [⟨(some 72), none, .mov (.t 8)⟩,
  ⟨(some 73), none, .call 21 [(.t 72)]⟩,
  ⟨(some 13), none, .mov (.t 73)⟩] [1, 5, 8, 9, 11, 12, 13])
 (.seq (.reg [⟨(some 74), none, .mov (.t 9)⟩,
  ⟨(some 75), none, .bin .eql (.t 74) (.c (.int .i64 0))⟩,
  ⟨(some 76), none, .mov (.t 75)⟩,
  ⟨(some 77), some (76, true), .mov (.t 12)⟩,
  ⟨(some 78), some (76, true), .bin .eql (.t 77) (.c (.int .i64 0))⟩,
  ⟨(some 79), none, .pick (.t 76) (.t 78) (.c (.bool false))⟩,
  ⟨(some 80), none, .mov (.t 79)⟩,
  ⟨(some 81), some (80, true), .mov (.t 8)⟩,
  ⟨(some 82), some (80, true), .mov (.t 11)⟩,
  ⟨(some 83), some (80, true), .bin .eql (.t 81) (.t 82)⟩,
  ⟨(some 84), none, .pick (.t 80) (.t 83) (.c (.bool false))⟩,
  ⟨(some 85), none, .mov (.t 84)⟩,
  ⟨(some 86), some (85, true), .mov (.t 13)⟩,
  ⟨(some 87), some (85, true), .eqp true (.t 86) (.c (.pointer none))⟩,
  ⟨(some 88), none, .pick (.t 85) (.t 87) (.c (.bool false))⟩,
  ⟨(some 89), none, .mov (.t 88)⟩,
  ⟨(some 90), some (89, true), .mov (.t 13)⟩,
  ⟨(some 91), some (89, true), .mov (.t 5)⟩,
  ⟨(some 92), some (89, true), .call 27 [(.t 90), (.t 91)]⟩,
  ⟨(some 93), some (89, true), .mov (.t 1)⟩,
  ⟨(some 94), some (89, true), .bin .eql (.t 92) (.t 93)⟩,
  ⟨(some 95), none, .pick (.t 89) (.t 94) (.c (.bool false))⟩,
  ⟨(some 4), none, .mov (.t 95)⟩] [4])
 .ret)))))))))))))),
 [.tmp 4], false, false⟩

/-- hopmesh/hopmeshlaw02.BitioReads -/
def F7 : AFn := ⟨108,
 (.seq (.reg [⟨(some 4), none, .mov (.c (.bool false))⟩] [0, 1])
 (.seq (.seq (.reg [⟨(some 11), none, .call 11 []⟩,
  ⟨(some 12), none, .un .not (.t 11)⟩] [0, 1, 12])
 (.cond (.t 12)
  (.seq (.reg [⟨(some 4), none, .mov (.c (.bool false))⟩] [4])
  .ret)
  .skip))
 (.seq (.seq (.reg [⟨(some 13), none, .mov (.t 0)⟩,
  ⟨(some 14), none, .lenS (.t 13)⟩,
  ⟨(some 15), none, .bin .gtr (.t 14) (.c (.int .i64 300))⟩,
  ⟨(some 16), none, .mov (.t 15)⟩,
  ⟨(some 17), some (16, false), .mov (.t 1)⟩,
  ⟨(some 18), some (16, false), .call 12 [(.t 17)]⟩,
  ⟨(some 19), some (16, false), .un .not (.t 18)⟩,
  ⟨(some 20), none, .pick (.t 16) (.c (.bool true)) (.t 19)⟩] [0, 1, 20])
 (.cond (.t 20)
  (.seq (.reg [⟨(some 4), none, .mov (.c (.bool true))⟩] [4])
  .ret)
  .skip))
 (.seq (.reg [⟨(some 21), none, .mov (.t 0)⟩,
  ⟨(some 22), none, .call 21 [(.t 21)]⟩,
  ⟨(some 23), none, .mov (.t 0)⟩,
  ⟨(some 24), none, .call 28 [(.t 23)]⟩,
  ⟨(some 5), none, .mov (.t 22)⟩,
  ⟨(some 6), none, .mov (.t 24)⟩] [1, 5, 6])
 (.seq (.seq (.reg [⟨(some 25), none, .mov (.t 5)⟩,
  ⟨(some 26), none, .eqp false (.t 25) (.c (.pointer none))⟩] [1, 5, 6, 26])
 (.cond (.t 26)
  (.seq (.reg [⟨(some 4), none, .mov (.c (.bool false))⟩] [4])
  .ret)
  .skip))
 (.seq (.seq (.reg [⟨(some 27), none, .mov (.t 1)⟩,
  ⟨(some 28), none, .lenL (.t 27)⟩,
  ⟨(some 29), none, .mov (.c (.int .i64 0))⟩] [5, 6, 27, 28, 29])
 (.block 0 (.loop (.seq (.reg [⟨(some 30), none, .bin .lss (.t 29) (.t 28)⟩] [5, 6, 27, 28, 29, 30])
   (.seq (.cond (.t 30)
    .skip
    (.exit 0))
   (.seq (.block 1 (.seq (.reg [⟨(some 31), none, .iaddrS 4 (.t 27) (.t 29)⟩,
     ⟨(some 32), none, .load (some 4) (.t 31)⟩,
     ⟨(some 8), none, .new [(.int .i64 0), (.int .i64 0), (.int .i64 0), (.string ⟨#[]⟩)]⟩,
     ⟨none, none, .store 4 (.t 8) (.t 32)⟩] [5, 6, 8, 27, 28, 29])
    (.seq (.reg [⟨(some 33), none, .mov (.t 5)⟩,
     ⟨(some 34), none, .load (some 4) (.t 8)⟩,
     ⟨(some 35), none, .call 22 [(.t 33), (.t 34)]⟩,
     ⟨(some 9), none, .new [(.int .i64 0), (.int .i64 0), (.int .i64 0), (.string ⟨#[]⟩)]⟩,
     ⟨none, none, .store 4 (.t 9) (.t 35)⟩] [5, 6, 8, 9, 27, 28, 29])
    (.seq (.reg [⟨(some 36), none, .load (some 4) (.t 8)⟩,
     ⟨(some 10), none, .new [(.int .i64 0), (.int .i64 0), (.int .i64 0), (.string ⟨#[]⟩)]⟩,
     ⟨none, none, .store 4 (.t 10) (.t 36)⟩] [5, 6, 8, 9, 10, 27, 28, 29])
    (.seq (.seq (.reg [⟨(some 37), none, .faddr 0 (.t 8)⟩,
     ⟨(some 38), none, .load none (.t 37)⟩] [5, 6, 8, 9, 10, 27, 28, 29, 38])
    (.block 2 (.seq (.reg [⟨(some 40), none, .bin .eql (.t 38) (.c (.int .i64 0))⟩,
      ⟨(some 39), none, .mov (.t 40)⟩] [5, 6, 8, 9, 10, 27, 28, 29, 38, 39])
     (.cond (.t 39)
      (.reg [⟨(some 41), none, .mov (.t 6)⟩,
       ⟨(some 42), none, .faddr 1 (.t 8)⟩,
       ⟨(some 43), none, .load none (.t 42)⟩,
       ⟨(some 44), none, .call 29 [(.t 41), (.t 43)]⟩,
       ⟨(some 45), none, .faddr 2 (.t 10)⟩,
       ⟨none, none, .store 1 (.t 45) (.t 44)⟩,
       ⟨(some 46), none, .faddr 3 (.t 10)⟩,
       ⟨none, none, .store 1 (.t 46) (.c (.string ⟨#[]⟩))⟩] [5, 6, 9, 10, 27, 28, 29])
      (.seq (.reg [⟨(some 48), none, .bin .eql (.t 38) (.c (.int .i64 1))⟩,
       ⟨(some 47), none, .mov (.t 48)⟩] [5, 6, 8, 9, 10, 27, 28, 29, 38, 47])
      (.cond (.t 47)
       (.reg [⟨(some 49), none, .mov (.t 6)⟩,
        ⟨(some 50), none, .faddr 1 (.t 8)⟩,
        ⟨(some 51), none, .load none (.t 50)⟩,
        ⟨(some 52), none, .call 30 [(.t 49), (.t 51)]⟩,
        ⟨(some 53), none, .faddr 2 (.t 10)⟩,
        ⟨none, none, .store 1 (.t 53) (.t 52)⟩,
        ⟨(some 54), none, .faddr 3 (.t 10)⟩,
        ⟨none, none, .store 1 (.t 54) (.c (.string ⟨#[]⟩))⟩] [5, 6, 9, 10, 27, 28, 29])
       (.seq (.reg [⟨(some 56), none, .bin .eql (.t 38) (.c (.int .i64 2))⟩,
        ⟨(some 55), none, .mov (.t 56)⟩] [5, 6, 8, 9, 10, 27, 28, 29, 38, 55])
       (.cond (.t 55)
        (.seq (.reg [⟨(some 57), none, .faddr 2 (.t 10)⟩,
         ⟨none, none, .store 1 (.t 57) (.c (.int .i64 0))⟩,
         ⟨(some 58), none, .faddr 3 (.t 10)⟩,
         ⟨none, none, .store 1 (.t 58) (.c (.string ⟨#[]⟩))⟩,
         ⟨(some 59), none, .faddr 1 (.t 10)⟩,
         ⟨none, none, .store 1 (.t 59) (.c (.int .i64 0))⟩] [5, 6, 9, 10, 27, 28, 29])
        (.seq (.reg [⟨(some 60), none, .mov (.t 6)⟩,
         ⟨(some 61), none, .call 31 [(.t 60)]⟩] [5, 6, 9, 10, 27, 28, 29, 61])
        (.cond (.t 61)
         (.reg [⟨(some 62), none, .faddr 2 (.t 10)⟩,
          ⟨none, none, .store 1 (.t 62) (.c (.int .i64 1))⟩] [5, 6, 9, 10, 27, 28, 29])
         .skip)))
        (.seq (.reg [⟨(some 64), none, .bin .eql (.t 38) (.c (.int .i64 3))⟩,
         ⟨(some 63), none, .mov (.t 64)⟩] [5, 6, 8, 9, 10, 27, 28, 29, 63])
        (.cond (.t 63)
         (.reg [⟨(some 65), none, .mov (.t 6)⟩,
          ⟨(some 66), none, .faddr 1 (.t 8)⟩,
          ⟨(some 67), none, .load none (.t 66)⟩,
          ⟨(some 68), none, .call 32 [(.t 65), (.t 67)]⟩,
          ⟨(some 69), none, .faddr 2 (.t 10)⟩,
          ⟨none, none, .store 1 (.t 69) (.c (.int .i64 0))⟩,
          ⟨(some 70), none, .faddr 3 (.t 10)⟩,
          ⟨none, none, .store 1 (.t 70) (.t 68)⟩] [5, 6, 9, 10, 27, 28, 29])
         .skip))))))))))
    (.seq (.reg [⟨(some 71), none, .load (some 4) (.t 9)⟩,
     ⟨(some 72), none, .load (some 4) (.t 10)⟩,
     ⟨(some 73), none, .eqs true [.int, .int, .int, .str] (.t 71) (.t 72)⟩,
     ⟨(some 74), none, .mov (.t 73)⟩,
     ⟨(some 75), some (74, false), .mov (.t 5)⟩,
     ⟨(some 76), some (74, false), .call 33 [(.t 75)]⟩,
     ⟨(some 77), some (74, false), .mov (.t 6)⟩,
     ⟨(some 78), some (74, false), .call 34 [(.t 77)]⟩,
     ⟨(some 79), some (74, false), .bin .neq (.t 76) (.t 78)⟩,
     ⟨(some 80), none, .pick (.t 74) (.c (.bool true)) (.t 79)⟩,
     ⟨(some 81), none, .mov (.t 80)⟩,
     ⟨(some 82), some (81, false), .mov (.t 5)⟩,
     ⟨(some 83), some (81, false), .call 35 [(.t 82)]⟩,
     ⟨(some 84), some (81, false), .mov (.t 6)⟩,
     ⟨(some 85), some (81, false), .call 36 [(.t 84)]⟩,
     ⟨(some 86), some (81, false), .bin .neq (.t 83) (.t 85)⟩,
     ⟨(some 87), none, .pick (.t 81) (.c (.bool true)) (.t 86)⟩,
     ⟨(some 88), none, .mov (.t 87)⟩,
     ⟨(some 89), some (88, false), .mov (.t 5)⟩,
     ⟨(some 90), some (88, false), .call 23 [(.t 89)]⟩,
     ⟨(some 91), some (88, false), .mov (.t 6)⟩,
     ⟨(some 92), some (88, false), .call 37 [(.t 91)]⟩,
     ⟨(some 93), some (88, false), .bin .neq (.t 90) (.t 92)⟩,
     ⟨(some 94), none, .pick (.t 88) (.c (.bool true)) (.t 93)⟩] [5, 6, 27, 28, 29, 94])
    (.cond (.t 94)
     (.seq (.reg [⟨(some 4), none, .mov (.c (.bool false))⟩] [4])
     .ret)
     .skip)))))))
   (.reg [⟨(some 95), none, .bin .add (.t 29) (.c (.int .i64 1))⟩,
    ⟨(some 29), none, .mov (.t 95)⟩] [5, 6, 27, 28, 29])))))))
 (.seq (.reg [⟨(some 96), none, .mov (.t 5)⟩,
  ⟨(some 97), none, .call 33 [(.t 96)]⟩,
  ⟨(some 98), none, .mov (.t 6)⟩,
  ⟨(some 99), none, .call 34 [(.t 98)]⟩,
  ⟨(some 100), none, .bin .eql (.t 97) (.t 99)⟩,
  ⟨(some 101), none, .mov (.t 100)⟩,
  ⟨(some 102), some (101, true), .mov (.t 5)⟩,
  ⟨(some 103), some (101, true), .call 23 [(.t 102)]⟩,
  ⟨(some 104), some (101, true), .mov (.t 6)⟩,
  ⟨(some 105), some (101, true), .call 37 [(.t 104)]⟩,
  ⟨(some 106), some (101, true), .bin .eql (.t 103) (.t 105)⟩,
  ⟨(some 107), none, .pick (.t 101) (.t 106) (.c (.bool false))⟩,
  ⟨(some 4), none, .mov (.t 107)⟩] [4])
 .ret))))))),
 [.tmp 4], false, false⟩

/-- hopmesh/hopmeshlaw02.BitioBack -/
def F8 : AFn := ⟨123,
 (.seq (.reg [⟨(some 2), none, .mov (.c (.bool false))⟩] [0])
 (.seq (.seq (.reg [⟨(some 12), none, .call 11 []⟩,
  ⟨(some 13), none, .un .not (.t 12)⟩] [0, 13])
 (.cond (.t 13)
  (.seq (.reg [⟨(some 2), none, .mov (.c (.bool false))⟩] [2])
  .ret)
  .skip))
 (.seq (.seq (.reg [⟨(some 14), none, .mov (.t 0)⟩,
  ⟨(some 15), none, .call 12 [(.t 14)]⟩,
  ⟨(some 16), none, .un .not (.t 15)⟩] [0, 16])
 (.cond (.t 16)
  (.seq (.reg [⟨(some 2), none, .mov (.c (.bool true))⟩] [2])
  .ret)
  .skip))
 (.seq (.reg [⟨(some 17), none, .call 13 []⟩,
  ⟨(some 3), none, .mov (.t 17)⟩] [0, 3])
 (.seq (.seq (.reg [⟨(some 18), none, .mov (.t 3)⟩,
  ⟨(some 19), none, .eqp false (.t 18) (.c (.pointer none))⟩] [0, 3, 19])
 (.cond (.t 19)
  (.seq (.reg [⟨(some 2), none, .mov (.c (.bool false))⟩] [2])
  .ret)
  .skip))
 (.seq (.seq (.reg [⟨(some 20), none, .mov (.t 0)⟩,
  ⟨(some 21), none, .lenL (.t 20)⟩,
  ⟨(some 22), none, .mov (.c (.int .i64 0))⟩] [0, 3, 20, 21, 22])
 (.block 0 (.loop (.seq (.reg [⟨(some 23), none, .bin .lss (.t 22) (.t 21)⟩] [0, 3, 20, 21, 22, 23])
   (.seq (.cond (.t 23)
    .skip
    (.exit 0))
   (.seq (.block 1 (.seq (.reg [⟨(some 24), none, .iaddrS 4 (.t 20) (.t 22)⟩,
     ⟨(some 25), none, .load (some 4) (.t 24)⟩,
     ⟨(some 5), none, .new [(.int .i64 0), (.int .i64 0), (.int .i64 0), (.string ⟨#[]⟩)]⟩,
     ⟨none, none, .store 4 (.t 5) (.t 25)⟩] [0, 3, 5, 20, 21, 22])
    (.reg [⟨(some 26), none, .mov (.t 3)⟩,
     ⟨(some 27), none, .load (some 4) (.t 5)⟩,
     ⟨(some 28), none, .call 15 [(.t 26), (.t 27)]⟩] [0, 3, 20, 21, 22])))
   (.reg [⟨(some 29), none, .bin .add (.t 22) (.c (.int .i64 1))⟩,
    ⟨(some 22), none, .mov (.t 29)⟩] [0, 3, 20, 21, 22])))))))
 (.seq (.reg [⟨(some 31), none, .mov (.t 3)⟩,
  ⟨(some 32), none, .call 17 [(.t 31)]⟩,
  ⟨(some 30), none, .mov (.t 32)⟩,
  ⟨(some 33), none, .ext 0 (.t 30)⟩,
  ⟨(some 34), none, .ext 1 (.t 30)⟩,
  ⟨(some 6), none, .mov (.t 33)⟩,
  ⟨(some 7), none, .mov (.t 34)⟩] [0, 3, 6, 7])
 (.seq (.seq (.reg [⟨(some 35), none, .mov (.t 7)⟩,
  ⟨(some 36), none, .bin .neq (.t 35) (.c (.int .i64 0))⟩] [0, 3, 6, 36])
 (.cond (.t 36)
  (.seq (.reg [⟨(some 37), none, .mov (.t 6)⟩,
   ⟨(some 38), none, .bin .eql (.t 37) (.c (.string ⟨#[]⟩))⟩,
   ⟨(some 2), none, .mov (.t 38)⟩] [2])
  .ret)
  .skip))
 (.seq (.seq (.reg [⟨(some 39), none, .mov (.t 6)⟩,
  ⟨(some 40), none, .lenS (.t 39)⟩,
  ⟨(some 41), none, .mov (.t 3)⟩,
  ⟨(some 42), none, .call 19 [(.t 41)]⟩,
  ⟨(some 43), none, .bin .add (.t 42) (.c (.int .i64 7))⟩,
  ⟨(some 44), none, .bin .quo (.t 43) (.c (.int .i64 8))⟩,
  ⟨(some 45), none, .bin .neq (.t 40) (.t 44)⟩] [0, 3, 6, 45])
 (.cond (.t 45)
  (.seq (.reg [⟨(some 2), none, .mov (.c (.bool false))⟩] [2])
  .ret)
  .skip))
 (.seq (.reg [⟨(some 46), none, .mov (.t 6)⟩,
  ⟨(some 47), none, .call 21 [(.t 46)]⟩,
  ⟨(some 8), none, .mov (.t 47)⟩] [0, 3, 6, 8])
 (.seq (.seq (.reg [⟨(some 48), none, .mov (.t 8)⟩,
  ⟨(some 49), none, .eqp false (.t 48) (.c (.pointer none))⟩] [0, 3, 6, 8, 49])
 (.cond (.t 49)
  (.seq (.reg [⟨(some 2), none, .mov (.c (.bool false))⟩] [2])
  .ret)
  .skip))
 (.seq (.seq (.reg [⟨(some 50), none, .mov (.t 0)⟩,
  ⟨(some 51), none, .lenL (.t 50)⟩,
  ⟨(some 52), none, .mov (.c (.int .i64 0))⟩] [3, 6, 8, 50, 51, 52])
 (.block 2 (.loop (.seq (.reg [⟨(some 53), none, .bin .lss (.t 52) (.t 51)⟩] [3, 6, 8, 50, 51, 52, 53])
   (.seq (.cond (.t 53)
    .skip
    (.exit 2))
   (.seq (.block 3 (.seq (.reg [⟨(some 54), none, .iaddrS 4 (.t 50) (.t 52)⟩,
     ⟨(some 55), none, .load (some 4) (.t 54)⟩,
     ⟨(some 10), none, .new [(.int .i64 0), (.int .i64 0), (.int .i64 0), (.string ⟨#[]⟩)]⟩,
     ⟨none, none, .store 4 (.t 10) (.t 55)⟩] [3, 6, 8, 10, 50, 51, 52])
    (.seq (.seq (.reg [⟨(some 56), none, .faddr 0 (.t 10)⟩,
     ⟨(some 57), none, .load none (.t 56)⟩,
     ⟨(some 58), none, .bin .lss (.t 57) (.c (.int .i64 0))⟩,
     ⟨(some 59), none, .mov (.t 58)⟩,
     ⟨(some 60), some (59, false), .faddr 0 (.t 10)⟩,
     ⟨(some 61), some (59, false), .load none (.t 60)⟩,
     ⟨(some 62), some (59, false), .bin .gtr (.t 61) (.c (.int .i64 3))⟩,
     ⟨(some 63), none, .pick (.t 59) (.c (.bool true)) (.t 62)⟩] [3, 6, 8, 10, 50, 51, 52, 63])
    (.cond (.t 63)
     (.exit 3)
     .skip))
    (.seq (.reg [⟨(some 64), none, .mov (.t 8)⟩,
     ⟨(some 65), none, .load (some 4) (.t 10)⟩,
     ⟨(some 66), none, .call 22 [(.t 64), (.t 65)]⟩,
     ⟨(some 11), none, .new [(.int .i64 0), (.int .i64 0), (.int .i64 0), (.string ⟨#[]⟩)]⟩,
     ⟨none, none, .store 4 (.t 11) (.t 66)⟩] [3, 6, 8, 10, 11, 50, 51, 52])
    (.seq (.reg [⟨(some 67), none, .mov (.t 8)⟩,
     ⟨(some 68), none, .call 35 [(.t 67)]⟩,
     ⟨(some 69), none, .bin .neq (.t 68) (.c (.int .i64 0))⟩,
     ⟨(some 70), none, .mov (.t 69)⟩,
     ⟨(some 71), some (70, false), .faddr 0 (.t 10)⟩,
     ⟨(some 72), some (70, false), .load none (.t 71)⟩,
     ⟨(some 73), some (70, false), .bin .leq (.t 72) (.c (.int .i64 1))⟩,
     ⟨(some 74), some (70, false), .mov (.t 73)⟩,
     ⟨(some 75), some (74, true), .faddr 2 (.t 11)⟩,
     ⟨(some 76), some (74, true), .load none (.t 75)⟩,
     ⟨(some 77), some (74, true), .faddr 2 (.t 10)⟩,
     ⟨(some 78), some (74, true), .load none (.t 77)⟩,
     ⟨(some 79), some (74, true), .bin .neq (.t 76) (.t 78)⟩,
     ⟨(some 80), some (70, false), .pick (.t 74) (.t 79) (.c (.bool false))⟩,
     ⟨(some 81), none, .pick (.t 70) (.c (.bool true)) (.t 80)⟩,
     ⟨(some 82), none, .mov (.t 81)⟩,
     ⟨(some 83), some (82, false), .faddr 0 (.t 10)⟩,
     ⟨(some 84), some (82, false), .load none (.t 83)⟩,
     ⟨(some 85), some (82, false), .bin .eql (.t 84) (.c (.int .i64 2))⟩,
     ⟨(some 86), some (82, false), .mov (.t 85)⟩,
     ⟨(some 87), some (86, true), .faddr 2 (.t 11)⟩,
     ⟨(some 88), some (86, true), .load none (.t 87)⟩,
     ⟨(some 89), some (86, true), .bin .eql (.t 88) (.c (.int .i64 1))⟩,
     ⟨(some 90), some (86, true), .faddr 2 (.t 10)⟩,
     ⟨(some 91), some (86, true), .load none (.t 90)⟩,
     ⟨(some 92), some (86, true), .bin .neq (.t 91) (.c (.int .i64 0))⟩,
     ⟨(some 93), some (86, true), .eqb true (.t 89) (.t 92)⟩,
     ⟨(some 94), some (82, false), .pick (.t 86) (.t 93) (.c (.bool false))⟩,
     ⟨(some 95), none, .pick (.t 82) (.c (.bool true)) (.t 94)⟩,
     ⟨(some 96), none, .mov (.t 95)⟩,
     ⟨(some 97), some (96, false), .faddr 0 (.t 10)⟩,
     ⟨(some 98), some (96, false), .load none (.t 97)⟩,
     ⟨(some 99), some (96, false), .bin .eql (.t 98) (.c (.int .i64 3))⟩,
     ⟨(some 100), some (96, false), .mov (.t 99)⟩,
     ⟨(some 101), some (100, true), .faddr 3 (.t 11)⟩,
     ⟨(some 102), some (100, true), .load none (.t 101)⟩,
     ⟨(some 103), some (100, true), .faddr 3 (.t 10)⟩,
     ⟨(some 104), some (100, true), .load none (.t 103)⟩,
     ⟨(some 105), some (100, true), .bin .neq (.t 102) (.t 104)⟩,
     ⟨(some 106), some (96, false), .pick (.t 100) (.t 105) (.c (.bool false))⟩,
     ⟨(some 107), none, .pick (.t 96) (.c (.bool true)) (.t 106)⟩] [3, 6, 8, 50, 51, 52, 107])
    (.cond (.t 107)
     (.seq (.reg [⟨(some 2), none, .mov (.c (.bool false))⟩] [2])
     .ret)
     .skip))))))
   (.reg [⟨(some 108), none, .bin .add (.t 52) (.c (.int .i64 1))⟩,
    ⟨(some 52), none, .mov (.t 108)⟩] [3, 6, 8, 50, 51, 52])))))))
 (.seq (.reg [⟨(some 109), none, .mov (.t 8)⟩,
  ⟨(some 110), none, .call 33 [(.t 109)]⟩,
  ⟨(some 111), none, .mov (.t 6)⟩,
  ⟨(some 112), none, .lenS (.t 111)⟩,
  ⟨(some 113), none, .bin .mul (.c (.int .i64 8)) (.t 112)⟩,
  ⟨(some 114), none, .mov (.t 3)⟩,
  ⟨(some 115), none, .call 19 [(.t 114)]⟩,
  ⟨(some 116), none, .bin .sub (.t 113) (.t 115)⟩,
  ⟨(some 117), none, .bin .eql (.t 110) (.t 116)⟩,
  ⟨(some 118), none, .mov (.t 117)⟩,
  ⟨(some 119), some (118, true), .mov (.t 8)⟩,
  ⟨(some 120), some (118, true), .call 23 [(.t 119)]⟩,
  ⟨(some 121), some (118, true), .bin .eql (.t 120) (.c (.int .i64 0))⟩,
  ⟨(some 122), none, .pick (.t 118) (.t 121) (.c (.bool false))⟩,
  ⟨(some 2), none, .mov (.t 122)⟩] [2])
 .ret))))))))))))),
 [.tmp 2], false, false⟩

/-- hopmesh/hopmeshlaw02.BitioStops -/
def F9 : AFn := ⟨81,
 (.seq (.reg [⟨(some 4), none, .mov (.c (.bool false))⟩] [0, 1])
 (.seq (.seq (.reg [⟨(some 10), none, .call 11 []⟩,
  ⟨(some 11), none, .un .not (.t 10)⟩] [0, 1, 11])
 (.cond (.t 11)
  (.seq (.reg [⟨(some 4), none, .mov (.c (.bool false))⟩] [4])
  .ret)
  .skip))
 (.seq (.seq (.reg [⟨(some 12), none, .mov (.t 0)⟩,
  ⟨(some 13), none, .lenS (.t 12)⟩,
  ⟨(some 14), none, .bin .gtr (.t 13) (.c (.int .i64 300))⟩,
  ⟨(some 15), none, .mov (.t 14)⟩,
  ⟨(some 16), some (15, false), .mov (.t 1)⟩,
  ⟨(some 17), some (15, false), .call 12 [(.t 16)]⟩,
  ⟨(some 18), some (15, false), .un .not (.t 17)⟩,
  ⟨(some 19), none, .pick (.t 15) (.c (.bool true)) (.t 18)⟩] [0, 1, 19])
 (.cond (.t 19)
  (.seq (.reg [⟨(some 4), none, .mov (.c (.bool true))⟩] [4])
  .ret)
  .skip))
 (.seq (.reg [⟨(some 20), none, .mov (.t 0)⟩,
  ⟨(some 21), none, .call 21 [(.t 20)]⟩,
  ⟨(some 5), none, .mov (.t 21)⟩] [1, 5])
 (.seq (.seq (.reg [⟨(some 22), none, .mov (.t 5)⟩,
  ⟨(some 23), none, .eqp false (.t 22) (.c (.pointer none))⟩] [1, 5, 23])
 (.cond (.t 23)
  (.seq (.reg [⟨(some 4), none, .mov (.c (.bool false))⟩] [4])
  .ret)
  .skip))
 (.seq (.reg [⟨(some 6), none, .mov (.c (.int .i64 0))⟩] [1, 5, 6])
 (.seq (.seq (.reg [⟨(some 24), none, .mov (.t 1)⟩,
  ⟨(some 25), none, .lenL (.t 24)⟩,
  ⟨(some 26), none, .mov (.c (.int .i64 0))⟩] [5, 6, 24, 25, 26])
 (.block 0 (.loop (.seq (.reg [⟨(some 27), none, .bin .lss (.t 26) (.t 25)⟩] [5, 6, 24, 25, 26, 27])
   (.seq (.cond (.t 27)
    .skip
    (.exit 0))
   (.seq (.block 1 (.seq (.reg [⟨(some 28), none, .iaddrS 4 (.t 24) (.t 26)⟩,
     ⟨(some 29), none, .load (some 4) (.t 28)⟩,
     ⟨(some 8), none, .new [(.int .i64 0), (.int .i64 0), (.int .i64 0), (.string ⟨#[]⟩)]⟩,
     ⟨none, none, .store 4 (.t 8) (.t 29)⟩] [5, 6, 8, 24, 25, 26])
    (.seq (.reg [⟨(some 30), none, .mov (.t 5)⟩,
     ⟨(some 31), none, .load (some 4) (.t 8)⟩,
     ⟨(some 32), none, .call 22 [(.t 30), (.t 31)]⟩,
     ⟨(some 9), none, .new [(.int .i64 0), (.int .i64 0), (.int .i64 0), (.string ⟨#[]⟩)]⟩,
     ⟨none, none, .store 4 (.t 9) (.t 32)⟩] [5, 6, 8, 9, 24, 25, 26])
    (.seq (.seq (.reg [⟨(some 33), none, .mov (.t 6)⟩,
     ⟨(some 34), none, .bin .neq (.t 33) (.c (.int .i64 0))⟩,
     ⟨(some 35), none, .mov (.t 34)⟩,
     ⟨(some 36), some (35, true), .mov (.t 5)⟩,
     ⟨(some 37), some (35, true), .call 35 [(.t 36)]⟩,
     ⟨(some 38), some (35, true), .mov (.t 6)⟩,
     ⟨(some 39), some (35, true), .bin .neq (.t 37) (.t 38)⟩,
     ⟨(some 40), some (35, true), .mov (.t 39)⟩,
     ⟨(some 41), some (40, false), .faddr 0 (.t 8)⟩,
     ⟨(some 42), some (40, false), .load none (.t 41)⟩,
     ⟨(some 43), some (40, false), .bin .geq (.t 42) (.c (.int .i64 0))⟩,
     ⟨(some 44), some (40, false), .mov (.t 43)⟩,
     ⟨(some 45), some (44, true), .faddr 0 (.t 8)⟩,
     ⟨(some 46), some (44, true), .load none (.t 45)⟩,
     ⟨(some 47), some (44, true), .bin .leq (.t 46) (.c (.int .i64 3))⟩,
     ⟨(some 48), some (40, false), .pick (.t 44) (.t 47) (.c (.bool false))⟩,
     ⟨(some 49), some (40, false), .mov (.t 48)⟩,
     ⟨(some 50), some (49, true), .faddr 2 (.t 9)⟩,
     ⟨(some 51), some (49, true), .load none (.t 50)⟩,
     ⟨(some 52), some (49, true), .bin .neq (.t 51) (.c (.int .i64 0))⟩,
     ⟨(some 53), some (49, true), .mov (.t 52)⟩,
     ⟨(some 54), some (53, false), .faddr 3 (.t 9)⟩,
     ⟨(some 55), some (53, false), .load none (.t 54)⟩,
     ⟨(some 56), some (53, false), .bin .neq (.t 55) (.c (.string ⟨#[]⟩))⟩,
     ⟨(some 57), some (49, true), .pick (.t 53) (.c (.bool true)) (.t 56)⟩,
     ⟨(some 58), some (40, false), .pick (.t 49) (.t 57) (.c (.bool false))⟩,
     ⟨(some 59), some (35, true), .pick (.t 40) (.c (.bool true)) (.t 58)⟩,
     ⟨(some 60), none, .pick (.t 35) (.t 59) (.c (.bool false))⟩] [5, 24, 25, 26, 60])
    (.cond (.t 60)
     (.seq (.reg [⟨(some 4), none, .mov (.c (.bool false))⟩] [4])
     .ret)
     .skip))
    (.seq (.reg [⟨(some 61), none, .mov (.t 5)⟩,
     ⟨(some 62), none, .call 35 [(.t 61)]⟩,
     ⟨(some 6), none, .mov (.t 62)⟩] [5, 6, 24, 25, 26])
    (.seq (.reg [⟨(some 63), none, .mov (.t 6)⟩,
     ⟨(some 64), none, .bin .neq (.t 63) (.c (.int .i64 0))⟩,
     ⟨(some 65), none, .mov (.t 64)⟩,
     ⟨(some 66), some (65, true), .mov (.t 5)⟩,
     ⟨(some 67), some (65, true), .call 33 [(.t 66)]⟩,
     ⟨(some 68), some (65, true), .bin .neq (.t 67) (.c (.int .i64 0))⟩,
     ⟨(some 69), some (65, true), .mov (.t 68)⟩,
     ⟨(some 70), some (69, false), .mov (.t 5)⟩,
     ⟨(some 71), some (69, false), .call 23 [(.t 70)]⟩,
     ⟨(some 72), some (69, false), .mov (.t 6)⟩,
     ⟨(some 73), some (69, false), .bin .neq (.t 71) (.t 72)⟩,
     ⟨(some 74), some (65, true), .pick (.t 69) (.c (.bool true)) (.t 73)⟩,
     ⟨(some 75), none, .pick (.t 65) (.t 74) (.c (.bool false))⟩] [5, 6, 24, 25, 26, 75])
    (.cond (.t 75)
     (.seq (.reg [⟨(some 4), none, .mov (.c (.bool false))⟩] [4])
     .ret)
     .skip)))))))
   (.reg [⟨(some 76), none, .bin .add (.t 26) (.c (.int .i64 1))⟩,
    ⟨(some 26), none, .mov (.t 76)⟩] [5, 6, 24, 25, 26])))))))
 (.seq (.reg [⟨(some 77), none, .mov (.t 5)⟩,
  ⟨(some 78), none, .call 35 [(.t 77)]⟩,
  ⟨(some 79), none, .mov (.t 6)⟩,
  ⟨(some 80), none, .bin .eql (.t 78) (.t 79)⟩,
  ⟨(some 4), none, .mov (.t 80)⟩] [4])
 .ret)))))))),
 [.tmp 4], false, false⟩

/-- hopmesh/hopmeshlaw02.BitioFull -/
def F10 : AFn := ⟨94,
 (.seq (.reg [⟨(some 2), none, .mov (.c (.bool false))⟩] [0])
 (.seq (.seq (.reg [⟨(some 11), none, .call 11 []⟩,
  ⟨(some 12), none, .un .not (.t 11)⟩] [0, 12])
 (.cond (.t 12)
  (.seq (.reg [⟨(some 2), none, .mov (.c (.bool false))⟩] [2])
  .ret)
  .skip))
 (.seq (.reg [⟨(some 13), none, .call 13 []⟩,
  ⟨(some 3), none, .mov (.t 13)⟩] [0, 3])
 (.seq (.seq (.reg [⟨(some 14), none, .mov (.t 3)⟩,
  ⟨(some 15), none, .eqp false (.t 14) (.c (.pointer none))⟩] [0, 3, 15])
 (.cond (.t 15)
  (.seq (.reg [⟨(some 2), none, .mov (.c (.bool false))⟩] [2])
  .ret)
  .skip))
 (.seq (.reg [⟨(some 4), none, .mov (.c (.int .i64 0))⟩] [0, 3, 4])
 (.seq (.reg [⟨(some 16), none, .mkS 1 [(.int .u8 0)] (.c (.int .i64 4000)) (.c (.int .i64 4000))⟩,
  ⟨(some 17), none, .cvBS (.t 16)⟩,
  ⟨(some 5), none, .mov (.t 17)⟩] [0, 3, 4, 5])
 (.seq (.seq (.reg [⟨(some 18), none, .mov (.c (.int .i64 0))⟩] [0, 3, 4, 5, 18])
 (.block 0 (.loop (.seq (.reg [⟨(some 19), none, .bin .lss (.t 18) (.c (.int .i64 16))⟩] [0, 3, 4, 5, 18, 19])
   (.seq (.cond (.t 19)
    .skip
    (.exit 0))
   (.seq (.block 1 (.seq (.reg [⟨(some 20), none, .mov (.t 3)⟩,
     ⟨(some 21), none, .mov (.t 5)⟩,
     ⟨(some 22), none, .call 38 [(.t 20), (.c (.int .i64 4000)), (.t 21)]⟩] [0, 3, 4, 5, 18])
    (.reg [⟨(some 23), none, .mov (.t 4)⟩,
     ⟨(some 24), none, .bin .add (.t 23) (.c (.int .i64 32012))⟩,
     ⟨(some 4), none, .mov (.t 24)⟩] [0, 3, 4, 5, 18])))
   (.reg [⟨(some 25), none, .bin .add (.t 18) (.c (.int .i64 1))⟩,
    ⟨(some 18), none, .mov (.t 25)⟩] [0, 3, 4, 5, 18])))))))
 (.seq (.block 2 (.loop (.seq (.seq (.reg [⟨(some 26), none, .mov (.t 4)⟩,
    ⟨(some 27), none, .bin .add (.t 26) (.c (.int .i64 60))⟩,
    ⟨(some 28), none, .bin .leq (.t 27) (.c (.int .i64 524288))⟩] [0, 3, 4, 28])
   (.cond (.t 28)
    .skip
    (.exit 2)))
   (.block 3 (.seq (.reg [⟨(some 29), none, .mov (.t 3)⟩,
     ⟨(some 30), none, .call 25 [(.t 29), (.c (.int .i64 60)), (.c (.int .i64 1))]⟩] [0, 3, 4])
    (.reg [⟨(some 31), none, .mov (.t 4)⟩,
     ⟨(some 32), none, .bin .add (.t 31) (.c (.int .i64 60))⟩,
     ⟨(some 4), none, .mov (.t 32)⟩] [0, 3, 4]))))))
 (.seq (.reg [⟨(some 33), none, .mov (.t 4)⟩,
  ⟨(some 34), none, .bin .sub (.c (.int .i64 524288)) (.t 33)⟩,
  ⟨(some 6), none, .mov (.t 34)⟩] [0, 3, 4, 6])
 (.seq (.reg [⟨(some 35), none, .mov (.t 0)⟩,
  ⟨(some 36), none, .cvI .i64 (.t 35)⟩,
  ⟨(some 37), none, .bin .rem (.t 36) (.c (.int .i64 62))⟩,
  ⟨(some 38), none, .bin .add (.c (.int .i64 1)) (.t 37)⟩,
  ⟨(some 7), none, .mov (.t 38)⟩] [3, 4, 6, 7])
 (.seq (.reg [⟨(some 39), none, .mov (.t 3)⟩,
  ⟨(some 40), none, .mov (.t 7)⟩,
  ⟨(some 41), none, .call 25 [(.t 39), (.t 40), (.c (.int .i64 1))]⟩] [3, 4, 6, 7])
 (.seq (.reg [⟨(some 43), none, .mov (.t 3)⟩,
  ⟨(some 44), none, .call 17 [(.t 43)]⟩,
  ⟨(some 42), none, .mov (.t 44)⟩,
  ⟨(some 45), none, .ext 0 (.t 42)⟩,
  ⟨(some 46), none, .ext 1 (.t 42)⟩,
  ⟨(some 8), none, .mov (.t 45)⟩,
  ⟨(some 9), none, .mov (.t 46)⟩] [3, 4, 6, 7, 8, 9])
 (.seq (.seq (.reg [⟨(some 47), none, .mov (.t 7)⟩,
  ⟨(some 48), none, .mov (.t 6)⟩,
  ⟨(some 49), none, .bin .gtr (.t 47) (.t 48)⟩] [3, 4, 7, 8, 9, 49])
 (.cond (.t 49)
  (.seq (.reg [⟨(some 50), none, .mov (.t 9)⟩,
   ⟨(some 51), none, .bin .eql (.t 50) (.c (.int .i64 8))⟩,
   ⟨(some 52), none, .mov (.t 51)⟩,
   ⟨(some 53), some (52, true), .mov (.t 8)⟩,
   ⟨(some 54), some (52, true), .bin .eql (.t 53) (.c (.string ⟨#[]⟩))⟩,
   ⟨(some 55), none, .pick (.t 52) (.t 54) (.c (.bool false))⟩,
   ⟨(some 56), none, .mov (.t 55)⟩,
   ⟨(some 57), some (56, true), .mov (.t 3)⟩,
   ⟨(some 58), some (56, true), .call 19 [(.t 57)]⟩,
   ⟨(some 59), some (56, true), .mov (.t 4)⟩,
   ⟨(some 60), some (56, true), .bin .eql (.t 58) (.t 59)⟩,
   ⟨(some 61), none, .pick (.t 56) (.t 60) (.c (.bool false))⟩,
   ⟨(some 2), none, .mov (.t 61)⟩] [2])
  .ret)
  .skip))
 (.seq (.reg [⟨(some 62), none, .mov (.t 8)⟩,
  ⟨(some 63), none, .bin .add (.t 62) (.c (.string ⟨#[0]⟩))⟩,
  ⟨(some 64), none, .call 21 [(.t 63)]⟩,
  ⟨(some 10), none, .mov (.t 64)⟩] [3, 4, 7, 8, 9, 10])
 (.seq (.reg [⟨(some 65), none, .mov (.t 9)⟩,
  ⟨(some 66), none, .bin .eql (.t 65) (.c (.int .i64 0))⟩,
  ⟨(some 67), none, .mov (.t 66)⟩,
  ⟨(some 68), some (67, true), .mov (.t 3)⟩,
  ⟨(some 69), some (67, true), .call 19 [(.t 68)]⟩,
  ⟨(some 70), some (67, true), .mov (.t 4)⟩,
  ⟨(some 71), some (67, true), .mov (.t 7)⟩,
  ⟨(some 72), some (67, true), .bin .add (.t 70) (.t 71)⟩,
  ⟨(some 73), some (67, true), .bin .eql (.t 69) (.t 72)⟩,
  ⟨(some 74), none, .pick (.t 67) (.t 73) (.c (.bool false))⟩,
  ⟨(some 75), none, .mov (.t 74)⟩,
  ⟨(some 76), some (75, true), .mov (.t 10)⟩,
  ⟨(some 77), some (75, true), .eqp true (.t 76) (.c (.pointer none))⟩,
  ⟨(some 78), none, .pick (.t 75) (.t 77) (.c (.bool false))⟩,
  ⟨(some 79), none, .mov (.t 78)⟩,
  ⟨(some 80), some (79, true), .mov (.t 8)⟩,
  ⟨(some 81), some (79, true), .lenS (.t 80)⟩,
  ⟨(some 82), some (79, true), .bin .lss (.t 81) (.c (.int .i64 65536))⟩,
  ⟨(some 83), some (79, true), .mov (.t 82)⟩,
  ⟨(some 84), some (83, false), .mov (.t 10)⟩,
  ⟨(some 85), some (83, false), .call 35 [(.t 84)]⟩,
  ⟨(some 86), some (83, false), .bin .eql (.t 85) (.c (.int .i64 8))⟩,
  ⟨(some 87), some (83, false), .mov (.t 86)⟩,
  ⟨(some 88), some (87, true), .mov (.t 10)⟩,
  ⟨(some 89), some (87, true), .call 33 [(.t 88)]⟩,
  ⟨(some 90), some (87, true), .bin .eql (.t 89) (.c (.int .i64 0))⟩,
  ⟨(some 91), some (83, false), .pick (.t 87) (.t 90) (.c (.bool false))⟩,
  ⟨(some 92), some (79, true), .pick (.t 83) (.c (.bool true)) (.t 91)⟩,
  ⟨(some 93), none, .pick (.t 79) (.t 92) (.c (.bool false))⟩,
  ⟨(some 2), none, .mov (.t 93)⟩] [2])
 .ret))))))))))))))),
 [.tmp 2], false, false⟩

/-- hopmesh/hopmeshlaw02.awake -/
def F11 : AFn := ⟨68,
 (.seq (.reg [⟨(some 0), none, .mov (.c (.bool false))⟩] [])
 (.seq (.reg [⟨(some 5), none, .call 13 []⟩,
  ⟨(some 1), none, .mov (.t 5)⟩] [1])
 (.seq (.seq (.reg [⟨(some 6), none, .mov (.t 1)⟩,
  ⟨(some 7), none, .eqp false (.t 6) (.c (.pointer none))⟩] [1, 7])
 (.cond (.t 7)
  (.seq (.reg [⟨(some 0), none, .mov (.c (.bool false))⟩] [0])
  .ret)
  .skip))
 (.seq (.reg [⟨(some 8), none, .mov (.t 1)⟩,
  ⟨(some 9), none, .call 25 [(.t 8), (.c (.int .i64 3)), (.c (.int .i64 5))]⟩] [1])
 (.seq (.reg [⟨(some 10), none, .mov (.t 1)⟩,
  ⟨(some 11), none, .call 26 [(.t 10), (.c (.int .i64 4)), (.c (.int .i64 (-1)))]⟩] [1])
 (.seq (.reg [⟨(some 12), none, .mov (.t 1)⟩,
  ⟨(some 13), none, .call 39 [(.t 12), (.c (.bool true))]⟩] [1])
 (.seq (.reg [⟨(some 14), none, .mov (.t 1)⟩,
  ⟨(some 15), none, .call 38 [(.t 14), (.c (.int .i64 3)), (.c (.string ⟨#[65]⟩))]⟩] [1])
 (.seq (.reg [⟨(some 17), none, .mov (.t 1)⟩,
  ⟨(some 18), none, .call 17 [(.t 17)]⟩,
  ⟨(some 16), none, .mov (.t 18)⟩,
  ⟨(some 19), none, .ext 0 (.t 16)⟩,
  ⟨(some 20), none, .ext 1 (.t 16)⟩,
  ⟨(some 2), none, .mov (.t 19)⟩,
  ⟨(some 3), none, .mov (.t 20)⟩] [1, 2, 3])
 (.seq (.reg [⟨(some 21), none, .call 21 [(.c (.string ⟨#[191, 80, 64]⟩))]⟩,
  ⟨(some 4), none, .mov (.t 21)⟩] [1, 2, 3, 4])
 (.seq (.seq (.reg [⟨(some 22), none, .mov (.t 4)⟩,
  ⟨(some 23), none, .eqp false (.t 22) (.c (.pointer none))⟩] [1, 2, 3, 4, 23])
 (.cond (.t 23)
  (.seq (.reg [⟨(some 0), none, .mov (.c (.bool false))⟩] [0])
  .ret)
  .skip))
 (.seq (.reg [⟨(some 24), none, .mov (.t 3)⟩,
  ⟨(some 25), none, .bin .eql (.t 24) (.c (.int .i64 0))⟩,
  ⟨(some 26), none, .mov (.t 25)⟩,
  ⟨(some 27), some (26, true), .mov (.t 2)⟩,
  ⟨(some 28), some (26, true), .bin .eql (.t 27) (.c (.string ⟨#[191, 80, 64]⟩))⟩,
  ⟨(some 29), none, .pick (.t 26) (.t 28) (.c (.bool false))⟩,
  ⟨(some 30), none, .mov (.t 29)⟩,
  ⟨(some 31), some (30, true), .mov (.t 1)⟩,
  ⟨(some 32), some (30, true), .call 19 [(.t 31)]⟩,
  ⟨(some 33), some (30, true), .bin .eql (.t 32) (.c (.int .i64 18))⟩,
  ⟨(some 34), none, .pick (.t 30) (.t 33) (.c (.bool false))⟩,
  ⟨(some 35), none, .mov (.t 34)⟩,
  ⟨(some 36), some (35, true), .mov (.t 4)⟩,
  ⟨(some 37), some (35, true), .call 40 [(.t 36), (.c (.int .i64 3))]⟩,
  ⟨(some 38), some (35, true), .bin .eql (.t 37) (.c (.int .i64 5))⟩,
  ⟨(some 39), none, .pick (.t 35) (.t 38) (.c (.bool false))⟩,
  ⟨(some 40), none, .mov (.t 39)⟩,
  ⟨(some 41), some (40, true), .mov (.t 4)⟩,
  ⟨(some 42), some (40, true), .call 27 [(.t 41), (.c (.int .i64 4))]⟩,
  ⟨(some 43), some (40, true), .bin .eql (.t 42) (.c (.int .i64 (-1)))⟩,
  ⟨(some 44), none, .pick (.t 40) (.t 43) (.c (.bool false))⟩,
  ⟨(some 45), none, .mov (.t 44)⟩,
  ⟨(some 46), some (45, true), .mov (.t 4)⟩,
  ⟨(some 47), some (45, true), .call 41 [(.t 46)]⟩,
  ⟨(some 48), none, .pick (.t 45) (.t 47) (.c (.bool false))⟩,
  ⟨(some 49), none, .mov (.t 48)⟩,
  ⟨(some 50), some (49, true), .mov (.t 4)⟩,
  ⟨(some 51), some (49, true), .call 42 [(.t 50), (.c (.int .i64 3))]⟩,
  ⟨(some 52), some (49, true), .bin .eql (.t 51) (.c (.string ⟨#[65]⟩))⟩,
  ⟨(some 53), none, .pick (.t 49) (.t 52) (.c (.bool false))⟩,
  ⟨(some 54), none, .mov (.t 53)⟩,
  ⟨(some 55), some (54, true), .mov (.t 4)⟩,
  ⟨(some 56), some (54, true), .call 33 [(.t 55)]⟩,
  ⟨(some 57), some (54, true), .bin .eql (.t 56) (.c (.int .i64 6))⟩,
  ⟨(some 58), none, .pick (.t 54) (.t 57) (.c (.bool false))⟩,
  ⟨(some 59), none, .mov (.t 58)⟩,
  ⟨(some 60), some (59, true), .mov (.t 4)⟩,
  ⟨(some 61), some (59, true), .call 23 [(.t 60)]⟩,
  ⟨(some 62), some (59, true), .bin .eql (.t 61) (.c (.int .i64 0))⟩,
  ⟨(some 63), none, .pick (.t 59) (.t 62) (.c (.bool false))⟩,
  ⟨(some 64), none, .mov (.t 63)⟩,
  ⟨(some 65), some (64, true), .call 24 [(.c (.int .i64 3))]⟩,
  ⟨(some 66), some (64, true), .bin .eql (.t 65) (.c (.int .i64 2))⟩,
  ⟨(some 67), none, .pick (.t 64) (.t 66) (.c (.bool false))⟩,
  ⟨(some 0), none, .mov (.t 67)⟩] [0])
 .ret))))))))))),
 [.tmp 0], true, true⟩

/-- hopmesh/hopmeshlaw02.few -/
def F12 : AFn := ⟨19,
 (.seq (.reg [⟨(some 2), none, .mov (.c (.bool false))⟩] [0])
 (.seq (.seq (.reg [⟨(some 5), none, .mov (.t 0)⟩,
  ⟨(some 6), none, .lenL (.t 5)⟩,
  ⟨(some 7), none, .bin .gtr (.t 6) (.c (.int .i64 40))⟩] [0, 7])
 (.cond (.t 7)
  (.seq (.reg [⟨(some 2), none, .mov (.c (.bool false))⟩] [2])
  .ret)
  .skip))
 (.seq (.seq (.reg [⟨(some 8), none, .mov (.t 0)⟩,
  ⟨(some 9), none, .lenL (.t 8)⟩,
  ⟨(some 10), none, .mov (.c (.int .i64 0))⟩] [8, 9, 10])
 (.block 0 (.loop (.seq (.reg [⟨(some 11), none, .bin .lss (.t 10) (.t 9)⟩] [8, 9, 10, 11])
   (.seq (.cond (.t 11)
    .skip
    (.exit 0))
   (.seq (.block 1 (.seq (.reg [⟨(some 12), none, .iaddrS 4 (.t 8) (.t 10)⟩,
     ⟨(some 13), none, .load (some 4) (.t 12)⟩,
     ⟨(some 4), none, .new [(.int .i64 0), (.int .i64 0), (.int .i64 0), (.string ⟨#[]⟩)]⟩,
     ⟨none, none, .store 4 (.t 4) (.t 13)⟩] [4, 8, 9, 10])
    (.seq (.reg [⟨(some 14), none, .faddr 3 (.t 4)⟩,
     ⟨(some 15), none, .load none (.t 14)⟩,
     ⟨(some 16), none, .lenS (.t 15)⟩,
     ⟨(some 17), none, .bin .gtr (.t 16) (.c (.int .i64 200))⟩] [8, 9, 10, 17])
    (.cond (.t 17)
     (.seq (.reg [⟨(some 2), none, .mov (.c (.bool false))⟩] [2])
     .ret)
     .skip))))
   (.reg [⟨(some 18), none, .bin .add (.t 10) (.c (.int .i64 1))⟩,
    ⟨(some 10), none, .mov (.t 18)⟩] [8, 9, 10])))))))
 (.seq (.reg [⟨(some 2), none, .mov (.c (.bool true))⟩] [2])
 .ret)))),
 [.tmp 2], false, false⟩

/-- hopmesh/bitio.NewWriter -/
def F13 : AFn := ⟨3,
 (.seq (.reg [⟨(some 0), none, .mov (.c (.pointer none))⟩] [])
 (.seq (.reg [⟨(some 1), none, .build [(.slice none 0 0), (.int .i64 0), (.int .i64 0)] []⟩,
  ⟨(some 2), none, .box (.t 1)⟩,
  ⟨(some 0), none, .mov (.t 2)⟩] [0])
 .ret)),
 [.tmp 0], false, false⟩

/-- hopmesh/hopmeshref02.NewWriter -/
def F14 : AFn := ⟨3,
 (.seq (.reg [⟨(some 0), none, .mov (.c (.pointer none))⟩] [])
 (.seq (.reg [⟨(some 1), none, .build [(.slice none 0 0), (.int .i64 0)] []⟩,
  ⟨(some 2), none, .box (.t 1)⟩,
  ⟨(some 0), none, .mov (.t 2)⟩] [0])
 .ret)),
 [.tmp 0], false, false⟩

/-- hopmesh/hopmeshlaw02.write -/
def F15 : AFn := ⟨37,
 (.seq (.reg [⟨(some 3), none, .box (.t 1)⟩] [0, 3])
 (.seq (.reg [⟨(some 4), none, .faddr 0 (.t 3)⟩,
  ⟨(some 5), none, .load none (.t 4)⟩] [0, 3, 5])
 (.block 0 (.seq (.reg [⟨(some 7), none, .bin .eql (.t 5) (.c (.int .i64 0))⟩,
   ⟨(some 6), none, .mov (.t 7)⟩] [0, 3, 5, 6])
  (.cond (.t 6)
   (.reg [⟨(some 8), none, .mov (.t 0)⟩,
    ⟨(some 9), none, .faddr 1 (.t 3)⟩,
    ⟨(some 10), none, .load none (.t 9)⟩,
    ⟨(some 11), none, .faddr 2 (.t 3)⟩,
    ⟨(some 12), none, .load none (.t 11)⟩,
    ⟨(some 13), none, .call 25 [(.t 8), (.t 10), (.t 12)]⟩] [])
   (.seq (.reg [⟨(some 15), none, .bin .eql (.t 5) (.c (.int .i64 1))⟩,
    ⟨(some 14), none, .mov (.t 15)⟩] [0, 3, 5, 14])
   (.cond (.t 14)
    (.reg [⟨(some 16), none, .mov (.t 0)⟩,
     ⟨(some 17), none, .faddr 1 (.t 3)⟩,
     ⟨(some 18), none, .load none (.t 17)⟩,
     ⟨(some 19), none, .faddr 2 (.t 3)⟩,
     ⟨(some 20), none, .load none (.t 19)⟩,
     ⟨(some 21), none, .call 26 [(.t 16), (.t 18), (.t 20)]⟩] [])
    (.seq (.reg [⟨(some 23), none, .bin .eql (.t 5) (.c (.int .i64 2))⟩,
     ⟨(some 22), none, .mov (.t 23)⟩] [0, 3, 5, 22])
    (.cond (.t 22)
     (.reg [⟨(some 24), none, .mov (.t 0)⟩,
      ⟨(some 25), none, .faddr 2 (.t 3)⟩,
      ⟨(some 26), none, .load none (.t 25)⟩,
      ⟨(some 27), none, .bin .neq (.t 26) (.c (.int .i64 0))⟩,
      ⟨(some 28), none, .call 39 [(.t 24), (.t 27)]⟩] [])
     (.seq (.reg [⟨(some 30), none, .bin .eql (.t 5) (.c (.int .i64 3))⟩,
      ⟨(some 29), none, .mov (.t 30)⟩] [0, 3, 29])
     (.cond (.t 29)
      (.reg [⟨(some 31), none, .mov (.t 0)⟩,
       ⟨(some 32), none, .faddr 1 (.t 3)⟩,
       ⟨(some 33), none, .load none (.t 32)⟩,
       ⟨(some 34), none, .faddr 3 (.t 3)⟩,
       ⟨(some 35), none, .load none (.t 34)⟩,
       ⟨(some 36), none, .call 38 [(.t 31), (.t 33), (.t 35)]⟩] [])
      .skip))))))))))),
 [], false, false⟩

/-- hopmesh/hopmeshlaw02.refWrite -/
def F16 : AFn := ⟨37,
 (.seq (.reg [⟨(some 3), none, .box (.t 1)⟩] [0, 3])
 (.seq (.reg [⟨(some 4), none, .faddr 0 (.t 3)⟩,
  ⟨(some 5), none, .load none (.t 4)⟩] [0, 3, 5])
 (.block 0 (.seq (.reg [⟨(some 7), none, .bin .eql (.t 5) (.c (.int .i64 0))⟩,
   ⟨(some 6), none, .mov (.t 7)⟩] [0, 3, 5, 6])
  (.cond (.t 6)
   (.reg [⟨(some 8), none, .mov (.t 0)⟩,
    ⟨(some 9), none, .faddr 1 (.t 3)⟩,
    ⟨(some 10), none, .load none (.t 9)⟩,
    ⟨(some 11), none, .faddr 2 (.t 3)⟩,
    ⟨(some 12), none, .load none (.t 11)⟩,
    ⟨(some 13), none, .call 43 [(.t 8), (.t 10), (.t 12)]⟩] [])
   (.seq (.reg [⟨(some 15), none, .bin .eql (.t 5) (.c (.int .i64 1))⟩,
    ⟨(some 14), none, .mov (.t 15)⟩] [0, 3, 5, 14])
   (.cond (.t 14)
    (.reg [⟨(some 16), none, .mov (.t 0)⟩,
     ⟨(some 17), none, .faddr 1 (.t 3)⟩,
     ⟨(some 18), none, .load none (.t 17)⟩,
     ⟨(some 19), none, .faddr 2 (.t 3)⟩,
     ⟨(some 20), none, .load none (.t 19)⟩,
     ⟨(some 21), none, .call 44 [(.t 16), (.t 18), (.t 20)]⟩] [])
    (.seq (.reg [⟨(some 23), none, .bin .eql (.t 5) (.c (.int .i64 2))⟩,
     ⟨(some 22), none, .mov (.t 23)⟩] [0, 3, 5, 22])
    (.cond (.t 22)
     (.reg [⟨(some 24), none, .mov (.t 0)⟩,
      ⟨(some 25), none, .faddr 2 (.t 3)⟩,
      ⟨(some 26), none, .load none (.t 25)⟩,
      ⟨(some 27), none, .bin .neq (.t 26) (.c (.int .i64 0))⟩,
      ⟨(some 28), none, .call 45 [(.t 24), (.t 27)]⟩] [])
     (.seq (.reg [⟨(some 30), none, .bin .eql (.t 5) (.c (.int .i64 3))⟩,
      ⟨(some 29), none, .mov (.t 30)⟩] [0, 3, 29])
     (.cond (.t 29)
      (.reg [⟨(some 31), none, .mov (.t 0)⟩,
       ⟨(some 32), none, .faddr 1 (.t 3)⟩,
       ⟨(some 33), none, .load none (.t 32)⟩,
       ⟨(some 34), none, .faddr 3 (.t 3)⟩,
       ⟨(some 35), none, .load none (.t 34)⟩,
       ⟨(some 36), none, .call 46 [(.t 31), (.t 33), (.t 35)]⟩] [])
      .skip))))))))))),
 [], false, false⟩

/-- (*hopmesh/bitio.Writer).Bytes -/
def F17 : AFn := ⟨18,
 (.seq (.reg [⟨(some 2), none, .mov (.c (.string ⟨#[]⟩))⟩,
  ⟨(some 3), none, .mov (.c (.int .i64 0))⟩] [0])
 (.seq (.seq (.reg [⟨(some 4), none, .mov (.t 0)⟩,
  ⟨(some 5), none, .nilck (.t 4)⟩,
  ⟨(some 6), none, .faddr 2 (.t 5)⟩,
  ⟨(some 7), none, .load none (.t 6)⟩,
  ⟨(some 8), none, .bin .neq (.t 7) (.c (.int .i64 0))⟩] [0, 8])
 (.cond (.t 8)
  (.seq (.regd [⟨⟨(some 9), none, .mov (.t 0)⟩, false, 0⟩,
   ⟨⟨(some 10), none, .nilck (.t 9)⟩, false, 0⟩,
   ⟨⟨(some 11), none, .faddr 2 (.t 10)⟩, false, 0⟩,
   ⟨⟨(some 12), none, .load none (.t 11)⟩, false, 0⟩,
   ⟨⟨(some 2), none, .mov (.c (.string ⟨#[]⟩))⟩, false, 0⟩,
   ⟨⟨(some 3), none, .mov (.t 12)⟩, false, 0⟩] [2, 3])
  .ret)
  .skip))
 (.seq (.reg [⟨(some 13), none, .mov (.t 0)⟩,
  ⟨(some 14), none, .nilck (.t 13)⟩,
  ⟨(some 15), none, .faddr 0 (.t 14)⟩,
  ⟨(some 16), none, .load none (.t 15)⟩,
  ⟨(some 17), none, .cvBS (.t 16)⟩,
  ⟨(some 2), none, .mov (.t 17)⟩,
  ⟨(some 3), none, .mov (.c (.int .i64 0))⟩] [2, 3])
 .ret))),
 [.tmp 2, .tmp 3], false, false⟩

/-- (*hopmesh/hopmeshref02.Writer).Bytes -/
def F18 : AFn := ⟨55,
 (.seq (.reg [⟨(some 2), none, .mov (.c (.string ⟨#[]⟩))⟩,
  ⟨(some 3), none, .mov (.c (.int .i64 0))⟩] [0])
 (.seq (.seq (.reg [⟨(some 6), none, .mov (.t 0)⟩,
  ⟨(some 7), none, .nilck (.t 6)⟩,
  ⟨(some 8), none, .faddr 1 (.t 7)⟩,
  ⟨(some 9), none, .load none (.t 8)⟩,
  ⟨(some 10), none, .bin .neq (.t 9) (.c (.int .i64 0))⟩] [0, 10])
 (.cond (.t 10)
  (.seq (.regd [⟨⟨(some 11), none, .mov (.t 0)⟩, false, 0⟩,
   ⟨⟨(some 12), none, .nilck (.t 11)⟩, false, 0⟩,
   ⟨⟨(some 13), none, .faddr 1 (.t 12)⟩, false, 0⟩,
   ⟨⟨(some 14), none, .load none (.t 13)⟩, false, 0⟩,
   ⟨⟨(some 2), none, .mov (.c (.string ⟨#[]⟩))⟩, false, 0⟩,
   ⟨⟨(some 3), none, .mov (.t 14)⟩, false, 0⟩] [2, 3])
  .ret)
  .skip))
 (.seq (.reg [⟨(some 15), none, .mov (.t 0)⟩,
  ⟨(some 16), none, .nilck (.t 15)⟩,
  ⟨(some 17), none, .faddr 0 (.t 16)⟩,
  ⟨(some 18), none, .load none (.t 17)⟩,
  ⟨(some 19), none, .lenL (.t 18)⟩,
  ⟨(some 20), none, .bin .add (.t 19) (.c (.int .i64 7))⟩,
  ⟨(some 21), none, .bin .quo (.t 20) (.c (.int .i64 8))⟩,
  ⟨(some 22), none, .mkS 1 [(.int .u8 0)] (.t 21) (.t 21)⟩,
  ⟨(some 4), none, .mov (.t 22)⟩] [0, 4])
 (.seq (.seq (.reg [⟨(some 5), none, .mov (.c (.int .i64 0))⟩] [0, 4, 5])
 (.block 0 (.loop (.seq (.seq (.reg [⟨(some 23), none, .mov (.t 5)⟩,
    ⟨(some 24), none, .mov (.t 0)⟩,
    ⟨(some 25), none, .nilck (.t 24)⟩,
    ⟨(some 26), none, .faddr 0 (.t 25)⟩,
    ⟨(some 27), none, .load none (.t 26)⟩,
    ⟨(some 28), none, .lenL (.t 27)⟩,
    ⟨(some 29), none, .bin .lss (.t 23) (.t 28)⟩] [0, 4, 5, 29])
   (.cond (.t 29)
    .skip
    (.exit 0)))
   (.seq (.block 1 (.regd [⟨⟨(some 32), none, .mov (.t 4)⟩, false, 0⟩,
     ⟨⟨(some 33), none, .mov (.t 5)⟩, false, 0⟩,
     ⟨⟨(some 34), none, .bin .quo (.t 33) (.c (.int .i64 8))⟩, false, 0⟩,
     ⟨⟨(some 35), none, .mov (.t 4)⟩, false, 0⟩,
     ⟨⟨(some 36), none, .mov (.t 5)⟩, false, 0⟩,
     ⟨⟨(some 37), none, .bin .quo (.t 36) (.c (.int .i64 8))⟩, false, 0⟩,
     ⟨⟨(some 38), none, .iaddrS 1 (.t 35) (.t 37)⟩, false, 0⟩,
     ⟨⟨(some 39), none, .load none (.t 38)⟩, false, 0⟩,
     ⟨⟨(some 40), none, .mov (.t 0)⟩, false, 0⟩,
     ⟨⟨(some 41), none, .nilck (.t 40)⟩, false, 0⟩,
     ⟨⟨(some 42), none, .faddr 0 (.t 41)⟩, false, 0⟩,
     ⟨⟨(some 43), none, .load none (.t 42)⟩, false, 0⟩,
     ⟨⟨(some 44), none, .mov (.t 5)⟩, false, 0⟩,
     ⟨⟨(some 45), none, .iaddrS 1 (.t 43) (.t 44)⟩, false, 0⟩,
     ⟨⟨(some 46), none, .load none (.t 45)⟩, false, 0⟩,
     ⟨⟨(some 47), none, .mov (.t 5)⟩, false, 0⟩,
     ⟨⟨(some 48), none, .bin .rem (.t 47) (.c (.int .i64 8))⟩, false, 0⟩,
     ⟨⟨(some 49), none, .bin .sub (.c (.int .i64 7)) (.t 48)⟩, false, 0⟩,
     ⟨⟨(some 50), none, .bin .shl (.t 46) (.t 49)⟩, false, 0⟩,
     ⟨⟨(some 51), none, .bin .or (.t 39) (.t 50)⟩, false, 0⟩,
     ⟨⟨(some 52), none, .iaddrS 1 (.t 32) (.t 34)⟩, false, 0⟩,
     ⟨⟨none, none, .store 1 (.t 52) (.t 51)⟩, true, 0⟩] [0, 4, 5]))
   (.reg [⟨(some 30), none, .mov (.t 5)⟩,
    ⟨(some 31), none, .bin .add (.t 30) (.c (.int .i64 1))⟩,
    ⟨(some 5), none, .mov (.t 31)⟩] [0, 4, 5]))))))
 (.seq (.reg [⟨(some 53), none, .mov (.t 4)⟩,
  ⟨(some 54), none, .cvBS (.t 53)⟩,
  ⟨(some 2), none, .mov (.t 54)⟩,
  ⟨(some 3), none, .mov (.c (.int .i64 0))⟩] [2, 3])
 .ret))))),
 [.tmp 2, .tmp 3], false, false⟩

/-- (*hopmesh/bitio.Writer).Bits -/
def F19 : AFn := ⟨7,
 (.seq (.reg [⟨(some 2), none, .mov (.c (.int .i64 0))⟩] [0])
 (.seq (.reg [⟨(some 3), none, .mov (.t 0)⟩,
  ⟨(some 4), none, .nilck (.t 3)⟩,
  ⟨(some 5), none, .faddr 1 (.t 4)⟩,
  ⟨(some 6), none, .load none (.t 5)⟩,
  ⟨(some 2), none, .mov (.t 6)⟩] [2])
 .ret)),
 [.tmp 2], false, false⟩

/-- (*hopmesh/hopmeshref02.Writer).Bits -/
def F20 : AFn := ⟨8,
 (.seq (.reg [⟨(some 2), none, .mov (.c (.int .i64 0))⟩] [0])
 (.seq (.reg [⟨(some 3), none, .mov (.t 0)⟩,
  ⟨(some 4), none, .nilck (.t 3)⟩,
  ⟨(some 5), none, .faddr 0 (.t 4)⟩,
  ⟨(some 6), none, .load none (.t 5)⟩,
  ⟨(some 7), none, .lenL (.t 6)⟩,
  ⟨(some 2), none, .mov (.t 7)⟩] [2])
 .ret)),
 [.tmp 2], false, false⟩

/-- hopmesh/bitio.NewReader -/
def F21 : AFn := ⟨11,
 (.seq (.reg [⟨(some 2), none, .mov (.c (.pointer none))⟩] [0])
 (.seq (.seq (.reg [⟨(some 3), none, .mov (.t 0)⟩,
  ⟨(some 4), none, .lenS (.t 3)⟩,
  ⟨(some 5), none, .bin .gtr (.t 4) (.c (.int .i64 65536))⟩] [0, 5])
 (.cond (.t 5)
  (.seq (.reg [⟨(some 6), none, .build [(.string ⟨#[]⟩), (.int .i64 0), (.int .i64 0)] [(2, 1, (.c (.int .i64 8)))]⟩,
   ⟨(some 7), none, .box (.t 6)⟩,
   ⟨(some 2), none, .mov (.t 7)⟩] [2])
  .ret)
  .skip))
 (.seq (.reg [⟨(some 8), none, .mov (.t 0)⟩,
  ⟨(some 9), none, .build [(.string ⟨#[]⟩), (.int .i64 0), (.int .i64 0)] [(0, 1, (.t 8))]⟩,
  ⟨(some 10), none, .box (.t 9)⟩,
  ⟨(some 2), none, .mov (.t 10)⟩] [2])
 .ret))),
 [.tmp 2], false, false⟩

/-- hopmesh/hopmeshlaw02.read -/
def F22 : AFn := ⟨40,
 (.seq (.reg [⟨(some 3), none, .box (.t 1)⟩,
  ⟨(some 4), none, .new [(.int .i64 0), (.int .i64 0), (.int .i64 0), (.string ⟨#[]⟩)]⟩] [0, 3, 4])
 (.seq (.seq (.reg [⟨(some 5), none, .faddr 0 (.t 3)⟩,
  ⟨(some 6), none, .load none (.t 5)⟩] [0, 3, 4, 6])
 (.block 0 (.seq (.reg [⟨(some 8), none, .bin .eql (.t 6) (.c (.int .i64 0))⟩,
   ⟨(some 7), none, .mov (.t 8)⟩] [0, 3, 4, 6, 7])
  (.cond (.t 7)
   (.reg [⟨(some 9), none, .mov (.t 0)⟩,
    ⟨(some 10), none, .faddr 1 (.t 3)⟩,
    ⟨(some 11), none, .load none (.t 10)⟩,
    ⟨(some 12), none, .call 40 [(.t 9), (.t 11)]⟩,
    ⟨(some 13), none, .faddr 2 (.t 3)⟩,
    ⟨none, none, .store 1 (.t 13) (.t 12)⟩,
    ⟨(some 14), none, .faddr 3 (.t 3)⟩,
    ⟨none, none, .store 1 (.t 14) (.c (.string ⟨#[]⟩))⟩] [3, 4])
   (.seq (.reg [⟨(some 16), none, .bin .eql (.t 6) (.c (.int .i64 1))⟩,
    ⟨(some 15), none, .mov (.t 16)⟩] [0, 3, 4, 6, 15])
   (.cond (.t 15)
    (.reg [⟨(some 17), none, .mov (.t 0)⟩,
     ⟨(some 18), none, .faddr 1 (.t 3)⟩,
     ⟨(some 19), none, .load none (.t 18)⟩,
     ⟨(some 20), none, .call 27 [(.t 17), (.t 19)]⟩,
     ⟨(some 21), none, .faddr 2 (.t 3)⟩,
     ⟨none, none, .store 1 (.t 21) (.t 20)⟩,
     ⟨(some 22), none, .faddr 3 (.t 3)⟩,
     ⟨none, none, .store 1 (.t 22) (.c (.string ⟨#[]⟩))⟩] [3, 4])
    (.seq (.reg [⟨(some 24), none, .bin .eql (.t 6) (.c (.int .i64 2))⟩,
     ⟨(some 23), none, .mov (.t 24)⟩] [0, 3, 4, 6, 23])
    (.cond (.t 23)
     (.seq (.reg [⟨(some 25), none, .faddr 2 (.t 3)⟩,
      ⟨none, none, .store 1 (.t 25) (.c (.int .i64 0))⟩,
      ⟨(some 26), none, .faddr 3 (.t 3)⟩,
      ⟨none, none, .store 1 (.t 26) (.c (.string ⟨#[]⟩))⟩,
      ⟨(some 27), none, .faddr 1 (.t 3)⟩,
      ⟨none, none, .store 1 (.t 27) (.c (.int .i64 0))⟩] [0, 3, 4])
     (.seq (.reg [⟨(some 28), none, .mov (.t 0)⟩,
      ⟨(some 29), none, .call 41 [(.t 28)]⟩] [3, 4, 29])
     (.cond (.t 29)
      (.reg [⟨(some 30), none, .faddr 2 (.t 3)⟩,
       ⟨none, none, .store 1 (.t 30) (.c (.int .i64 1))⟩] [3, 4])
      .skip)))
     (.seq (.reg [⟨(some 32), none, .bin .eql (.t 6) (.c (.int .i64 3))⟩,
      ⟨(some 31), none, .mov (.t 32)⟩] [0, 3, 4, 31])
     (.cond (.t 31)
      (.reg [⟨(some 33), none, .mov (.t 0)⟩,
       ⟨(some 34), none, .faddr 1 (.t 3)⟩,
       ⟨(some 35), none, .load none (.t 34)⟩,
       ⟨(some 36), none, .call 42 [(.t 33), (.t 35)]⟩,
       ⟨(some 37), none, .faddr 2 (.t 3)⟩,
       ⟨none, none, .store 1 (.t 37) (.c (.int .i64 0))⟩,
       ⟨(some 38), none, .faddr 3 (.t 3)⟩,
       ⟨none, none, .store 1 (.t 38) (.t 36)⟩] [3, 4])
      .skip))))))))))
 (.seq (.reg [⟨(some 39), none, .load (some 4) (.t 3)⟩,
  ⟨none, none, .store 4 (.t 4) (.t 39)⟩] [4])
 .ret))),
 [.cell 4 (some 4)], false, false⟩

/-- (*hopmesh/bitio.Reader).Close -/
def F23 : AFn := ⟨21,
 (.seq (.reg [⟨(some 1), none, .box (.t 0)⟩,
  ⟨(some 2), none, .mov (.c (.int .i64 0))⟩] [1])
 (.seq (.seq (.reg [⟨(some 4), none, .load none (.t 1)⟩,
  ⟨(some 5), none, .nilck (.t 4)⟩,
  ⟨(some 6), none, .faddr 2 (.t 5)⟩,
  ⟨(some 7), none, .load none (.t 6)⟩,
  ⟨(some 8), none, .bin .neq (.t 7) (.c (.int .i64 0))⟩] [1, 8])
 (.cond (.t 8)
  (.seq (.reg [⟨(some 9), none, .load none (.t 1)⟩,
   ⟨(some 10), none, .nilck (.t 9)⟩,
   ⟨(some 11), none, .faddr 2 (.t 10)⟩,
   ⟨(some 12), none, .load none (.t 11)⟩,
   ⟨(some 2), none, .mov (.t 12)⟩] [2])
  .ret)
  .skip))
 (.seq (.reg [⟨(some 13), none, .mkF 47 [] [(.t 1)]⟩,
  ⟨(some 3), none, .mov (.t 13)⟩] [1, 3])
 (.seq (.seq (.reg [⟨(some 14), none, .load none (.t 1)⟩,
  ⟨(some 15), none, .call 33 [(.t 14)]⟩,
  ⟨(some 16), none, .bin .geq (.t 15) (.c (.int .i64 8))⟩,
  ⟨(some 17), none, .mov (.t 16)⟩,
  ⟨(some 18), some (17, false), .mov (.t 3)⟩,
  ⟨(some 19), some (17, false), .callv (.t 18) []⟩,
  ⟨(some 20), none, .pick (.t 17) (.c (.bool true)) (.t 19)⟩] [20])
 (.cond (.t 20)
  (.seq (.reg [⟨(some 2), none, .mov (.c (.int .i64 10))⟩] [2])
  .ret)
  .skip))
 (.seq (.reg [⟨(some 2), none, .mov (.c (.int .i64 0))⟩] [2])
 .ret))))),
 [.tmp 2], false, false⟩

/-- hopmesh/bitio.Width -/
def F24 : AFn := ⟨9,
 (.seq (.reg [⟨(some 2), none, .mov (.c (.int .i64 0))⟩] [0])
 (.seq (.seq (.reg [⟨(some 3), none, .mov (.t 0)⟩,
  ⟨(some 4), none, .bin .lss (.t 3) (.c (.int .i64 0))⟩] [0, 4])
 (.cond (.t 4)
  (.seq (.reg [⟨(some 2), none, .mov (.c (.int .i64 0))⟩] [2])
  .ret)
  .skip))
 (.seq (.reg [⟨(some 5), none, .mov (.t 0)⟩,
  ⟨(some 6), none, .cvI .u64 (.t 5)⟩,
  ⟨(some 7), none, .call 49 [(.t 6)]⟩,
  ⟨(some 8), none, .maxI [(.c (.int .i64 1)), (.t 7)]⟩,
  ⟨(some 2), none, .mov (.t 8)⟩] [2])
 .ret))),
 [.tmp 2], true, true⟩

/-- (*hopmesh/bitio.Writer).Unsigned -/
def F25 : AFn := ⟨30,
 (.seq (.reg [⟨(some 7), none, .mov (.t 1)⟩,
  ⟨(some 8), none, .bin .geq (.t 7) (.c (.int .i64 1))⟩,
  ⟨(some 9), none, .mov (.t 8)⟩,
  ⟨(some 10), some (9, true), .mov (.t 1)⟩,
  ⟨(some 11), some (9, true), .bin .leq (.t 10) (.c (.int .i64 63))⟩,
  ⟨(some 12), none, .pick (.t 9) (.t 11) (.c (.bool false))⟩,
  ⟨(some 6), none, .mov (.t 12)⟩] [0, 1, 2, 6])
 (.reg [⟨(some 13), none, .mov (.t 0)⟩,
  ⟨(some 14), none, .mov (.t 6)⟩,
  ⟨(some 15), none, .mov (.t 6)⟩,
  ⟨(some 16), none, .mov (.t 15)⟩,
  ⟨(some 17), some (16, true), .mov (.t 2)⟩,
  ⟨(some 18), some (16, true), .bin .geq (.t 17) (.c (.int .i64 0))⟩,
  ⟨(some 19), none, .pick (.t 16) (.t 18) (.c (.bool false))⟩,
  ⟨(some 20), none, .mov (.t 19)⟩,
  ⟨(some 21), some (20, true), .mov (.t 2)⟩,
  ⟨(some 22), some (20, true), .cvI .u64 (.t 21)⟩,
  ⟨(some 23), some (20, true), .call 49 [(.t 22)]⟩,
  ⟨(some 24), some (20, true), .mov (.t 1)⟩,
  ⟨(some 25), some (20, true), .bin .leq (.t 23) (.t 24)⟩,
  ⟨(some 26), none, .pick (.t 20) (.t 25) (.c (.bool false))⟩,
  ⟨(some 27), none, .mov (.t 1)⟩,
  ⟨(some 28), none, .mov (.t 2)⟩,
  ⟨(some 29), none, .call 50 [(.t 13), (.t 14), (.t 26), (.t 27), (.t 28)]⟩] [])),
 [], false, false⟩

/-- (*hopmesh/bitio.Writer).Signed -/
def F26 : AFn := ⟨36,
 (.seq (.reg [⟨(some 7), none, .mov (.t 1)⟩,
  ⟨(some 8), none, .bin .geq (.t 7) (.c (.int .i64 2))⟩,
  ⟨(some 9), none, .mov (.t 8)⟩,
  ⟨(some 10), some (9, true), .mov (.t 1)⟩,
  ⟨(some 11), some (9, true), .bin .leq (.t 10) (.c (.int .i64 63))⟩,
  ⟨(some 12), none, .pick (.t 9) (.t 11) (.c (.bool false))⟩,
  ⟨(some 6), none, .mov (.t 12)⟩] [0, 1, 2, 6])
 (.reg [⟨(some 13), none, .mov (.t 0)⟩,
  ⟨(some 14), none, .mov (.t 6)⟩,
  ⟨(some 15), none, .mov (.t 6)⟩,
  ⟨(some 16), none, .mov (.t 15)⟩,
  ⟨(some 17), some (16, true), .mov (.t 2)⟩,
  ⟨(some 18), some (16, true), .mov (.t 1)⟩,
  ⟨(some 19), some (16, true), .maxI [(.t 18), (.c (.int .i64 1))]⟩,
  ⟨(some 20), some (16, true), .bin .sub (.t 19) (.c (.int .i64 1))⟩,
  ⟨(some 21), some (16, true), .bin .shl (.c (.int .i64 (-1))) (.t 20)⟩,
  ⟨(some 22), some (16, true), .bin .geq (.t 17) (.t 21)⟩,
  ⟨(some 23), none, .pick (.t 16) (.t 22) (.c (.bool false))⟩,
  ⟨(some 24), none, .mov (.t 23)⟩,
  ⟨(some 25), some (24, true), .mov (.t 2)⟩,
  ⟨(some 26), some (24, true), .mov (.t 1)⟩,
  ⟨(some 27), some (24, true), .maxI [(.t 26), (.c (.int .i64 1))]⟩,
  ⟨(some 28), some (24, true), .bin .sub (.t 27) (.c (.int .i64 1))⟩,
  ⟨(some 29), some (24, true), .bin .shl (.c (.int .i64 1)) (.t 28)⟩,
  ⟨(some 30), some (24, true), .bin .sub (.t 29) (.c (.int .i64 1))⟩,
  ⟨(some 31), some (24, true), .bin .leq (.t 25) (.t 30)⟩,
  ⟨(some 32), none, .pick (.t 24) (.t 31) (.c (.bool false))⟩,
  ⟨(some 33), none, .mov (.t 1)⟩,
  ⟨(some 34), none, .mov (.t 2)⟩,
  ⟨(some 35), none, .call 50 [(.t 13), (.t 14), (.t 32), (.t 33), (.t 34)]⟩] [])),
 [], false, false⟩

/-- (*hopmesh/bitio.Reader).Signed -/
def F27 : AFn := ⟨34,
 (.seq (.reg [⟨(some 4), none, .mov (.c (.int .i64 0))⟩] [0, 1])
 (.seq (.reg [⟨(some 6), none, .mov (.t 0)⟩,
  ⟨(some 7), none, .mov (.t 1)⟩,
  ⟨(some 8), none, .bin .geq (.t 7) (.c (.int .i64 2))⟩,
  ⟨(some 9), none, .mov (.t 8)⟩,
  ⟨(some 10), some (9, true), .mov (.t 1)⟩,
  ⟨(some 11), some (9, true), .bin .leq (.t 10) (.c (.int .i64 63))⟩,
  ⟨(some 12), none, .pick (.t 9) (.t 11) (.c (.bool false))⟩,
  ⟨(some 13), none, .mov (.t 1)⟩,
  ⟨(some 14), none, .call 51 [(.t 6), (.t 12), (.t 13)]⟩,
  ⟨(some 15), none, .cvI .i64 (.t 14)⟩,
  ⟨(some 5), none, .mov (.t 15)⟩] [0, 1, 5])
 (.seq (.seq (.reg [⟨(some 16), none, .mov (.t 0)⟩,
  ⟨(some 17), none, .nilck (.t 16)⟩,
  ⟨(some 18), none, .faddr 2 (.t 17)⟩,
  ⟨(some 19), none, .load none (.t 18)⟩,
  ⟨(some 20), none, .bin .eql (.t 19) (.c (.int .i64 0))⟩,
  ⟨(some 21), none, .mov (.t 20)⟩,
  ⟨(some 22), some (21, true), .mov (.t 5)⟩,
  ⟨(some 23), some (21, true), .mov (.t 1)⟩,
  ⟨(some 24), some (21, true), .bin .sub (.t 23) (.c (.int .i64 1))⟩,
  ⟨(some 25), some (21, true), .bin .shr (.t 22) (.t 24)⟩,
  ⟨(some 26), some (21, true), .bin .and (.t 25) (.c (.int .i64 1))⟩,
  ⟨(some 27), some (21, true), .bin .eql (.t 26) (.c (.int .i64 1))⟩,
  ⟨(some 28), none, .pick (.t 21) (.t 27) (.c (.bool false))⟩] [1, 5, 28])
 (.cond (.t 28)
  (.reg [⟨(some 29), none, .mov (.t 5)⟩,
   ⟨(some 30), none, .mov (.t 1)⟩,
   ⟨(some 31), none, .bin .shl (.c (.int .i64 1)) (.t 30)⟩,
   ⟨(some 32), none, .bin .sub (.t 29) (.t 31)⟩,
   ⟨(some 5), none, .mov (.t 32)⟩] [5])
  .skip))
 (.seq (.reg [⟨(some 33), none, .mov (.t 5)⟩,
  ⟨(some 4), none, .mov (.t 33)⟩] [4])
 .ret)))),
 [.tmp 4], false, false⟩

/-- hopmesh/hopmeshref02.NewReader -/
def F28 : AFn := ⟨11,
 (.seq (.reg [⟨(some 2), none, .mov (.c (.pointer none))⟩] [0])
 (.seq (.seq (.reg [⟨(some 3), none, .mov (.t 0)⟩,
  ⟨(some 4), none, .lenS (.t 3)⟩,
  ⟨(some 5), none, .bin .gtr (.t 4) (.c (.int .i64 65536))⟩] [0, 5])
 (.cond (.t 5)
  (.seq (.reg [⟨(some 6), none, .build [(.string ⟨#[]⟩), (.int .i64 0), (.int .i64 0)] [(2, 1, (.c (.int .i64 8)))]⟩,
   ⟨(some 7), none, .box (.t 6)⟩,
   ⟨(some 2), none, .mov (.t 7)⟩] [2])
  .ret)
  .skip))
 (.seq (.reg [⟨(some 8), none, .mov (.t 0)⟩,
  ⟨(some 9), none, .build [(.string ⟨#[]⟩), (.int .i64 0), (.int .i64 0)] [(0, 1, (.t 8))]⟩,
  ⟨(some 10), none, .box (.t 9)⟩,
  ⟨(some 2), none, .mov (.t 10)⟩] [2])
 .ret))),
 [.tmp 2], false, false⟩

/-- (*hopmesh/hopmeshref02.Reader).Unsigned -/
def F29 : AFn := ⟨23,
 (.seq (.reg [⟨(some 4), none, .mov (.c (.int .i64 0))⟩] [0, 1])
 (.seq (.seq (.reg [⟨(some 5), none, .mov (.t 0)⟩,
  ⟨(some 6), none, .nilck (.t 5)⟩,
  ⟨(some 7), none, .faddr 2 (.t 6)⟩,
  ⟨(some 8), none, .load none (.t 7)⟩,
  ⟨(some 9), none, .bin .eql (.t 8) (.c (.int .i64 0))⟩,
  ⟨(some 10), none, .mov (.t 9)⟩,
  ⟨(some 11), some (10, true), .mov (.t 1)⟩,
  ⟨(some 12), some (10, true), .bin .lss (.t 11) (.c (.int .i64 1))⟩,
  ⟨(some 13), some (10, true), .mov (.t 12)⟩,
  ⟨(some 14), some (13, false), .mov (.t 1)⟩,
  ⟨(some 15), some (13, false), .bin .gtr (.t 14) (.c (.int .i64 63))⟩,
  ⟨(some 16), some (10, true), .pick (.t 13) (.c (.bool true)) (.t 15)⟩,
  ⟨(some 17), none, .pick (.t 10) (.t 16) (.c (.bool false))⟩] [0, 1, 17])
 (.cond (.t 17)
  (.reg [⟨(some 18), none, .mov (.t 0)⟩,
   ⟨(some 19), none, .call 52 [(.t 18), (.c (.int .i64 1))]⟩] [0, 1])
  .skip))
 (.seq (.reg [⟨(some 20), none, .mov (.t 0)⟩,
  ⟨(some 21), none, .mov (.t 1)⟩,
  ⟨(some 22), none, .call 53 [(.t 20), (.t 21)]⟩,
  ⟨(some 4), none, .mov (.t 22)⟩] [4])
 .ret))),
 [.tmp 4], false, false⟩

/-- (*hopmesh/hopmeshref02.Reader).Signed -/
def F30 : AFn := ⟨46,
 (.seq (.reg [⟨(some 4), none, .mov (.c (.int .i64 0))⟩] [0, 1])
 (.seq (.seq (.reg [⟨(some 6), none, .mov (.t 0)⟩,
  ⟨(some 7), none, .nilck (.t 6)⟩,
  ⟨(some 8), none, .faddr 2 (.t 7)⟩,
  ⟨(some 9), none, .load none (.t 8)⟩,
  ⟨(some 10), none, .bin .eql (.t 9) (.c (.int .i64 0))⟩,
  ⟨(some 11), none, .mov (.t 10)⟩,
  ⟨(some 12), some (11, true), .mov (.t 1)⟩,
  ⟨(some 13), some (11, true), .bin .lss (.t 12) (.c (.int .i64 2))⟩,
  ⟨(some 14), some (11, true), .mov (.t 13)⟩,
  ⟨(some 15), some (14, false), .mov (.t 1)⟩,
  ⟨(some 16), some (14, false), .bin .gtr (.t 15) (.c (.int .i64 63))⟩,
  ⟨(some 17), some (11, true), .pick (.t 14) (.c (.bool true)) (.t 16)⟩,
  ⟨(some 18), none, .pick (.t 11) (.t 17) (.c (.bool false))⟩] [0, 1, 18])
 (.cond (.t 18)
  (.reg [⟨(some 19), none, .mov (.t 0)⟩,
   ⟨(some 20), none, .call 52 [(.t 19), (.c (.int .i64 1))]⟩] [0, 1])
  .skip))
 (.seq (.reg [⟨(some 21), none, .mov (.t 0)⟩,
  ⟨(some 22), none, .mov (.t 1)⟩,
  ⟨(some 23), none, .call 53 [(.t 21), (.t 22)]⟩,
  ⟨(some 5), none, .mov (.t 23)⟩] [0, 1, 5])
 (.seq (.seq (.reg [⟨(some 24), none, .mov (.t 0)⟩,
  ⟨(some 25), none, .nilck (.t 24)⟩,
  ⟨(some 26), none, .faddr 2 (.t 25)⟩,
  ⟨(some 27), none, .load none (.t 26)⟩,
  ⟨(some 28), none, .bin .eql (.t 27) (.c (.int .i64 0))⟩,
  ⟨(some 29), none, .mov (.t 28)⟩,
  ⟨(some 30), some (29, true), .mov (.t 5)⟩,
  ⟨(some 31), some (29, true), .mov (.t 1)⟩,
  ⟨(some 32), some (29, true), .bin .sub (.t 31) (.c (.int .i64 1))⟩,
  ⟨(some 33), some (29, true), .bin .shl (.c (.int .i64 1)) (.t 32)⟩,
  ⟨(some 34), some (29, true), .bin .geq (.t 30) (.t 33)⟩,
  ⟨(some 35), none, .pick (.t 29) (.t 34) (.c (.bool false))⟩] [1, 5, 35])
 (.cond (.t 35)
  (.regd [⟨⟨(some 36), none, .mov (.t 5)⟩, false, 0⟩,
   ⟨⟨(some 37), none, .mov (.t 1)⟩, false, 0⟩,
   ⟨⟨(some 38), none, .bin .sub (.t 37) (.c (.int .i64 1))⟩, false, 0⟩,
   ⟨⟨(some 39), none, .bin .shl (.c (.int .i64 1)) (.t 38)⟩, false, 0⟩,
   ⟨⟨(some 40), none, .bin .sub (.t 36) (.t 39)⟩, false, 0⟩,
   ⟨⟨(some 41), none, .mov (.t 1)⟩, false, 0⟩,
   ⟨⟨(some 42), none, .bin .sub (.t 41) (.c (.int .i64 1))⟩, false, 0⟩,
   ⟨⟨(some 43), none, .bin .shl (.c (.int .i64 1)) (.t 42)⟩, false, 0⟩,
   ⟨⟨(some 44), none, .bin .sub (.t 40) (.t 43)⟩, false, 0⟩,
   ⟨⟨(some 5), none, .mov (.t 44)⟩, false, 0⟩] [5])
  .skip))
 (.seq (.reg [⟨(some 45), none, .mov (.t 5)⟩,
  ⟨(some 4), none, .mov (.t 45)⟩] [4])
 .ret))))),
 [.tmp 4], false, false⟩

/-- (*hopmesh/hopmeshref02.Reader).Flag -/
def F31 : AFn := ⟨6,
 (.seq (.reg [⟨(some 2), none, .mov (.c (.bool false))⟩] [0])
 (.seq (.reg [⟨(some 3), none, .mov (.t 0)⟩,
  ⟨(some 4), none, .call 53 [(.t 3), (.c (.int .i64 1))]⟩,
  ⟨(some 5), none, .bin .eql (.t 4) (.c (.int .i64 1))⟩,
  ⟨(some 2), none, .mov (.t 5)⟩] [2])
 .ret)),
 [.tmp 2], false, false⟩

/-- (*hopmesh/hopmeshref02.Reader).Text -/
def F32 : AFn := ⟨73,
 (.seq (.reg [⟨(some 4), none, .mov (.c (.string ⟨#[]⟩))⟩] [0, 1])
 (.seq (.seq (.reg [⟨(some 8), none, .mov (.t 0)⟩,
  ⟨(some 9), none, .nilck (.t 8)⟩,
  ⟨(some 10), none, .faddr 2 (.t 9)⟩,
  ⟨(some 11), none, .load none (.t 10)⟩,
  ⟨(some 12), none, .bin .eql (.t 11) (.c (.int .i64 0))⟩,
  ⟨(some 13), none, .mov (.t 12)⟩,
  ⟨(some 14), some (13, true), .mov (.t 1)⟩,
  ⟨(some 15), some (13, true), .bin .lss (.t 14) (.c (.int .i64 1))⟩,
  ⟨(some 16), some (13, true), .mov (.t 15)⟩,
  ⟨(some 17), some (16, false), .mov (.t 1)⟩,
  ⟨(some 18), some (16, false), .bin .gtr (.t 17) (.c (.int .i64 4095))⟩,
  ⟨(some 19), some (13, true), .pick (.t 16) (.c (.bool true)) (.t 18)⟩,
  ⟨(some 20), none, .pick (.t 13) (.t 19) (.c (.bool false))⟩] [0, 1, 20])
 (.cond (.t 20)
  (.reg [⟨(some 21), none, .mov (.t 0)⟩,
   ⟨(some 22), none, .call 52 [(.t 21), (.c (.int .i64 1))]⟩] [0, 1])
  .skip))
 (.seq (.reg [⟨(some 23), none, .mov (.t 0)⟩,
  ⟨(some 24), none, .mov (.t 1)⟩,
  ⟨(some 25), none, .call 54 [(.t 24)]⟩,
  ⟨(some 26), none, .call 53 [(.t 23), (.t 25)]⟩,
  ⟨(some 5), none, .mov (.t 26)⟩] [0, 1, 5])
 (.seq (.seq (.reg [⟨(some 27), none, .mov (.t 0)⟩,
  ⟨(some 28), none, .nilck (.t 27)⟩,
  ⟨(some 29), none, .faddr 2 (.t 28)⟩,
  ⟨(some 30), none, .load none (.t 29)⟩,
  ⟨(some 31), none, .bin .eql (.t 30) (.c (.int .i64 0))⟩,
  ⟨(some 32), none, .mov (.t 31)⟩,
  ⟨(some 33), some (32, true), .mov (.t 5)⟩,
  ⟨(some 34), some (32, true), .mov (.t 1)⟩,
  ⟨(some 35), some (32, true), .bin .gtr (.t 33) (.t 34)⟩,
  ⟨(some 36), none, .pick (.t 32) (.t 35) (.c (.bool false))⟩] [0, 5, 36])
 (.cond (.t 36)
  (.reg [⟨(some 37), none, .mov (.t 0)⟩,
   ⟨(some 38), none, .call 52 [(.t 37), (.c (.int .i64 2))]⟩] [0, 5])
  .skip))
 (.seq (.seq (.reg [⟨(some 39), none, .mov (.t 0)⟩,
  ⟨(some 40), none, .nilck (.t 39)⟩,
  ⟨(some 41), none, .faddr 2 (.t 40)⟩,
  ⟨(some 42), none, .load none (.t 41)⟩,
  ⟨(some 43), none, .bin .eql (.t 42) (.c (.int .i64 0))⟩,
  ⟨(some 44), none, .mov (.t 43)⟩,
  ⟨(some 45), some (44, true), .mov (.t 0)⟩,
  ⟨(some 46), some (44, true), .call 34 [(.t 45)]⟩,
  ⟨(some 47), some (44, true), .mov (.t 5)⟩,
  ⟨(some 48), some (44, true), .bin .mul (.c (.int .i64 8)) (.t 47)⟩,
  ⟨(some 49), some (44, true), .bin .lss (.t 46) (.t 48)⟩,
  ⟨(some 50), none, .pick (.t 44) (.t 49) (.c (.bool false))⟩] [0, 5, 50])
 (.cond (.t 50)
  (.reg [⟨(some 51), none, .mov (.t 0)⟩,
   ⟨(some 52), none, .call 52 [(.t 51), (.c (.int .i64 9))]⟩] [0, 5])
  .skip))
 (.seq (.seq (.reg [⟨(some 53), none, .mov (.t 0)⟩,
  ⟨(some 54), none, .nilck (.t 53)⟩,
  ⟨(some 55), none, .faddr 2 (.t 54)⟩,
  ⟨(some 56), none, .load none (.t 55)⟩,
  ⟨(some 57), none, .bin .neq (.t 56) (.c (.int .i64 0))⟩] [0, 5, 57])
 (.cond (.t 57)
  (.seq (.reg [⟨(some 4), none, .mov (.c (.string ⟨#[]⟩))⟩] [4])
  .ret)
  .skip))
 (.seq (.reg [⟨(some 58), none, .mov (.t 5)⟩,
  ⟨(some 59), none, .mkS 1 [(.int .u8 0)] (.t 58) (.t 58)⟩,
  ⟨(some 6), none, .mov (.t 59)⟩] [0, 5, 6])
 (.seq (.seq (.reg [⟨(some 7), none, .mov (.c (.int .i64 0))⟩] [0, 5, 6, 7])
 (.block 0 (.loop (.seq (.seq (.reg [⟨(some 60), none, .mov (.t 7)⟩,
    ⟨(some 61), none, .mov (.t 5)⟩,
    ⟨(some 62), none, .bin .lss (.t 60) (.t 61)⟩] [0, 5, 6, 7, 62])
   (.cond (.t 62)
    .skip
    (.exit 0)))
   (.seq (.block 1 (.reg [⟨(some 65), none, .mov (.t 6)⟩,
     ⟨(some 66), none, .mov (.t 7)⟩,
     ⟨(some 67), none, .mov (.t 0)⟩,
     ⟨(some 68), none, .call 53 [(.t 67), (.c (.int .i64 8))]⟩,
     ⟨(some 69), none, .cvI .u8 (.t 68)⟩,
     ⟨(some 70), none, .iaddrS 1 (.t 65) (.t 66)⟩,
     ⟨none, none, .store 1 (.t 70) (.t 69)⟩] [0, 5, 6, 7]))
   (.reg [⟨(some 63), none, .mov (.t 7)⟩,
    ⟨(some 64), none, .bin .add (.t 63) (.c (.int .i64 1))⟩,
    ⟨(some 7), none, .mov (.t 64)⟩] [0, 5, 6, 7]))))))
 (.seq (.reg [⟨(some 71), none, .mov (.t 6)⟩,
  ⟨(some 72), none, .cvBS (.t 71)⟩,
  ⟨(some 4), none, .mov (.t 72)⟩] [4])
 .ret))))))))),
 [.tmp 4], false, false⟩

/-- (*hopmesh/bitio.Reader).Left -/
def F33 : AFn := ⟨19,
 (.seq (.reg [⟨(some 2), none, .mov (.c (.int .i64 0))⟩] [0])
 (.seq (.seq (.reg [⟨(some 3), none, .mov (.t 0)⟩,
  ⟨(some 4), none, .nilck (.t 3)⟩,
  ⟨(some 5), none, .faddr 2 (.t 4)⟩,
  ⟨(some 6), none, .load none (.t 5)⟩,
  ⟨(some 7), none, .bin .neq (.t 6) (.c (.int .i64 0))⟩] [0, 7])
 (.cond (.t 7)
  (.seq (.reg [⟨(some 2), none, .mov (.c (.int .i64 0))⟩] [2])
  .ret)
  .skip))
 (.seq (.regd [⟨⟨(some 8), none, .mov (.t 0)⟩, false, 0⟩,
  ⟨⟨(some 9), none, .nilck (.t 8)⟩, false, 0⟩,
  ⟨⟨(some 10), none, .faddr 0 (.t 9)⟩, false, 0⟩,
  ⟨⟨(some 11), none, .load none (.t 10)⟩, false, 0⟩,
  ⟨⟨(some 12), none, .lenS (.t 11)⟩, false, 0⟩,
  ⟨⟨(some 13), none, .bin .mul (.c (.int .i64 8)) (.t 12)⟩, false, 0⟩,
  ⟨⟨(some 14), none, .mov (.t 0)⟩, false, 0⟩,
  ⟨⟨(some 15), none, .nilck (.t 14)⟩, false, 0⟩,
  ⟨⟨(some 16), none, .faddr 1 (.t 15)⟩, false, 0⟩,
  ⟨⟨(some 17), none, .load none (.t 16)⟩, false, 0⟩,
  ⟨⟨(some 18), none, .bin .sub (.t 13) (.t 17)⟩, false, 0⟩,
  ⟨⟨(some 2), none, .mov (.t 18)⟩, false, 0⟩] [2])
 .ret))),
 [.tmp 2], false, false⟩

/-- (*hopmesh/hopmeshref02.Reader).Left -/
def F34 : AFn := ⟨14,
 (.seq (.reg [⟨(some 2), none, .mov (.c (.int .i64 0))⟩] [0])
 (.seq (.regd [⟨⟨(some 3), none, .mov (.t 0)⟩, false, 0⟩,
  ⟨⟨(some 4), none, .nilck (.t 3)⟩, false, 0⟩,
  ⟨⟨(some 5), none, .faddr 0 (.t 4)⟩, false, 0⟩,
  ⟨⟨(some 6), none, .load none (.t 5)⟩, false, 0⟩,
  ⟨⟨(some 7), none, .lenS (.t 6)⟩, false, 0⟩,
  ⟨⟨(some 8), none, .bin .mul (.c (.int .i64 8)) (.t 7)⟩, false, 0⟩,
  ⟨⟨(some 9), none, .mov (.t 0)⟩, false, 0⟩,
  ⟨⟨(some 10), none, .nilck (.t 9)⟩, false, 0⟩,
  ⟨⟨(some 11), none, .faddr 1 (.t 10)⟩, false, 0⟩,
  ⟨⟨(some 12), none, .load none (.t 11)⟩, false, 0⟩,
  ⟨⟨(some 13), none, .bin .sub (.t 8) (.t 12)⟩, false, 0⟩,
  ⟨⟨(some 2), none, .mov (.t 13)⟩, false, 0⟩] [2])
 .ret)),
 [.tmp 2], false, false⟩

/-- (*hopmesh/bitio.Reader).Err -/
def F35 : AFn := ⟨7,
 (.seq (.reg [⟨(some 2), none, .mov (.c (.int .i64 0))⟩] [0])
 (.seq (.reg [⟨(some 3), none, .mov (.t 0)⟩,
  ⟨(some 4), none, .nilck (.t 3)⟩,
  ⟨(some 5), none, .faddr 2 (.t 4)⟩,
  ⟨(some 6), none, .load none (.t 5)⟩,
  ⟨(some 2), none, .mov (.t 6)⟩] [2])
 .ret)),
 [.tmp 2], false, false⟩

/-- (*hopmesh/hopmeshref02.Reader).Err -/
def F36 : AFn := ⟨7,
 (.seq (.reg [⟨(some 2), none, .mov (.c (.int .i64 0))⟩] [0])
 (.seq (.reg [⟨(some 3), none, .mov (.t 0)⟩,
  ⟨(some 4), none, .nilck (.t 3)⟩,
  ⟨(some 5), none, .faddr 2 (.t 4)⟩,
  ⟨(some 6), none, .load none (.t 5)⟩,
  ⟨(some 2), none, .mov (.t 6)⟩] [2])
 .ret)),
 [.tmp 2], false, false⟩

/-- (*hopmesh/hopmeshref02.Reader).Close -/
def F37 : AFn := ⟨44,
 (.seq (.reg [⟨(some 2), none, .mov (.c (.int .i64 0))⟩] [0])
 (.seq (.seq (.reg [⟨(some 4), none, .mov (.t 0)⟩,
  ⟨(some 5), none, .nilck (.t 4)⟩,
  ⟨(some 6), none, .faddr 2 (.t 5)⟩,
  ⟨(some 7), none, .load none (.t 6)⟩,
  ⟨(some 8), none, .bin .neq (.t 7) (.c (.int .i64 0))⟩] [0, 8])
 (.cond (.t 8)
  (.seq (.reg [⟨(some 9), none, .mov (.t 0)⟩,
   ⟨(some 10), none, .nilck (.t 9)⟩,
   ⟨(some 11), none, .faddr 2 (.t 10)⟩,
   ⟨(some 12), none, .load none (.t 11)⟩,
   ⟨(some 2), none, .mov (.t 12)⟩] [2])
  .ret)
  .skip))
 (.seq (.seq (.reg [⟨(some 13), none, .mov (.t 0)⟩,
  ⟨(some 14), none, .call 34 [(.t 13)]⟩,
  ⟨(some 15), none, .bin .geq (.t 14) (.c (.int .i64 8))⟩] [0, 15])
 (.cond (.t 15)
  (.seq (.reg [⟨(some 2), none, .mov (.c (.int .i64 10))⟩] [2])
  .ret)
  .skip))
 (.seq (.seq (.reg [⟨(some 16), none, .mov (.t 0)⟩,
  ⟨(some 17), none, .nilck (.t 16)⟩,
  ⟨(some 18), none, .faddr 1 (.t 17)⟩,
  ⟨(some 19), none, .load none (.t 18)⟩,
  ⟨(some 3), none, .mov (.t 19)⟩] [0, 3])
 (.block 0 (.loop (.seq (.seq (.reg [⟨(some 20), none, .mov (.t 3)⟩,
    ⟨(some 21), none, .mov (.t 0)⟩,
    ⟨(some 22), none, .nilck (.t 21)⟩,
    ⟨(some 23), none, .faddr 0 (.t 22)⟩,
    ⟨(some 24), none, .load none (.t 23)⟩,
    ⟨(some 25), none, .lenS (.t 24)⟩,
    ⟨(some 26), none, .bin .mul (.c (.int .i64 8)) (.t 25)⟩,
    ⟨(some 27), none, .bin .lss (.t 20) (.t 26)⟩] [0, 3, 27])
   (.cond (.t 27)
    .skip
    (.exit 0)))
   (.seq (.block 1 (.seq (.reg [⟨(some 30), none, .mov (.t 0)⟩,
     ⟨(some 31), none, .nilck (.t 30)⟩,
     ⟨(some 32), none, .faddr 0 (.t 31)⟩,
     ⟨(some 33), none, .load none (.t 32)⟩,
     ⟨(some 34), none, .mov (.t 3)⟩,
     ⟨(some 35), none, .bin .quo (.t 34) (.c (.int .i64 8))⟩,
     ⟨(some 36), none, .idxS (.t 33) (.t 35)⟩,
     ⟨(some 37), none, .cvI .i64 (.t 36)⟩,
     ⟨(some 38), none, .mov (.t 3)⟩,
     ⟨(some 39), none, .bin .rem (.t 38) (.c (.int .i64 8))⟩,
     ⟨(some 40), none, .bin .sub (.c (.int .i64 7)) (.t 39)⟩,
     ⟨(some 41), none, .bin .shr (.t 37) (.t 40)⟩,
     ⟨(some 42), none, .bin .and (.t 41) (.c (.int .i64 1))⟩,
     ⟨(some 43), none, .bin .eql (.t 42) (.c (.int .i64 1))⟩] [0, 3, 43])
    (.cond (.t 43)
     (.seq (.reg [⟨(some 2), none, .mov (.c (.int .i64 10))⟩] [2])
     .ret)
     .skip)))
   (.reg [⟨(some 28), none, .mov (.t 3)⟩,
    ⟨(some 29), none, .bin .add (.t 28) (.c (.int .i64 1))⟩,
    ⟨(some 3), none, .mov (.t 29)⟩] [0, 3]))))))
 (.seq (.reg [⟨(some 2), none, .mov (.c (.int .i64 0))⟩] [2])
 .ret))))),
 [.tmp 2], false, false⟩

/-- (*hopmesh/bitio.Writer).Text -/
def F38 : AFn := ⟨61,
 (.block 0 (.seq (.reg [⟨(some 27), none, .mov (.t 0)⟩,
   ⟨(some 28), none, .nilck (.t 27)⟩,
   ⟨(some 29), none, .faddr 2 (.t 28)⟩,
   ⟨(some 30), none, .load none (.t 29)⟩,
   ⟨(some 31), none, .bin .neq (.t 30) (.c (.int .i64 0))⟩,
   ⟨(some 26), none, .mov (.t 31)⟩] [0, 1, 2, 26])
  (.cond (.t 26)
   .skip
   (.seq (.reg [⟨(some 33), none, .mov (.t 1)⟩,
    ⟨(some 34), none, .call 55 [(.t 33)]⟩,
    ⟨(some 35), none, .un .not (.t 34)⟩,
    ⟨(some 32), none, .mov (.t 35)⟩] [0, 1, 2, 32])
   (.cond (.t 32)
    (.reg [⟨(some 36), none, .mov (.t 0)⟩,
     ⟨(some 37), none, .nilck (.t 36)⟩,
     ⟨(some 38), none, .faddr 2 (.t 37)⟩,
     ⟨none, none, .store 1 (.t 38) (.c (.int .i64 1))⟩] [])
    (.seq (.regd [⟨⟨(some 40), none, .mov (.t 2)⟩, false, 0⟩,
     ⟨⟨(some 41), none, .lenS (.t 40)⟩, false, 0⟩,
     ⟨⟨(some 42), none, .mov (.t 1)⟩, false, 0⟩,
     ⟨⟨(some 43), none, .bin .gtr (.t 41) (.t 42)⟩, false, 0⟩,
     ⟨⟨(some 44), none, .mov (.t 43)⟩, false, 0⟩,
     ⟨⟨(some 45), some (44, false), .mov (.t 0)⟩, false, 0⟩,
     ⟨⟨(some 46), some (44, false), .nilck (.t 45)⟩, false, 0⟩,
     ⟨⟨(some 47), some (44, false), .faddr 1 (.t 46)⟩, false, 0⟩,
     ⟨⟨(some 49), some (44, false), .mov (.t 1)⟩, false, 0⟩,
     ⟨⟨(some 50), some (44, false), .call 24 [(.t 49)]⟩, true, 0⟩,
     ⟨⟨(some 48), some (44, false), .load none (.t 47)⟩, false, 1⟩,
     ⟨⟨(some 51), some (44, false), .bin .add (.t 48) (.t 50)⟩, false, 0⟩,
     ⟨⟨(some 52), some (44, false), .mov (.t 2)⟩, false, 0⟩,
     ⟨⟨(some 53), some (44, false), .lenS (.t 52)⟩, false, 0⟩,
     ⟨⟨(some 54), some (44, false), .bin .mul (.c (.int .i64 8)) (.t 53)⟩, false, 0⟩,
     ⟨⟨(some 55), some (44, false), .bin .add (.t 51) (.t 54)⟩, false, 0⟩,
     ⟨⟨(some 56), some (44, false), .bin .gtr (.t 55) (.c (.int .i64 524288))⟩, false, 0⟩,
     ⟨⟨(some 57), none, .pick (.t 44) (.c (.bool true)) (.t 56)⟩, false, 0⟩,
     ⟨⟨(some 39), none, .mov (.t 57)⟩, false, 0⟩] [0, 1, 2, 39])
    (.cond (.t 39)
     (.reg [⟨(some 58), none, .mov (.t 0)⟩,
      ⟨(some 59), none, .nilck (.t 58)⟩,
      ⟨(some 60), none, .faddr 2 (.t 59)⟩,
      ⟨none, none, .store 1 (.t 60) (.c (.int .i64 8))⟩] [])
     (.seq (.reg [⟨(some 7), none, .mov (.t 0)⟩,
      ⟨(some 8), none, .mov (.t 1)⟩,
      ⟨(some 9), none, .call 24 [(.t 8)]⟩,
      ⟨(some 10), none, .mov (.t 2)⟩,
      ⟨(some 11), none, .lenS (.t 10)⟩,
      ⟨(some 12), none, .cvI .u64 (.t 11)⟩,
      ⟨(some 13), none, .call 56 [(.t 7), (.t 9), (.t 12)]⟩] [0, 2])
     (.seq (.reg [⟨(some 14), none, .mov (.t 2)⟩,
      ⟨(some 15), none, .lenS (.t 14)⟩,
      ⟨(some 16), none, .mov (.c (.int .i64 0))⟩] [0, 2, 15, 16])
     (.block 1 (.loop (.seq (.reg [⟨(some 17), none, .bin .lss (.t 16) (.t 15)⟩] [0, 2, 15, 16, 17])
       (.seq (.cond (.t 17)
        .skip
        (.exit 1))
       (.seq (.block 2 (.seq (.reg [⟨(some 18), none, .mov (.t 16)⟩,
         ⟨(some 6), none, .mov (.t 18)⟩] [0, 2, 6, 15, 16])
        (.reg [⟨(some 19), none, .mov (.t 0)⟩,
         ⟨(some 20), none, .mov (.t 2)⟩,
         ⟨(some 21), none, .mov (.t 6)⟩,
         ⟨(some 22), none, .idxS (.t 20) (.t 21)⟩,
         ⟨(some 23), none, .cvI .u64 (.t 22)⟩,
         ⟨(some 24), none, .call 56 [(.t 19), (.c (.int .i64 8)), (.t 23)]⟩] [0, 2, 15, 16])))
       (.reg [⟨(some 25), none, .bin .add (.t 16) (.c (.int .i64 1))⟩,
        ⟨(some 16), none, .mov (.t 25)⟩] [0, 2, 15, 16]))))))))))))))),
 [], false, false⟩

/-- (*hopmesh/bitio.Writer).Flag -/
def F39 : AFn := ⟨9,
 (.seq (.reg [⟨(some 4), none, .mov (.c (.int .i64 0))⟩] [0, 1, 4])
 (.seq (.seq (.reg [⟨(some 5), none, .mov (.t 1)⟩] [0, 4, 5])
 (.cond (.t 5)
  (.reg [⟨(some 4), none, .mov (.c (.int .i64 1))⟩] [0, 4])
  .skip))
 (.reg [⟨(some 6), none, .mov (.t 0)⟩,
  ⟨(some 7), none, .mov (.t 4)⟩,
  ⟨(some 8), none, .call 50 [(.t 6), (.c (.bool true)), (.c (.bool true)), (.c (.int .i64 1)), (.t 7)]⟩] []))),
 [], false, false⟩

/-- (*hopmesh/bitio.Reader).Unsigned -/
def F40 : AFn := ⟨15,
 (.seq (.reg [⟨(some 4), none, .mov (.c (.int .i64 0))⟩] [0, 1])
 (.seq (.reg [⟨(some 5), none, .mov (.t 0)⟩,
  ⟨(some 6), none, .mov (.t 1)⟩,
  ⟨(some 7), none, .bin .geq (.t 6) (.c (.int .i64 1))⟩,
  ⟨(some 8), none, .mov (.t 7)⟩,
  ⟨(some 9), some (8, true), .mov (.t 1)⟩,
  ⟨(some 10), some (8, true), .bin .leq (.t 9) (.c (.int .i64 63))⟩,
  ⟨(some 11), none, .pick (.t 8) (.t 10) (.c (.bool false))⟩,
  ⟨(some 12), none, .mov (.t 1)⟩,
  ⟨(some 13), none, .call 51 [(.t 5), (.t 11), (.t 12)]⟩,
  ⟨(some 14), none, .cvI .i64 (.t 13)⟩,
  ⟨(some 4), none, .mov (.t 14)⟩] [4])
 .ret)),
 [.tmp 4], false, false⟩

/-- (*hopmesh/bitio.Reader).Flag -/
def F41 : AFn := ⟨6,
 (.seq (.reg [⟨(some 2), none, .mov (.c (.bool false))⟩] [0])
 (.seq (.reg [⟨(some 3), none, .mov (.t 0)⟩,
  ⟨(some 4), none, .call 51 [(.t 3), (.c (.bool true)), (.c (.int .i64 1))]⟩,
  ⟨(some 5), none, .bin .eql (.t 4) (.c (.int .u64 1))⟩,
  ⟨(some 2), none, .mov (.t 5)⟩] [2])
 .ret)),
 [.tmp 2], false, false⟩

/-- (*hopmesh/bitio.Reader).Text -/
def F42 : AFn := ⟨54,
 (.seq (.reg [⟨(some 4), none, .mov (.c (.string ⟨#[]⟩))⟩] [0, 1])
 (.seq (.reg [⟨(some 9), none, .mov (.t 0)⟩,
  ⟨(some 10), none, .mov (.t 1)⟩,
  ⟨(some 11), none, .call 55 [(.t 10)]⟩,
  ⟨(some 12), none, .mov (.t 1)⟩,
  ⟨(some 13), none, .call 24 [(.t 12)]⟩,
  ⟨(some 14), none, .call 51 [(.t 9), (.t 11), (.t 13)]⟩,
  ⟨(some 15), none, .cvI .i64 (.t 14)⟩,
  ⟨(some 5), none, .mov (.t 15)⟩] [0, 1, 5])
 (.seq (.block 0 (.seq (.reg [⟨(some 17), none, .mov (.t 0)⟩,
   ⟨(some 18), none, .nilck (.t 17)⟩,
   ⟨(some 19), none, .faddr 2 (.t 18)⟩,
   ⟨(some 20), none, .load none (.t 19)⟩,
   ⟨(some 21), none, .bin .neq (.t 20) (.c (.int .i64 0))⟩,
   ⟨(some 16), none, .mov (.t 21)⟩] [0, 1, 5, 16])
  (.cond (.t 16)
   (.seq (.reg [⟨(some 4), none, .mov (.c (.string ⟨#[]⟩))⟩] [4])
   .ret)
   (.seq (.reg [⟨(some 23), none, .mov (.t 5)⟩,
    ⟨(some 24), none, .mov (.t 1)⟩,
    ⟨(some 25), none, .bin .gtr (.t 23) (.t 24)⟩,
    ⟨(some 22), none, .mov (.t 25)⟩] [0, 5, 22])
   (.cond (.t 22)
    (.seq (.reg [⟨(some 26), none, .mov (.t 0)⟩,
     ⟨(some 27), none, .call 57 [(.t 26), (.c (.int .i64 2))]⟩] [])
    (.seq (.reg [⟨(some 4), none, .mov (.c (.string ⟨#[]⟩))⟩] [4])
    .ret))
    (.seq (.reg [⟨(some 29), none, .mov (.t 5)⟩,
     ⟨(some 30), none, .bin .mul (.c (.int .i64 8)) (.t 29)⟩,
     ⟨(some 31), none, .mov (.t 0)⟩,
     ⟨(some 32), none, .call 33 [(.t 31)]⟩,
     ⟨(some 33), none, .bin .gtr (.t 30) (.t 32)⟩,
     ⟨(some 28), none, .mov (.t 33)⟩] [0, 5, 28])
    (.cond (.t 28)
     (.seq (.reg [⟨(some 34), none, .mov (.t 0)⟩,
      ⟨(some 35), none, .call 57 [(.t 34), (.c (.int .i64 9))]⟩] [])
     (.seq (.reg [⟨(some 4), none, .mov (.c (.string ⟨#[]⟩))⟩] [4])
     .ret))
     .skip)))))))
 (.seq (.reg [⟨(some 36), none, .mov (.t 0)⟩,
  ⟨(some 37), none, .mkF 48 [(.t 36)] []⟩,
  ⟨(some 6), none, .mov (.t 37)⟩] [5, 6])
 (.seq (.reg [⟨(some 38), none, .mov (.t 5)⟩,
  ⟨(some 39), none, .mkS 1 [(.int .u8 0)] (.t 38) (.t 38)⟩,
  ⟨(some 7), none, .mov (.t 39)⟩] [6, 7])
 (.seq (.seq (.reg [⟨(some 40), none, .mov (.t 7)⟩,
  ⟨(some 41), none, .lenL (.t 40)⟩,
  ⟨(some 42), none, .mov (.c (.int .i64 0))⟩] [6, 7, 41, 42])
 (.block 1 (.loop (.seq (.reg [⟨(some 43), none, .bin .lss (.t 42) (.t 41)⟩] [6, 7, 41, 42, 43])
   (.seq (.cond (.t 43)
    .skip
    (.exit 1))
   (.seq (.block 2 (.seq (.reg [⟨(some 44), none, .mov (.t 42)⟩,
     ⟨(some 8), none, .mov (.t 44)⟩] [6, 7, 8, 41, 42])
    (.reg [⟨(some 45), none, .mov (.t 7)⟩,
     ⟨(some 46), none, .mov (.t 8)⟩,
     ⟨(some 47), none, .mov (.t 6)⟩,
     ⟨(some 48), none, .callv (.t 47) [(.c (.int .i64 8))]⟩,
     ⟨(some 49), none, .cvI .u8 (.t 48)⟩,
     ⟨(some 50), none, .iaddrS 1 (.t 45) (.t 46)⟩,
     ⟨none, none, .store 1 (.t 50) (.t 49)⟩] [6, 7, 41, 42])))
   (.reg [⟨(some 51), none, .bin .add (.t 42) (.c (.int .i64 1))⟩,
    ⟨(some 42), none, .mov (.t 51)⟩] [6, 7, 41, 42])))))))
 (.seq (.reg [⟨(some 52), none, .mov (.t 7)⟩,
  ⟨(some 53), none, .cvBS (.t 52)⟩,
  ⟨(some 4), none, .mov (.t 53)⟩] [4])
 .ret))))))),
 [.tmp 4], false, false⟩

/-- (*hopmesh/hopmeshref02.Writer).Unsigned -/
def F43 : AFn := ⟨42,
 (.seq (.seq (.reg [⟨(some 6), none, .mov (.t 0)⟩,
  ⟨(some 7), none, .nilck (.t 6)⟩,
  ⟨(some 8), none, .faddr 1 (.t 7)⟩,
  ⟨(some 9), none, .load none (.t 8)⟩,
  ⟨(some 10), none, .bin .neq (.t 9) (.c (.int .i64 0))⟩] [0, 1, 2, 10])
 (.cond (.t 10)
  .ret
  .skip))
 (.seq (.seq (.reg [⟨(some 11), none, .mov (.t 1)⟩,
  ⟨(some 12), none, .bin .lss (.t 11) (.c (.int .i64 1))⟩,
  ⟨(some 13), none, .mov (.t 12)⟩,
  ⟨(some 14), some (13, false), .mov (.t 1)⟩,
  ⟨(some 15), some (13, false), .bin .gtr (.t 14) (.c (.int .i64 63))⟩,
  ⟨(some 16), none, .pick (.t 13) (.c (.bool true)) (.t 15)⟩] [0, 1, 2, 16])
 (.cond (.t 16)
  (.seq (.reg [⟨(some 17), none, .mov (.t 0)⟩,
   ⟨(some 18), none, .nilck (.t 17)⟩,
   ⟨(some 19), none, .faddr 1 (.t 18)⟩,
   ⟨none, none, .store 1 (.t 19) (.c (.int .i64 1))⟩] [])
  .ret)
  .skip))
 (.seq (.seq (.reg [⟨(some 20), none, .mov (.t 2)⟩,
  ⟨(some 21), none, .bin .lss (.t 20) (.c (.int .i64 0))⟩,
  ⟨(some 22), none, .mov (.t 21)⟩,
  ⟨(some 23), some (22, false), .mov (.t 1)⟩,
  ⟨(some 24), some (22, false), .bin .lss (.t 23) (.c (.int .i64 63))⟩,
  ⟨(some 25), some (22, false), .mov (.t 24)⟩,
  ⟨(some 26), some (25, true), .mov (.t 2)⟩,
  ⟨(some 27), some (25, true), .mov (.t 1)⟩,
  ⟨(some 28), some (25, true), .bin .shl (.c (.int .i64 1)) (.t 27)⟩,
  ⟨(some 29), some (25, true), .bin .geq (.t 26) (.t 28)⟩,
  ⟨(some 30), some (22, false), .pick (.t 25) (.t 29) (.c (.bool false))⟩,
  ⟨(some 31), none, .pick (.t 22) (.c (.bool true)) (.t 30)⟩] [0, 1, 2, 31])
 (.cond (.t 31)
  (.seq (.reg [⟨(some 32), none, .mov (.t 0)⟩,
   ⟨(some 33), none, .nilck (.t 32)⟩,
   ⟨(some 34), none, .faddr 1 (.t 33)⟩,
   ⟨none, none, .store 1 (.t 34) (.c (.int .i64 2))⟩] [])
  .ret)
  .skip))
 (.seq (.reg [⟨(some 35), none, .mov (.t 0)⟩,
  ⟨(some 36), none, .mov (.t 1)⟩,
  ⟨(some 37), none, .call 58 [(.t 35), (.t 36)]⟩] [0, 1, 2, 37])
 (.cond (.t 37)
  (.reg [⟨(some 38), none, .mov (.t 0)⟩,
   ⟨(some 39), none, .mov (.t 1)⟩,
   ⟨(some 40), none, .mov (.t 2)⟩,
   ⟨(some 41), none, .call 59 [(.t 38), (.t 39), (.t 40)]⟩] [])
  .skip))))),
 [], false, false⟩

/-- (*hopmesh/hopmeshref02.Writer).Signed -/
def F44 : AFn := ⟨44,
 (.seq (.seq (.reg [⟨(some 6), none, .mov (.t 0)⟩,
  ⟨(some 7), none, .nilck (.t 6)⟩,
  ⟨(some 8), none, .faddr 1 (.t 7)⟩,
  ⟨(some 9), none, .load none (.t 8)⟩,
  ⟨(some 10), none, .bin .neq (.t 9) (.c (.int .i64 0))⟩] [0, 1, 2, 10])
 (.cond (.t 10)
  .ret
  .skip))
 (.seq (.seq (.reg [⟨(some 11), none, .mov (.t 1)⟩,
  ⟨(some 12), none, .bin .lss (.t 11) (.c (.int .i64 2))⟩,
  ⟨(some 13), none, .mov (.t 12)⟩,
  ⟨(some 14), some (13, false), .mov (.t 1)⟩,
  ⟨(some 15), some (13, false), .bin .gtr (.t 14) (.c (.int .i64 63))⟩,
  ⟨(some 16), none, .pick (.t 13) (.c (.bool true)) (.t 15)⟩] [0, 1, 2, 16])
 (.cond (.t 16)
  (.seq (.reg [⟨(some 17), none, .mov (.t 0)⟩,
   ⟨(some 18), none, .nilck (.t 17)⟩,
   ⟨(some 19), none, .faddr 1 (.t 18)⟩,
   ⟨none, none, .store 1 (.t 19) (.c (.int .i64 1))⟩] [])
  .ret)
  .skip))
 (.seq (.seq (.reg [⟨(some 20), none, .mov (.t 2)⟩,
  ⟨(some 21), none, .mov (.t 1)⟩,
  ⟨(some 22), none, .bin .sub (.t 21) (.c (.int .i64 1))⟩,
  ⟨(some 23), none, .bin .shl (.c (.int .i64 1)) (.t 22)⟩,
  ⟨(some 24), none, .un .neg (.t 23)⟩,
  ⟨(some 25), none, .bin .lss (.t 20) (.t 24)⟩,
  ⟨(some 26), none, .mov (.t 25)⟩,
  ⟨(some 27), some (26, false), .mov (.t 2)⟩,
  ⟨(some 28), some (26, false), .mov (.t 1)⟩,
  ⟨(some 29), some (26, false), .bin .sub (.t 28) (.c (.int .i64 1))⟩,
  ⟨(some 30), some (26, false), .bin .shl (.c (.int .i64 1)) (.t 29)⟩,
  ⟨(some 31), some (26, false), .bin .sub (.t 30) (.c (.int .i64 1))⟩,
  ⟨(some 32), some (26, false), .bin .gtr (.t 27) (.t 31)⟩,
  ⟨(some 33), none, .pick (.t 26) (.c (.bool true)) (.t 32)⟩] [0, 1, 2, 33])
 (.cond (.t 33)
  (.seq (.reg [⟨(some 34), none, .mov (.t 0)⟩,
   ⟨(some 35), none, .nilck (.t 34)⟩,
   ⟨(some 36), none, .faddr 1 (.t 35)⟩,
   ⟨none, none, .store 1 (.t 36) (.c (.int .i64 2))⟩] [])
  .ret)
  .skip))
 (.seq (.reg [⟨(some 37), none, .mov (.t 0)⟩,
  ⟨(some 38), none, .mov (.t 1)⟩,
  ⟨(some 39), none, .call 58 [(.t 37), (.t 38)]⟩] [0, 1, 2, 39])
 (.cond (.t 39)
  (.reg [⟨(some 40), none, .mov (.t 0)⟩,
   ⟨(some 41), none, .mov (.t 1)⟩,
   ⟨(some 42), none, .mov (.t 2)⟩,
   ⟨(some 43), none, .call 59 [(.t 40), (.t 41), (.t 42)]⟩] [])
  .skip))))),
 [], false, false⟩

/-- (*hopmesh/hopmeshref02.Writer).Flag -/
def F45 : AFn := ⟨26,
 (.seq (.seq (.reg [⟨(some 4), none, .mov (.t 0)⟩,
  ⟨(some 5), none, .call 58 [(.t 4), (.c (.int .i64 1))]⟩,
  ⟨(some 6), none, .un .not (.t 5)⟩] [0, 1, 6])
 (.cond (.t 6)
  .ret
  .skip))
 (.seq (.reg [⟨(some 7), none, .mov (.t 1)⟩] [0, 7])
 (.cond (.t 7)
  (.reg [⟨(some 8), none, .mov (.t 0)⟩,
   ⟨(some 9), none, .mov (.t 0)⟩,
   ⟨(some 10), none, .nilck (.t 9)⟩,
   ⟨(some 11), none, .faddr 0 (.t 10)⟩,
   ⟨(some 12), none, .load none (.t 11)⟩,
   ⟨(some 13), none, .buildS 1 1 [(.int .u8 0)] [(0, 1, (.c (.int .u8 1)))]⟩,
   ⟨(some 14), none, .app 1 1 (.t 12) (.t 13)⟩,
   ⟨(some 15), none, .nilck (.t 8)⟩,
   ⟨(some 16), none, .faddr 0 (.t 15)⟩,
   ⟨none, none, .store 1 (.t 16) (.t 14)⟩] [])
  (.reg [⟨(some 17), none, .mov (.t 0)⟩,
   ⟨(some 18), none, .mov (.t 0)⟩,
   ⟨(some 19), none, .nilck (.t 18)⟩,
   ⟨(some 20), none, .faddr 0 (.t 19)⟩,
   ⟨(some 21), none, .load none (.t 20)⟩,
   ⟨(some 22), none, .buildS 1 1 [(.int .u8 0)] [(0, 1, (.c (.int .u8 0)))]⟩,
   ⟨(some 23), none, .app 1 1 (.t 21) (.t 22)⟩,
   ⟨(some 24), none, .nilck (.t 17)⟩,
   ⟨(some 25), none, .faddr 0 (.t 24)⟩,
   ⟨none, none, .store 1 (.t 25) (.t 23)⟩] [])))),
 [], false, false⟩

/-- (*hopmesh/hopmeshref02.Writer).Text -/
def F46 : AFn := ⟨55,
 (.seq (.seq (.reg [⟨(some 7), none, .mov (.t 0)⟩,
  ⟨(some 8), none, .nilck (.t 7)⟩,
  ⟨(some 9), none, .faddr 1 (.t 8)⟩,
  ⟨(some 10), none, .load none (.t 9)⟩,
  ⟨(some 11), none, .bin .neq (.t 10) (.c (.int .i64 0))⟩] [0, 1, 2, 11])
 (.cond (.t 11)
  .ret
  .skip))
 (.seq (.seq (.reg [⟨(some 12), none, .mov (.t 1)⟩,
  ⟨(some 13), none, .bin .lss (.t 12) (.c (.int .i64 1))⟩,
  ⟨(some 14), none, .mov (.t 13)⟩,
  ⟨(some 15), some (14, false), .mov (.t 1)⟩,
  ⟨(some 16), some (14, false), .bin .gtr (.t 15) (.c (.int .i64 4095))⟩,
  ⟨(some 17), none, .pick (.t 14) (.c (.bool true)) (.t 16)⟩] [0, 1, 2, 17])
 (.cond (.t 17)
  (.seq (.reg [⟨(some 18), none, .mov (.t 0)⟩,
   ⟨(some 19), none, .nilck (.t 18)⟩,
   ⟨(some 20), none, .faddr 1 (.t 19)⟩,
   ⟨none, none, .store 1 (.t 20) (.c (.int .i64 1))⟩] [])
  .ret)
  .skip))
 (.seq (.seq (.reg [⟨(some 21), none, .mov (.t 2)⟩,
  ⟨(some 22), none, .lenS (.t 21)⟩,
  ⟨(some 23), none, .mov (.t 1)⟩,
  ⟨(some 24), none, .bin .gtr (.t 22) (.t 23)⟩] [0, 1, 2, 24])
 (.cond (.t 24)
  (.seq (.reg [⟨(some 25), none, .mov (.t 0)⟩,
   ⟨(some 26), none, .nilck (.t 25)⟩,
   ⟨(some 27), none, .faddr 1 (.t 26)⟩,
   ⟨none, none, .store 1 (.t 27) (.c (.int .i64 8))⟩] [])
  .ret)
  .skip))
 (.seq (.seq (.reg [⟨(some 28), none, .mov (.t 0)⟩,
  ⟨(some 29), none, .mov (.t 1)⟩,
  ⟨(some 30), none, .call 54 [(.t 29)]⟩,
  ⟨(some 31), none, .mov (.t 2)⟩,
  ⟨(some 32), none, .lenS (.t 31)⟩,
  ⟨(some 33), none, .bin .mul (.c (.int .i64 8)) (.t 32)⟩,
  ⟨(some 34), none, .bin .add (.t 30) (.t 33)⟩,
  ⟨(some 35), none, .call 58 [(.t 28), (.t 34)]⟩,
  ⟨(some 36), none, .un .not (.t 35)⟩] [0, 1, 2, 36])
 (.cond (.t 36)
  .ret
  .skip))
 (.seq (.reg [⟨(some 37), none, .mov (.t 0)⟩,
  ⟨(some 38), none, .mov (.t 1)⟩,
  ⟨(some 39), none, .call 54 [(.t 38)]⟩,
  ⟨(some 40), none, .mov (.t 2)⟩,
  ⟨(some 41), none, .lenS (.t 40)⟩,
  ⟨(some 42), none, .call 59 [(.t 37), (.t 39), (.t 41)]⟩] [0, 2])
 (.seq (.reg [⟨(some 6), none, .mov (.c (.int .i64 0))⟩] [0, 2, 6])
 (.block 0 (.loop (.seq (.seq (.reg [⟨(some 43), none, .mov (.t 6)⟩,
    ⟨(some 44), none, .mov (.t 2)⟩,
    ⟨(some 45), none, .lenS (.t 44)⟩,
    ⟨(some 46), none, .bin .lss (.t 43) (.t 45)⟩] [0, 2, 6, 46])
   (.cond (.t 46)
    .skip
    (.exit 0)))
   (.seq (.block 1 (.reg [⟨(some 49), none, .mov (.t 0)⟩,
     ⟨(some 50), none, .mov (.t 2)⟩,
     ⟨(some 51), none, .mov (.t 6)⟩,
     ⟨(some 52), none, .idxS (.t 50) (.t 51)⟩,
     ⟨(some 53), none, .cvI .i64 (.t 52)⟩,
     ⟨(some 54), none, .call 59 [(.t 49), (.c (.int .i64 8)), (.t 53)]⟩] [0, 2, 6]))
   (.reg [⟨(some 47), none, .mov (.t 6)⟩,
    ⟨(some 48), none, .bin .add (.t 47) (.c (.int .i64 1))⟩,
    ⟨(some 6), none, .mov (.t 48)⟩] [0, 2, 6]))))))))))),
 [], false, false⟩

/-- (*hopmesh/bitio.Reader).Close$1 -/
def F47 : AFn := ⟨10,
 (.seq (.reg [⟨(some 1), none, .mov (.c (.bool false))⟩] [0])
 (.seq (.reg [⟨(some 3), none, .load none (.t 0)⟩,
  ⟨(some 4), none, .nilck (.t 3)⟩,
  ⟨(some 5), none, .load (some 3) (.t 4)⟩,
  ⟨(some 2), none, .new [(.string ⟨#[]⟩), (.int .i64 0), (.int .i64 0)]⟩,
  ⟨none, none, .store 3 (.t 2) (.t 5)⟩] [0, 2])
 (.seq (.reg [⟨(some 6), none, .load none (.t 0)⟩,
  ⟨(some 7), none, .call 33 [(.t 6)]⟩,
  ⟨(some 8), none, .call 48 [(.t 2), (.t 7)]⟩,
  ⟨(some 9), none, .bin .neq (.t 8) (.c (.int .u64 0))⟩,
  ⟨(some 1), none, .mov (.t 9)⟩] [1])
 .ret))),
 [.tmp 1], false, false⟩

/-- (*hopmesh/bitio.Reader).get -/
def F48 : AFn := ⟨40,
 (.seq (.reg [⟨(some 4), none, .mov (.c (.int .u64 0))⟩] [0, 1])
 (.seq (.reg [⟨(some 5), none, .mov (.c (.int .u64 0))⟩] [0, 1, 5])
 (.seq (.seq (.reg [⟨(some 6), none, .mov (.t 1)⟩,
  ⟨(some 7), none, .mov (.c (.int .i64 0))⟩] [0, 5, 6, 7])
 (.block 0 (.loop (.seq (.reg [⟨(some 8), none, .bin .lss (.t 7) (.t 6)⟩] [0, 5, 6, 7, 8])
   (.seq (.cond (.t 8)
    .skip
    (.exit 0))
   (.seq (.block 1 (.seq (.regd [⟨⟨(some 9), none, .mov (.t 5)⟩, false, 0⟩,
     ⟨⟨(some 10), none, .bin .shl (.t 9) (.c (.int .u64 1))⟩, false, 0⟩,
     ⟨⟨(some 11), none, .mov (.t 0)⟩, false, 0⟩,
     ⟨⟨(some 12), none, .nilck (.t 11)⟩, false, 0⟩,
     ⟨⟨(some 13), none, .faddr 0 (.t 12)⟩, false, 0⟩,
     ⟨⟨(some 14), none, .load none (.t 13)⟩, false, 0⟩,
     ⟨⟨(some 15), none, .mov (.t 0)⟩, false, 0⟩,
     ⟨⟨(some 16), none, .nilck (.t 15)⟩, false, 0⟩,
     ⟨⟨(some 17), none, .faddr 1 (.t 16)⟩, false, 0⟩,
     ⟨⟨(some 18), none, .load none (.t 17)⟩, false, 0⟩,
     ⟨⟨(some 19), none, .bin .quo (.t 18) (.c (.int .i64 8))⟩, false, 0⟩,
     ⟨⟨(some 20), none, .idxS (.t 14) (.t 19)⟩, false, 0⟩,
     ⟨⟨(some 21), none, .mov (.t 0)⟩, false, 0⟩,
     ⟨⟨(some 22), none, .nilck (.t 21)⟩, false, 0⟩,
     ⟨⟨(some 23), none, .faddr 1 (.t 22)⟩, false, 0⟩,
     ⟨⟨(some 24), none, .load none (.t 23)⟩, false, 0⟩,
     ⟨⟨(some 25), none, .bin .rem (.t 24) (.c (.int .i64 8))⟩, false, 0⟩,
     ⟨⟨(some 26), none, .bin .sub (.c (.int .i64 7)) (.t 25)⟩, false, 0⟩,
     ⟨⟨(some 27), none, .bin .shr (.t 20) (.t 26)⟩, false, 0⟩,
     ⟨⟨(some 28), none, .bin .and (.t 27) (.c (.int .u8 1))⟩, false, 0⟩,
     ⟨⟨(some 29), none, .cvI .u64 (.t 28)⟩, false, 0⟩,
     ⟨⟨(some 30), none, .bin .or (.t 10) (.t 29)⟩, false, 0⟩,
     ⟨⟨(some 5), none, .mov (.t 30)⟩, false, 0⟩] [0, 5, 6, 7])
    (.reg [⟨(some 31), none, .mov (.t 0)⟩,
     ⟨(some 32), none, .nilck (.t 31)⟩,
     ⟨(some 33), none, .faddr 1 (.t 32)⟩,
     ⟨(some 34), none, .load none (.t 33)⟩,
     ⟨(some 35), none, .bin .add (.t 34) (.c (.int .i64 1))⟩,
     ⟨(some 36), none, .nilck (.t 31)⟩,
     ⟨(some 37), none, .faddr 1 (.t 36)⟩,
     ⟨none, none, .store 1 (.t 37) (.t 35)⟩] [0, 5, 6, 7])))
   (.reg [⟨(some 38), none, .bin .add (.t 7) (.c (.int .i64 1))⟩,
    ⟨(some 7), none, .mov (.t 38)⟩] [0, 5, 6, 7])))))))
 (.seq (.reg [⟨(some 39), none, .mov (.t 5)⟩,
  ⟨(some 4), none, .mov (.t 39)⟩] [4])
 .ret)))),
 [.tmp 4], false, false⟩

/-- math/bits.Len -/
def F49 : AFn := ⟨8,
 (.seq (.reg [⟨(some 2), none, .mov (.c (.int .i64 0))⟩] [0])
 (.seq (.cond (.c (.bool false))
  (.seq (.reg [⟨(some 3), none, .mov (.t 0)⟩,
   ⟨(some 4), none, .cvI .u32 (.t 3)⟩,
   ⟨(some 5), none, .call 60 [(.t 4)]⟩,
   ⟨(some 2), none, .mov (.t 5)⟩] [2])
  .ret)
  .skip)
 (.seq (.reg [⟨(some 6), none, .mov (.t 0)⟩,
  ⟨(some 7), none, .call 61 [(.t 6)]⟩,
  ⟨(some 2), none, .mov (.t 7)⟩] [2])
 .ret))),
 [.tmp 2], true, true⟩

/-- (*hopmesh/bitio.Writer).field -/
def F50 : AFn := ⟨44,
 (.block 0 (.seq (.reg [⟨(some 16), none, .mov (.t 0)⟩,
   ⟨(some 17), none, .nilck (.t 16)⟩,
   ⟨(some 18), none, .faddr 2 (.t 17)⟩,
   ⟨(some 19), none, .load none (.t 18)⟩,
   ⟨(some 20), none, .bin .neq (.t 19) (.c (.int .i64 0))⟩,
   ⟨(some 15), none, .mov (.t 20)⟩] [0, 1, 2, 3, 4, 15])
  (.cond (.t 15)
   .skip
   (.seq (.reg [⟨(some 22), none, .mov (.t 1)⟩,
    ⟨(some 23), none, .un .not (.t 22)⟩,
    ⟨(some 21), none, .mov (.t 23)⟩] [0, 2, 3, 4, 21])
   (.cond (.t 21)
    (.reg [⟨(some 24), none, .mov (.t 0)⟩,
     ⟨(some 25), none, .nilck (.t 24)⟩,
     ⟨(some 26), none, .faddr 2 (.t 25)⟩,
     ⟨none, none, .store 1 (.t 26) (.c (.int .i64 1))⟩] [])
    (.seq (.reg [⟨(some 28), none, .mov (.t 2)⟩,
     ⟨(some 29), none, .un .not (.t 28)⟩,
     ⟨(some 27), none, .mov (.t 29)⟩] [0, 3, 4, 27])
    (.cond (.t 27)
     (.reg [⟨(some 30), none, .mov (.t 0)⟩,
      ⟨(some 31), none, .nilck (.t 30)⟩,
      ⟨(some 32), none, .faddr 2 (.t 31)⟩,
      ⟨none, none, .store 1 (.t 32) (.c (.int .i64 2))⟩] [])
     (.seq (.reg [⟨(some 34), none, .mov (.t 0)⟩,
      ⟨(some 35), none, .nilck (.t 34)⟩,
      ⟨(some 36), none, .faddr 1 (.t 35)⟩,
      ⟨(some 37), none, .load none (.t 36)⟩,
      ⟨(some 38), none, .mov (.t 3)⟩,
      ⟨(some 39), none, .bin .add (.t 37) (.t 38)⟩,
      ⟨(some 40), none, .bin .gtr (.t 39) (.c (.int .i64 524288))⟩,
      ⟨(some 33), none, .mov (.t 40)⟩] [0, 3, 4, 33])
     (.cond (.t 33)
      (.reg [⟨(some 41), none, .mov (.t 0)⟩,
       ⟨(some 42), none, .nilck (.t 41)⟩,
       ⟨(some 43), none, .faddr 2 (.t 42)⟩,
       ⟨none, none, .store 1 (.t 43) (.c (.int .i64 8))⟩] [])
      (.reg [⟨(some 10), none, .mov (.t 0)⟩,
       ⟨(some 11), none, .mov (.t 3)⟩,
       ⟨(some 12), none, .mov (.t 4)⟩,
       ⟨(some 13), none, .cvI .u64 (.t 12)⟩,
       ⟨(some 14), none, .call 56 [(.t 10), (.t 11), (.t 13)]⟩] [])))))))))),
 [], false, false⟩

/-- (*hopmesh/bitio.Reader).field -/
def F51 : AFn := ⟨28,
 (.seq (.reg [⟨(some 6), none, .mov (.c (.int .u64 0))⟩] [0, 1, 2])
 (.seq (.block 0 (.seq (.reg [⟨(some 11), none, .mov (.t 0)⟩,
   ⟨(some 12), none, .nilck (.t 11)⟩,
   ⟨(some 13), none, .faddr 2 (.t 12)⟩,
   ⟨(some 14), none, .load none (.t 13)⟩,
   ⟨(some 15), none, .bin .neq (.t 14) (.c (.int .i64 0))⟩,
   ⟨(some 10), none, .mov (.t 15)⟩] [0, 1, 2, 10])
  (.cond (.t 10)
   .skip
   (.seq (.reg [⟨(some 17), none, .mov (.t 1)⟩,
    ⟨(some 18), none, .un .not (.t 17)⟩,
    ⟨(some 16), none, .mov (.t 18)⟩] [0, 2, 16])
   (.cond (.t 16)
    (.reg [⟨(some 19), none, .mov (.t 0)⟩,
     ⟨(some 20), none, .call 57 [(.t 19), (.c (.int .i64 1))]⟩] [])
    (.seq (.reg [⟨(some 22), none, .mov (.t 2)⟩,
     ⟨(some 23), none, .mov (.t 0)⟩,
     ⟨(some 24), none, .call 33 [(.t 23)]⟩,
     ⟨(some 25), none, .bin .gtr (.t 22) (.t 24)⟩,
     ⟨(some 21), none, .mov (.t 25)⟩] [0, 2, 21])
    (.cond (.t 21)
     (.reg [⟨(some 26), none, .mov (.t 0)⟩,
      ⟨(some 27), none, .call 57 [(.t 26), (.c (.int .i64 9))]⟩] [])
     (.seq (.reg [⟨(some 7), none, .mov (.t 0)⟩,
      ⟨(some 8), none, .mov (.t 2)⟩,
      ⟨(some 9), none, .call 48 [(.t 7), (.t 8)]⟩,
      ⟨(some 6), none, .mov (.t 9)⟩] [6])
     .ret))))))))
 (.seq (.reg [⟨(some 6), none, .mov (.c (.int .u64 0))⟩] [6])
 .ret))),
 [.tmp 6], false, false⟩

/-- (*hopmesh/hopmeshref02.Reader).fail -/
def F52 : AFn := ⟨14,
 (.seq (.reg [⟨(some 4), none, .mov (.t 0)⟩,
  ⟨(some 5), none, .mov (.t 1)⟩,
  ⟨(some 6), none, .nilck (.t 4)⟩,
  ⟨(some 7), none, .faddr 2 (.t 6)⟩,
  ⟨none, none, .store 1 (.t 7) (.t 5)⟩] [0])
 (.seq (.reg [⟨(some 8), none, .mov (.t 0)⟩,
  ⟨(some 9), none, .nilck (.t 8)⟩,
  ⟨(some 10), none, .faddr 0 (.t 9)⟩,
  ⟨none, none, .store 1 (.t 10) (.c (.string ⟨#[]⟩))⟩] [0])
 (.reg [⟨(some 11), none, .mov (.t 0)⟩,
  ⟨(some 12), none, .nilck (.t 11)⟩,
  ⟨(some 13), none, .faddr 1 (.t 12)⟩,
  ⟨none, none, .store 1 (.t 13) (.c (.int .i64 0))⟩] []))),
 [], false, false⟩

/-- (*hopmesh/hopmeshref02.Reader).get -/
def F53 : AFn := ⟨54,
 (.seq (.reg [⟨(some 4), none, .mov (.c (.int .i64 0))⟩] [0, 1])
 (.seq (.seq (.reg [⟨(some 7), none, .mov (.t 0)⟩,
  ⟨(some 8), none, .nilck (.t 7)⟩,
  ⟨(some 9), none, .faddr 2 (.t 8)⟩,
  ⟨(some 10), none, .load none (.t 9)⟩,
  ⟨(some 11), none, .bin .neq (.t 10) (.c (.int .i64 0))⟩] [0, 1, 11])
 (.cond (.t 11)
  (.seq (.reg [⟨(some 4), none, .mov (.c (.int .i64 0))⟩] [4])
  .ret)
  .skip))
 (.seq (.seq (.reg [⟨(some 12), none, .mov (.t 0)⟩,
  ⟨(some 13), none, .call 34 [(.t 12)]⟩,
  ⟨(some 14), none, .mov (.t 1)⟩,
  ⟨(some 15), none, .bin .lss (.t 13) (.t 14)⟩] [0, 1, 15])
 (.cond (.t 15)
  (.seq (.reg [⟨(some 16), none, .mov (.t 0)⟩,
   ⟨(some 17), none, .call 52 [(.t 16), (.c (.int .i64 9))]⟩] [])
  (.seq (.reg [⟨(some 4), none, .mov (.c (.int .i64 0))⟩] [4])
  .ret))
  .skip))
 (.seq (.reg [⟨(some 5), none, .mov (.c (.int .i64 0))⟩] [0, 1, 5])
 (.seq (.seq (.reg [⟨(some 6), none, .mov (.c (.int .i64 0))⟩] [0, 1, 5, 6])
 (.block 0 (.loop (.seq (.seq (.reg [⟨(some 18), none, .mov (.t 6)⟩,
    ⟨(some 19), none, .mov (.t 1)⟩,
    ⟨(some 20), none, .bin .lss (.t 18) (.t 19)⟩] [0, 1, 5, 6, 20])
   (.cond (.t 20)
    .skip
    (.exit 0)))
   (.seq (.block 1 (.seq (.regd [⟨⟨(some 23), none, .mov (.t 5)⟩, false, 0⟩,
     ⟨⟨(some 24), none, .bin .shl (.t 23) (.c (.int .u64 1))⟩, false, 0⟩,
     ⟨⟨(some 25), none, .mov (.t 0)⟩, false, 0⟩,
     ⟨⟨(some 26), none, .nilck (.t 25)⟩, false, 0⟩,
     ⟨⟨(some 27), none, .faddr 0 (.t 26)⟩, false, 0⟩,
     ⟨⟨(some 28), none, .load none (.t 27)⟩, false, 0⟩,
     ⟨⟨(some 29), none, .mov (.t 0)⟩, false, 0⟩,
     ⟨⟨(some 30), none, .nilck (.t 29)⟩, false, 0⟩,
     ⟨⟨(some 31), none, .faddr 1 (.t 30)⟩, false, 0⟩,
     ⟨⟨(some 32), none, .load none (.t 31)⟩, false, 0⟩,
     ⟨⟨(some 33), none, .bin .quo (.t 32) (.c (.int .i64 8))⟩, false, 0⟩,
     ⟨⟨(some 34), none, .idxS (.t 28) (.t 33)⟩, false, 0⟩,
     ⟨⟨(some 35), none, .cvI .i64 (.t 34)⟩, false, 0⟩,
     ⟨⟨(some 36), none, .mov (.t 0)⟩, false, 0⟩,
     ⟨⟨(some 37), none, .nilck (.t 36)⟩, false, 0⟩,
     ⟨⟨(some 38), none, .faddr 1 (.t 37)⟩, false, 0⟩,
     ⟨⟨(some 39), none, .load none (.t 38)⟩, false, 0⟩,
     ⟨⟨(some 40), none, .bin .rem (.t 39) (.c (.int .i64 8))⟩, false, 0⟩,
     ⟨⟨(some 41), none, .bin .sub (.c (.int .i64 7)) (.t 40)⟩, false, 0⟩,
     ⟨⟨(some 42), none, .bin .shr (.t 35) (.t 41)⟩, false, 0⟩,
     ⟨⟨(some 43), none, .bin .and (.t 42) (.c (.int .i64 1))⟩, false, 0⟩,
     ⟨⟨(some 44), none, .bin .or (.t 24) (.t 43)⟩, false, 0⟩,
     ⟨⟨(some 5), none, .mov (.t 44)⟩, false, 0⟩] [0, 1, 5, 6])
    (.reg [⟨(some 45), none, .mov (.t 0)⟩,
     ⟨(some 46), none, .mov (.t 0)⟩,
     ⟨(some 47), none, .nilck (.t 46)⟩,
     ⟨(some 48), none, .faddr 1 (.t 47)⟩,
     ⟨(some 49), none, .load none (.t 48)⟩,
     ⟨(some 50), none, .bin .add (.t 49) (.c (.int .i64 1))⟩,
     ⟨(some 51), none, .nilck (.t 45)⟩,
     ⟨(some 52), none, .faddr 1 (.t 51)⟩,
     ⟨none, none, .store 1 (.t 52) (.t 50)⟩] [0, 1, 5, 6])))
   (.reg [⟨(some 21), none, .mov (.t 6)⟩,
    ⟨(some 22), none, .bin .add (.t 21) (.c (.int .i64 1))⟩,
    ⟨(some 6), none, .mov (.t 22)⟩] [0, 1, 5, 6]))))))
 (.seq (.reg [⟨(some 53), none, .mov (.t 5)⟩,
  ⟨(some 4), none, .mov (.t 53)⟩] [4])
 .ret)))))),
 [.tmp 4], false, false⟩

/-- hopmesh/hopmeshref02.Width -/
def F54 : AFn := ⟨13,
 (.seq (.reg [⟨(some 2), none, .mov (.c (.int .i64 0))⟩] [0])
 (.seq (.seq (.reg [⟨(some 4), none, .mov (.t 0)⟩,
  ⟨(some 5), none, .bin .lss (.t 4) (.c (.int .i64 0))⟩] [0, 5])
 (.cond (.t 5)
  (.seq (.reg [⟨(some 2), none, .mov (.c (.int .i64 0))⟩] [2])
  .ret)
  .skip))
 (.seq (.reg [⟨(some 3), none, .mov (.c (.int .i64 1))⟩] [0, 3])
 (.seq (.block 0 (.loop (.seq (.seq (.reg [⟨(some 6), none, .mov (.t 0)⟩,
    ⟨(some 7), none, .bin .geq (.t 6) (.c (.int .i64 2))⟩] [0, 3, 7])
   (.cond (.t 7)
    .skip
    (.exit 0)))
   (.block 1 (.seq (.reg [⟨(some 8), none, .mov (.t 0)⟩,
     ⟨(some 9), none, .bin .quo (.t 8) (.c (.int .i64 2))⟩,
     ⟨(some 0), none, .mov (.t 9)⟩] [0, 3])
    (.reg [⟨(some 10), none, .mov (.t 3)⟩,
     ⟨(some 11), none, .bin .add (.t 10) (.c (.int .i64 1))⟩,
     ⟨(some 3), none, .mov (.t 11)⟩] [0, 3]))))))
 (.seq (.reg [⟨(some 12), none, .mov (.t 3)⟩,
  ⟨(some 2), none, .mov (.t 12)⟩] [2])
 .ret))))),
 [.tmp 2], true, true⟩

/-- hopmesh/bitio.limit -/
def F55 : AFn := ⟨9,
 (.seq (.reg [⟨(some 2), none, .mov (.c (.bool false))⟩] [0])
 (.seq (.reg [⟨(some 3), none, .mov (.t 0)⟩,
  ⟨(some 4), none, .bin .geq (.t 3) (.c (.int .i64 1))⟩,
  ⟨(some 5), none, .mov (.t 4)⟩,
  ⟨(some 6), some (5, true), .mov (.t 0)⟩,
  ⟨(some 7), some (5, true), .bin .leq (.t 6) (.c (.int .i64 4095))⟩,
  ⟨(some 8), none, .pick (.t 5) (.t 7) (.c (.bool false))⟩,
  ⟨(some 2), none, .mov (.t 8)⟩] [2])
 .ret)),
 [.tmp 2], true, true⟩

/-- (*hopmesh/bitio.Writer).put -/
def F56 : AFn := ⟨60,
 (.seq (.reg [⟨(some 7), none, .mov (.t 1)⟩,
  ⟨(some 8), none, .bin .sub (.t 7) (.c (.int .i64 1))⟩,
  ⟨(some 6), none, .mov (.t 8)⟩] [0, 2, 6])
 (.block 0 (.loop (.seq (.seq (.reg [⟨(some 9), none, .mov (.t 6)⟩,
    ⟨(some 10), none, .bin .geq (.t 9) (.c (.int .i64 0))⟩] [0, 2, 6, 10])
   (.cond (.t 10)
    .skip
    (.exit 0)))
   (.seq (.block 1 (.seq (.seq (.reg [⟨(some 13), none, .mov (.t 0)⟩,
     ⟨(some 14), none, .nilck (.t 13)⟩,
     ⟨(some 15), none, .faddr 1 (.t 14)⟩,
     ⟨(some 16), none, .load none (.t 15)⟩,
     ⟨(some 17), none, .bin .rem (.t 16) (.c (.int .i64 8))⟩,
     ⟨(some 18), none, .bin .eql (.t 17) (.c (.int .i64 0))⟩] [0, 2, 6, 18])
    (.cond (.t 18)
     (.reg [⟨(some 19), none, .mov (.t 0)⟩,
      ⟨(some 20), none, .mov (.t 0)⟩,
      ⟨(some 21), none, .nilck (.t 20)⟩,
      ⟨(some 22), none, .faddr 0 (.t 21)⟩,
      ⟨(some 23), none, .load none (.t 22)⟩,
      ⟨(some 24), none, .buildS 1 1 [(.int .u8 0)] [(0, 1, (.c (.int .u8 0)))]⟩,
      ⟨(some 25), none, .app 1 1 (.t 23) (.t 24)⟩,
      ⟨(some 26), none, .nilck (.t 19)⟩,
      ⟨(some 27), none, .faddr 0 (.t 26)⟩,
      ⟨none, none, .store 1 (.t 27) (.t 25)⟩] [0, 2, 6])
     .skip))
    (.seq (.regd [⟨⟨(some 28), none, .mov (.t 0)⟩, false, 0⟩,
     ⟨⟨(some 29), none, .nilck (.t 28)⟩, false, 0⟩,
     ⟨⟨(some 30), none, .faddr 0 (.t 29)⟩, false, 0⟩,
     ⟨⟨(some 31), none, .load none (.t 30)⟩, false, 0⟩,
     ⟨⟨(some 32), none, .mov (.t 0)⟩, false, 0⟩,
     ⟨⟨(some 33), none, .nilck (.t 32)⟩, false, 0⟩,
     ⟨⟨(some 34), none, .faddr 1 (.t 33)⟩, false, 0⟩,
     ⟨⟨(some 35), none, .load none (.t 34)⟩, false, 0⟩,
     ⟨⟨(some 36), none, .bin .quo (.t 35) (.c (.int .i64 8))⟩, false, 0⟩,
     ⟨⟨(some 37), none, .iaddrS 1 (.t 31) (.t 36)⟩, false, 0⟩,
     ⟨⟨(some 38), none, .load none (.t 37)⟩, false, 0⟩,
     ⟨⟨(some 39), none, .mov (.t 2)⟩, false, 0⟩,
     ⟨⟨(some 40), none, .mov (.t 6)⟩, false, 0⟩,
     ⟨⟨(some 41), none, .bin .shr (.t 39) (.t 40)⟩, false, 0⟩,
     ⟨⟨(some 42), none, .bin .and (.t 41) (.c (.int .u64 1))⟩, false, 0⟩,
     ⟨⟨(some 43), none, .cvI .u8 (.t 42)⟩, false, 0⟩,
     ⟨⟨(some 44), none, .mov (.t 0)⟩, false, 0⟩,
     ⟨⟨(some 45), none, .nilck (.t 44)⟩, false, 0⟩,
     ⟨⟨(some 46), none, .faddr 1 (.t 45)⟩, false, 0⟩,
     ⟨⟨(some 47), none, .load none (.t 46)⟩, false, 0⟩,
     ⟨⟨(some 48), none, .bin .rem (.t 47) (.c (.int .i64 8))⟩, false, 0⟩,
     ⟨⟨(some 49), none, .bin .sub (.c (.int .i64 7)) (.t 48)⟩, false, 0⟩,
     ⟨⟨(some 50), none, .bin .shl (.t 43) (.t 49)⟩, false, 0⟩,
     ⟨⟨(some 51), none, .bin .or (.t 38) (.t 50)⟩, false, 0⟩,
     ⟨⟨(some 52), none, .iaddrS 1 (.t 31) (.t 36)⟩, false, 0⟩,
     ⟨⟨none, none, .store 1 (.t 52) (.t 51)⟩, true, 0⟩] [0, 2, 6])
    (.reg [⟨(some 53), none, .mov (.t 0)⟩,
     ⟨(some 54), none, .nilck (.t 53)⟩,
     ⟨(some 55), none, .faddr 1 (.t 54)⟩,
     ⟨(some 56), none, .load none (.t 55)⟩,
     ⟨(some 57), none, .bin .add (.t 56) (.c (.int .i64 1))⟩,
     ⟨(some 58), none, .nilck (.t 53)⟩,
     ⟨(some 59), none, .faddr 1 (.t 58)⟩,
     ⟨none, none, .store 1 (.t 59) (.t 57)⟩] [0, 2, 6]))))
   (.reg [⟨(some 11), none, .mov (.t 6)⟩,
    ⟨(some 12), none, .bin .sub (.t 11) (.c (.int .i64 1))⟩,
    ⟨(some 6), none, .mov (.t 12)⟩] [0, 2, 6])))))),
 [], false, false⟩

/-- (*hopmesh/bitio.Reader).fail -/
def F57 : AFn := ⟨13,
 (.seq (.reg [⟨(some 4), none, .mov (.t 0)⟩,
  ⟨(some 5), none, .nilck (.t 4)⟩,
  ⟨(some 6), none, .faddr 2 (.t 5)⟩,
  ⟨(some 7), none, .load none (.t 6)⟩,
  ⟨(some 8), none, .bin .eql (.t 7) (.c (.int .i64 0))⟩] [0, 1, 8])
 (.cond (.t 8)
  (.reg [⟨(some 9), none, .mov (.t 0)⟩,
   ⟨(some 10), none, .mov (.t 1)⟩,
   ⟨(some 11), none, .nilck (.t 9)⟩,
   ⟨(some 12), none, .faddr 2 (.t 11)⟩,
   ⟨none, none, .store 1 (.t 12) (.t 10)⟩] [])
  .skip)),
 [], false, false⟩

/-- (*hopmesh/hopmeshref02.Writer).room -/
def F58 : AFn := ⟨28,
 (.seq (.reg [⟨(some 4), none, .mov (.c (.bool false))⟩] [0, 1])
 (.seq (.seq (.reg [⟨(some 5), none, .mov (.t 0)⟩,
  ⟨(some 6), none, .nilck (.t 5)⟩,
  ⟨(some 7), none, .faddr 1 (.t 6)⟩,
  ⟨(some 8), none, .load none (.t 7)⟩,
  ⟨(some 9), none, .bin .eql (.t 8) (.c (.int .i64 0))⟩,
  ⟨(some 10), none, .mov (.t 9)⟩,
  ⟨(some 11), some (10, true), .mov (.t 0)⟩,
  ⟨(some 12), some (10, true), .nilck (.t 11)⟩,
  ⟨(some 13), some (10, true), .faddr 0 (.t 12)⟩,
  ⟨(some 14), some (10, true), .load none (.t 13)⟩,
  ⟨(some 15), some (10, true), .lenL (.t 14)⟩,
  ⟨(some 16), some (10, true), .mov (.t 1)⟩,
  ⟨(some 17), some (10, true), .bin .add (.t 15) (.t 16)⟩,
  ⟨(some 18), some (10, true), .bin .gtr (.t 17) (.c (.int .i64 524288))⟩,
  ⟨(some 19), none, .pick (.t 10) (.t 18) (.c (.bool false))⟩] [0, 19])
 (.cond (.t 19)
  (.reg [⟨(some 20), none, .mov (.t 0)⟩,
   ⟨(some 21), none, .nilck (.t 20)⟩,
   ⟨(some 22), none, .faddr 1 (.t 21)⟩,
   ⟨none, none, .store 1 (.t 22) (.c (.int .i64 8))⟩] [0])
  .skip))
 (.seq (.reg [⟨(some 23), none, .mov (.t 0)⟩,
  ⟨(some 24), none, .nilck (.t 23)⟩,
  ⟨(some 25), none, .faddr 1 (.t 24)⟩,
  ⟨(some 26), none, .load none (.t 25)⟩,
  ⟨(some 27), none, .bin .eql (.t 26) (.c (.int .i64 0))⟩,
  ⟨(some 4), none, .mov (.t 27)⟩] [4])
 .ret))),
 [.tmp 4], false, false⟩

/-- (*hopmesh/hopmeshref02.Writer).put -/
def F59 : AFn := ⟨27,
 (.seq (.reg [⟨(some 7), none, .mov (.t 1)⟩,
  ⟨(some 8), none, .bin .sub (.t 7) (.c (.int .i64 1))⟩,
  ⟨(some 6), none, .mov (.t 8)⟩] [0, 2, 6])
 (.block 0 (.loop (.seq (.seq (.reg [⟨(some 9), none, .mov (.t 6)⟩,
    ⟨(some 10), none, .bin .geq (.t 9) (.c (.int .i64 0))⟩] [0, 2, 6, 10])
   (.cond (.t 10)
    .skip
    (.exit 0)))
   (.seq (.block 1 (.regd [⟨⟨(some 13), none, .mov (.t 0)⟩, false, 0⟩,
     ⟨⟨(some 14), none, .mov (.t 0)⟩, false, 0⟩,
     ⟨⟨(some 15), none, .nilck (.t 14)⟩, false, 0⟩,
     ⟨⟨(some 16), none, .faddr 0 (.t 15)⟩, false, 0⟩,
     ⟨⟨(some 18), none, .mov (.t 2)⟩, false, 0⟩,
     ⟨⟨(some 19), none, .mov (.t 6)⟩, false, 0⟩,
     ⟨⟨(some 20), none, .bin .shr (.t 18) (.t 19)⟩, false, 0⟩,
     ⟨⟨(some 21), none, .bin .and (.t 20) (.c (.int .i64 1))⟩, false, 0⟩,
     ⟨⟨(some 22), none, .cvI .u8 (.t 21)⟩, false, 0⟩,
     ⟨⟨(some 23), none, .buildS 1 1 [(.int .u8 0)] [(0, 1, (.t 22))]⟩, true, 0⟩,
     ⟨⟨(some 17), none, .load none (.t 16)⟩, false, 1⟩,
     ⟨⟨(some 24), none, .app 1 1 (.t 17) (.t 23)⟩, true, 0⟩,
     ⟨⟨(some 25), none, .nilck (.t 13)⟩, false, 0⟩,
     ⟨⟨(some 26), none, .faddr 0 (.t 25)⟩, false, 0⟩,
     ⟨⟨none, none, .store 1 (.t 26) (.t 24)⟩, true, 0⟩] [0, 2, 6]))
   (.reg [⟨(some 11), none, .mov (.t 6)⟩,
    ⟨(some 12), none, .bin .sub (.t 11) (.c (.int .i64 1))⟩,
    ⟨(some 6), none, .mov (.t 12)⟩] [0, 2, 6])))))),
 [], false, false⟩

/-- math/bits.Len32 -/
def F60 : AFn := ⟨19,
 (.seq (.reg [⟨(some 2), none, .mov (.c (.int .i64 0))⟩] [0, 2])
 (.seq (.seq (.reg [⟨(some 3), none, .mov (.t 0)⟩,
  ⟨(some 4), none, .bin .geq (.t 3) (.c (.int .u32 65536))⟩] [0, 2, 4])
 (.cond (.t 4)
  (.seq (.reg [⟨(some 5), none, .mov (.t 0)⟩,
   ⟨(some 6), none, .bin .shr (.t 5) (.c (.int .u64 16))⟩,
   ⟨(some 0), none, .mov (.t 6)⟩] [0])
  (.reg [⟨(some 2), none, .mov (.c (.int .i64 16))⟩] [0, 2]))
  .skip))
 (.seq (.seq (.reg [⟨(some 7), none, .mov (.t 0)⟩,
  ⟨(some 8), none, .bin .geq (.t 7) (.c (.int .u32 256))⟩] [0, 2, 8])
 (.cond (.t 8)
  (.seq (.reg [⟨(some 9), none, .mov (.t 0)⟩,
   ⟨(some 10), none, .bin .shr (.t 9) (.c (.int .u64 8))⟩,
   ⟨(some 0), none, .mov (.t 10)⟩] [0, 2])
  (.reg [⟨(some 11), none, .mov (.t 2)⟩,
   ⟨(some 12), none, .bin .add (.t 11) (.c (.int .i64 8))⟩,
   ⟨(some 2), none, .mov (.t 12)⟩] [0, 2]))
  .skip))
 (.seq (.reg [⟨(some 13), none, .mov (.t 2)⟩,
  ⟨(some 14), none, .mov (.t 0)⟩,
  ⟨(some 15), none, .cvI .u8 (.t 14)⟩,
  ⟨(some 16), none, .idxS (.c (.string Lit0)) (.t 15)⟩,
  ⟨(some 17), none, .cvI .i64 (.t 16)⟩,
  ⟨(some 18), none, .bin .add (.t 13) (.t 17)⟩,
  ⟨(some 2), none, .mov (.t 18)⟩] [2])
 .ret)))),
 [.tmp 2], true, true⟩

/-- math/bits.Len64 -/
def F61 : AFn := ⟨25,
 (.seq (.reg [⟨(some 2), none, .mov (.c (.int .i64 0))⟩] [0, 2])
 (.seq (.seq (.reg [⟨(some 3), none, .mov (.t 0)⟩,
  ⟨(some 4), none, .bin .geq (.t 3) (.c (.int .u64 4294967296))⟩] [0, 2, 4])
 (.cond (.t 4)
  (.seq (.reg [⟨(some 5), none, .mov (.t 0)⟩,
   ⟨(some 6), none, .bin .shr (.t 5) (.c (.int .u64 32))⟩,
   ⟨(some 0), none, .mov (.t 6)⟩] [0])
  (.reg [⟨(some 2), none, .mov (.c (.int .i64 32))⟩] [0, 2]))
  .skip))
 (.seq (.seq (.reg [⟨(some 7), none, .mov (.t 0)⟩,
  ⟨(some 8), none, .bin .geq (.t 7) (.c (.int .u64 65536))⟩] [0, 2, 8])
 (.cond (.t 8)
  (.seq (.reg [⟨(some 9), none, .mov (.t 0)⟩,
   ⟨(some 10), none, .bin .shr (.t 9) (.c (.int .u64 16))⟩,
   ⟨(some 0), none, .mov (.t 10)⟩] [0, 2])
  (.reg [⟨(some 11), none, .mov (.t 2)⟩,
   ⟨(some 12), none, .bin .add (.t 11) (.c (.int .i64 16))⟩,
   ⟨(some 2), none, .mov (.t 12)⟩] [0, 2]))
  .skip))
 (.seq (.seq (.reg [⟨(some 13), none, .mov (.t 0)⟩,
  ⟨(some 14), none, .bin .geq (.t 13) (.c (.int .u64 256))⟩] [0, 2, 14])
 (.cond (.t 14)
  (.seq (.reg [⟨(some 15), none, .mov (.t 0)⟩,
   ⟨(some 16), none, .bin .shr (.t 15) (.c (.int .u64 8))⟩,
   ⟨(some 0), none, .mov (.t 16)⟩] [0, 2])
  (.reg [⟨(some 17), none, .mov (.t 2)⟩,
   ⟨(some 18), none, .bin .add (.t 17) (.c (.int .i64 8))⟩,
   ⟨(some 2), none, .mov (.t 18)⟩] [0, 2]))
  .skip))
 (.seq (.reg [⟨(some 19), none, .mov (.t 2)⟩,
  ⟨(some 20), none, .mov (.t 0)⟩,
  ⟨(some 21), none, .cvI .u8 (.t 20)⟩,
  ⟨(some 22), none, .idxS (.c (.string Lit0)) (.t 21)⟩,
  ⟨(some 23), none, .cvI .i64 (.t 22)⟩,
  ⟨(some 24), none, .bin .add (.t 19) (.t 23)⟩,
  ⟨(some 2), none, .mov (.t 24)⟩] [2])
 .ret))))),
 [.tmp 2], true, true⟩


def tblL : List (Nat × AFn) := [(3, F3), (4, F4), (5, F5), (6, F6), (7, F7), (8, F8), (9, F9), (10, F10), (11, F11), (12, F12), (13, F13), (14, F14), (15, F15), (16, F16), (17, F17), (18, F18), (19, F19), (20, F20), (21, F21), (22, F22), (23, F23), (24, F24), (25, F25), (26, F26), (27, F27), (28, F28), (29, F29), (30, F30), (31, F31), (32, F32), (33, F33), (34, F34), (35, F35), (36, F36), (37, F37), (38, F38), (39, F39), (40, F40), (41, F41), (42, F42), (43, F43), (44, F44), (45, F45), (46, F46), (47, F47), (48, F48), (49, F49), (50, F50), (51, F51), (52, F52), (53, F53), (54, F54), (55, F55), (56, F56), (57, F57), (58, F58), (59, F59), (60, F60), (61, F61)]

def tbl (n : Nat) : Option AFn := look tblL n

end Go.Proofs.Ytlbhbjaimcinbaa.AI
