/-
  What the laws of this claim stand on, part E: proved parts, no statement of its own.
-/
import Derived.Test.YtojllgpnhaaagaaDevCD
import Derived.KernelRfl
import Derived.Test.YtojllgpnhaaagaaRows
/- CxdCodeV -/
namespace Go.Cx.Rd
open Go Go.Cx Go.Proofs
def ic3 : IFn := ⟨2,144,[.t 4],
  (.seq (.reg [5,6,31,1,46,47,48,8,7,0,59,61,60,62,10,9,67,11,87,12,14,13,98,118,123,124,125,15,17,16,142,4] [⟨some 4,none,.mv (.c .ff)⟩])
  (.seq (.reg [5,6,31,1,46,47,48,8,7,0,59,61,60,62,10,9,67,11,87,12,14,13,98,118,123,124,125,15,17,16,142,4] [⟨some 19,none,.call 8 true [((.c (.lit .i64 5)),.v),((.c (.lit .u64 0)),.v),((.c (.lit .u64 0)),.v)]⟩,⟨some 18,none,.mv (.t 19)⟩,⟨some 20,none,.ext 0 (.t 18)⟩,⟨some 21,none,.ext 1 (.t 18)⟩,⟨some 5,none,.mv (.t 20)⟩,⟨some 6,none,.mv (.t 21)⟩])
  (.seq (.seq (.reg [5,6,31,1,46,47,48,8,7,0,59,61,60,62,10,9,67,11,87,12,14,13,98,118,123,124,125,15,17,16,142,4] [⟨some 22,none,.mv (.t 5)⟩,⟨some 23,none,.eq .p false (.t 22) (.c .nilp)⟩,⟨some 24,none,.mv (.t 23)⟩,⟨some 25,some (24,false),.mv (.t 6)⟩,⟨some 26,some (24,false),.cmp .neq (.t 25) (.c (.lit .i64 0))⟩,⟨some 27,none,.pick (.t 24) (.c .tt) (.t 26)⟩,⟨some 28,none,.mv (.t 27)⟩,⟨some 29,some (28,false),.call 9 true []⟩,⟨some 30,some (28,false),.not (.t 29)⟩,⟨some 31,none,.pick (.t 28) (.c .tt) (.t 30)⟩])
  (.cond (.t 31)
    (.seq (.reg [5,6,31,1,46,47,48,8,7,0,59,61,60,62,10,9,67,11,87,12,14,13,98,118,123,124,125,15,17,16,142,4] [⟨some 4,none,.mv (.c .ff)⟩])
    .ret)
    .skip))
  (.seq (.reg [5,6,31,1,46,47,48,8,7,0,59,61,60,62,10,9,67,11,87,12,14,13,98,118,123,124,125,15,17,16,142,4] [⟨some 32,none,.mv (.t 1)⟩,⟨some 33,none,.cv .u64 (.t 32)⟩,⟨some 34,none,.ar .rem .u64 (.t 33) (.c (.lit .u64 5))⟩,⟨some 35,none,.cv .i64 (.t 34)⟩,⟨some 1,none,.mv (.t 35)⟩])
  (.seq (.seq (.reg [5,6,31,1,46,47,48,8,7,0,59,61,60,62,10,9,67,11,87,12,14,13,98,118,123,124,125,15,17,16,142,4] [⟨some 36,none,.mv (.t 5)⟩,⟨some 37,none,.mv (.t 1)⟩,⟨some 38,none,.call 11 true [((.c (.lit .u8 7)),.v),((.c (.lit .i64 512)),.v)]⟩,⟨some 39,none,.call 10 false [((.t 36),.v),((.t 37),.v),((.t 38),.b (.i .u8))]⟩,⟨some 40,none,.cmp .neq (.t 39) (.c (.lit .i64 0))⟩,⟨some 41,none,.mv (.t 40)⟩,⟨some 42,some (41,false),.mv (.t 5)⟩,⟨some 43,some (41,false),.mv (.t 1)⟩,⟨some 44,some (41,false),.call 12 false [((.t 42),.v),((.t 43),.v),((.c .tt),.v),((.c .tt),.v)]⟩,⟨some 45,some (41,false),.cmp .neq (.t 44) (.c (.lit .i64 0))⟩,⟨some 46,none,.pick (.t 41) (.c .tt) (.t 45)⟩])
  (.cond (.t 46)
    (.seq (.reg [5,6,31,1,46,47,48,8,7,0,59,61,60,62,10,9,67,11,87,12,14,13,98,118,123,124,125,15,17,16,142,4] [⟨some 4,none,.mv (.c .ff)⟩])
    .ret)
    .skip))
  (.seq (.reg [5,6,31,1,46,47,48,8,7,0,59,61,60,62,10,9,67,11,87,12,14,13,98,118,123,124,125,15,17,16,142,4] [⟨some 7,none,.alloc (.rows 1 5 (.v (.str [])))⟩])
  (.seq (.seq (.reg [5,6,31,1,46,47,48,8,7,0,59,61,60,62,10,9,67,11,87,12,14,13,98,118,123,124,125,15,17,16,142,4] [⟨some 47,none,.mv (.c (.lit .i64 0))⟩])
  (.block 0 (.loop 0 (.seq (.reg [5,6,31,1,46,47,48,8,7,0,59,61,60,62,10,9,67,11,87,12,14,13,98,118,123,124,125,15,17,16,142,4] [⟨some 48,none,.cmp .lss (.t 47) (.c (.lit .i64 5))⟩])
   (.seq (.cond (.t 48)
     .skip
     (.exit 0))
   (.seq (.block 1 (.seq (.reg [5,6,31,1,46,47,48,8,7,0,59,61,60,62,10,9,67,11,87,12,14,13,98,118,123,124,125,15,17,16,142,4] [⟨some 49,none,.mv (.t 47)⟩,⟨some 8,none,.mv (.t 49)⟩])
   (.reg [5,6,31,1,46,47,48,8,7,0,59,61,60,62,10,9,67,11,87,12,14,13,98,118,123,124,125,15,17,16,142,4] [⟨some 50,none,.mv (.t 8)⟩,⟨some 51,none,.mks (.i .u8) 1 (.c (.lit .i64 512))⟩,⟨some 52,none,.b2s (.t 51)⟩,⟨some 53,none,.iaA 5 1 (.t 7) (.t 50)⟩,⟨none,none,.st 1 (.t 53) (.t 52)⟩])))
   (.reg [5,6,31,1,46,47,48,8,7,0,59,61,60,62,10,9,67,11,87,12,14,13,98,118,123,124,125,15,17,16,142,4] [⟨some 54,none,.ar .add .i64 (.t 47) (.c (.lit .i64 1))⟩,⟨some 47,none,.mv (.t 54)⟩])))))))
  (.seq (.reg [5,6,31,1,46,47,48,8,7,0,59,61,60,62,10,9,67,11,87,12,14,13,98,118,123,124,125,15,17,16,142,4] [⟨some 55,none,.mv (.t 1)⟩,⟨some 56,none,.call 11 true [((.c (.lit .u8 7)),.v),((.c (.lit .i64 512)),.v)]⟩,⟨some 57,none,.b2s (.t 56)⟩,⟨some 58,none,.iaA 5 1 (.t 7) (.t 55)⟩,⟨none,none,.st 1 (.t 58) (.t 57)⟩])
  (.seq (.seq (.reg [5,6,31,1,46,47,48,8,7,0,59,61,60,62,10,9,67,11,87,12,14,13,98,118,123,124,125,15,17,16,142,4] [⟨some 59,none,.mv (.t 0)⟩,⟨some 60,none,.lenS (.t 59)⟩,⟨some 61,none,.mv (.c (.lit .i64 0))⟩])
  (.block 2 (.loop 1 (.seq (.reg [5,6,31,1,46,47,48,8,7,0,59,61,60,62,10,9,67,11,87,12,14,13,98,118,123,124,125,15,17,16,142,4] [⟨some 62,none,.cmp .lss (.t 61) (.t 60)⟩])
   (.seq (.cond (.t 62)
     .skip
     (.exit 2))
   (.seq (.block 3 (.seq (.reg [5,6,31,1,46,47,48,8,7,0,59,61,60,62,10,9,67,11,87,12,14,13,98,118,123,124,125,15,17,16,142,4] [⟨some 63,none,.mv (.t 61)⟩,⟨some 64,none,.iaS 5 (.t 59) (.t 61)⟩,⟨some 65,none,.ld 5 true (.t 64)⟩,⟨some 10,none,.alloc (.cat 1 4 (.v (.lit .i64 0)) (.cat 1 3 (.v (.lit .i64 0)) (.cat 1 2 (.v (.lit .u8 0)) (.cat 1 1 (.v (.lit .u64 0)) (.v .ff)))))⟩,⟨some 9,none,.mv (.t 63)⟩,⟨none,none,.st 5 (.t 10) (.t 65)⟩])
   (.seq (.seq (.reg [5,6,31,1,46,47,48,8,7,0,59,61,60,62,10,9,67,11,87,12,14,13,98,118,123,124,125,15,17,16,142,4] [⟨some 66,none,.mv (.t 9)⟩,⟨some 67,none,.cmp .geq (.t 66) (.c (.lit .i64 60))⟩])
   (.cond (.t 67)
     (.exit 2)
     .skip))
   (.seq (.reg [5,6,31,1,46,47,48,8,7,0,59,61,60,62,10,9,67,11,87,12,14,13,98,118,123,124,125,15,17,16,142,4] [⟨some 68,none,.fa 1 1 (.t 10)⟩,⟨some 69,none,.ld 1 false (.t 68)⟩,⟨some 70,none,.cv .u64 (.t 69)⟩,⟨some 71,none,.ar .rem .u64 (.t 70) (.c (.lit .u64 5))⟩,⟨some 72,none,.cv .i64 (.t 71)⟩,⟨some 11,none,.mv (.t 72)⟩])
   (.seq (.reg [5,6,31,1,46,47,48,8,7,0,59,61,60,62,10,9,67,11,87,12,14,13,98,118,123,124,125,15,17,16,142,4] [⟨some 73,none,.mv (.t 5)⟩,⟨some 74,none,.mv (.t 11)⟩,⟨some 75,none,.fa 2 1 (.t 10)⟩,⟨some 76,none,.ld 1 false (.t 75)⟩,⟨some 77,none,.call 11 true [((.t 76),.v),((.c (.lit .i64 512)),.v)]⟩,⟨some 78,none,.call 10 false [((.t 73),.v),((.t 74),.v),((.t 77),.b (.i .u8))]⟩,⟨some 12,none,.mv (.t 78)⟩])
   (.seq (.reg [5,6,31,1,46,47,48,8,7,0,59,61,60,62,10,9,67,11,87,12,14,13,98,118,123,124,125,15,17,16,142,4] [⟨some 80,none,.mv (.t 5)⟩,⟨some 81,none,.mv (.t 11)⟩,⟨some 82,none,.call 13 false [((.t 80),.v),((.t 81),.v)]⟩,⟨some 79,none,.mv (.t 82)⟩,⟨some 83,none,.ext 0 (.t 79)⟩,⟨some 84,none,.ext 1 (.t 79)⟩,⟨some 13,none,.mv (.t 83)⟩,⟨some 14,none,.mv (.t 84)⟩])
   (.seq (.seq (.reg [5,6,31,1,46,47,48,8,7,0,59,61,60,62,10,9,67,11,87,12,14,13,98,118,123,124,125,15,17,16,142,4] [⟨some 85,none,.mv (.t 11)⟩,⟨some 86,none,.mv (.t 1)⟩,⟨some 87,none,.cmp .eql (.t 85) (.t 86)⟩])
   (.cond (.t 87)
     (.seq (.seq (.reg [5,6,31,1,46,47,48,8,7,0,59,61,60,62,10,9,67,11,87,12,14,13,98,118,123,124,125,15,17,16,142,4] [⟨some 88,none,.mv (.t 12)⟩,⟨some 89,none,.cmp .neq (.t 88) (.c (.lit .i64 11))⟩,⟨some 90,none,.mv (.t 89)⟩,⟨some 91,some (90,false),.mv (.t 14)⟩,⟨some 92,some (90,false),.cmp .neq (.t 91) (.c (.lit .i64 11))⟩,⟨some 93,none,.pick (.t 90) (.c .tt) (.t 92)⟩,⟨some 94,none,.mv (.t 93)⟩,⟨some 95,some (94,false),.mv (.t 13)⟩,⟨some 96,some (94,false),.lenS (.t 95)⟩,⟨some 97,some (94,false),.cmp .neq (.t 96) (.c (.lit .i64 0))⟩,⟨some 98,none,.pick (.t 94) (.c .tt) (.t 97)⟩])
     (.cond (.t 98)
       (.seq (.reg [5,6,31,1,46,47,48,8,7,0,59,61,60,62,10,9,67,11,87,12,14,13,98,118,123,124,125,15,17,16,142,4] [⟨some 4,none,.mv (.c .ff)⟩])
       .ret)
       .skip))
     (.exit 3))
     .skip))
   (.seq (.reg [5,6,31,1,46,47,48,8,7,0,59,61,60,62,10,9,67,11,87,12,14,13,98,118,123,124,125,15,17,16,142,4] [⟨some 99,none,.mv (.t 11)⟩,⟨some 100,none,.fa 2 1 (.t 10)⟩,⟨some 101,none,.ld 1 false (.t 100)⟩,⟨some 102,none,.call 11 true [((.t 101),.v),((.c (.lit .i64 512)),.v)]⟩,⟨some 103,none,.b2s (.t 102)⟩,⟨some 104,none,.iaA 5 1 (.t 7) (.t 99)⟩,⟨none,none,.st 1 (.t 104) (.t 103)⟩])
   (.seq (.dreg [5,6,31,1,46,47,48,8,7,0,59,61,60,62,10,9,67,11,87,12,14,13,98,118,123,124,125,15,17,16,142,4] [⟨⟨some 105,none,.mv (.t 12)⟩,[],[],none⟩,⟨⟨some 106,none,.cmp .neq (.t 105) (.c (.lit .i64 0))⟩,[],[],none⟩,⟨⟨some 107,none,.mv (.t 106)⟩,[],[],none⟩,⟨⟨some 108,some (107,false),.mv (.t 14)⟩,[],[],none⟩,⟨⟨some 109,some (107,false),.cmp .neq (.t 108) (.c (.lit .i64 0))⟩,[],[],none⟩,⟨⟨some 110,none,.pick (.t 107) (.c .tt) (.t 109)⟩,[],[],none⟩,⟨⟨some 111,none,.mv (.t 110)⟩,[],[],none⟩,⟨⟨some 112,some (111,false),.mv (.t 13)⟩,[],[],none⟩,⟨⟨some 113,some (111,false),.b2s (.t 112)⟩,[],[],none⟩,⟨⟨some 114,some (111,false),.mv (.t 11)⟩,[],[],none⟩,⟨⟨some 115,some (111,false),.iaA 5 1 (.t 7) (.t 114)⟩,[],[],none⟩,⟨⟨some 116,some (111,false),.ld 1 false (.t 115)⟩,[],[],none⟩,⟨⟨some 117,some (111,false),.eq .s true (.t 113) (.t 116)⟩,[],[],none⟩,⟨⟨some 118,none,.pick (.t 111) (.c .tt) (.t 117)⟩,[],[],none⟩])
   (.cond (.t 118)
     (.seq (.reg [5,6,31,1,46,47,48,8,7,0,59,61,60,62,10,9,67,11,87,12,14,13,98,118,123,124,125,15,17,16,142,4] [⟨some 4,none,.mv (.c .ff)⟩])
     .ret)
     .skip))))))))))
   (.reg [5,6,31,1,46,47,48,8,7,0,59,61,60,62,10,9,67,11,87,12,14,13,98,118,123,124,125,15,17,16,142,4] [⟨some 119,none,.ar .add .i64 (.t 61) (.c (.lit .i64 1))⟩,⟨some 61,none,.mv (.t 119)⟩])))))))
  (.seq (.seq (.reg [5,6,31,1,46,47,48,8,7,0,59,61,60,62,10,9,67,11,87,12,14,13,98,118,123,124,125,15,17,16,142,4] [⟨some 120,none,.mv (.t 5)⟩,⟨some 121,none,.mv (.t 1)⟩,⟨some 122,none,.call 12 false [((.t 120),.v),((.t 121),.v),((.c .ff),.v),((.c .ff),.v)]⟩,⟨some 123,none,.cmp .neq (.t 122) (.c (.lit .i64 0))⟩])
  (.cond (.t 123)
    (.seq (.reg [5,6,31,1,46,47,48,8,7,0,59,61,60,62,10,9,67,11,87,12,14,13,98,118,123,124,125,15,17,16,142,4] [⟨some 4,none,.mv (.c .ff)⟩])
    .ret)
    .skip))
  (.seq (.seq (.reg [5,6,31,1,46,47,48,8,7,0,59,61,60,62,10,9,67,11,87,12,14,13,98,118,123,124,125,15,17,16,142,4] [⟨some 124,none,.mv (.c (.lit .i64 0))⟩])
  (.block 4 (.loop 2 (.seq (.reg [5,6,31,1,46,47,48,8,7,0,59,61,60,62,10,9,67,11,87,12,14,13,98,118,123,124,125,15,17,16,142,4] [⟨some 125,none,.cmp .lss (.t 124) (.c (.lit .i64 5))⟩])
   (.seq (.cond (.t 125)
     .skip
     (.exit 4))
   (.seq (.block 5 (.seq (.reg [5,6,31,1,46,47,48,8,7,0,59,61,60,62,10,9,67,11,87,12,14,13,98,118,123,124,125,15,17,16,142,4] [⟨some 126,none,.mv (.t 124)⟩,⟨some 15,none,.mv (.t 126)⟩])
   (.seq (.reg [5,6,31,1,46,47,48,8,7,0,59,61,60,62,10,9,67,11,87,12,14,13,98,118,123,124,125,15,17,16,142,4] [⟨some 128,none,.mv (.t 5)⟩,⟨some 129,none,.mv (.t 15)⟩,⟨some 130,none,.call 13 false [((.t 128),.v),((.t 129),.v)]⟩,⟨some 127,none,.mv (.t 130)⟩,⟨some 131,none,.ext 0 (.t 127)⟩,⟨some 132,none,.ext 1 (.t 127)⟩,⟨some 16,none,.mv (.t 131)⟩,⟨some 17,none,.mv (.t 132)⟩])
   (.seq (.dreg [5,6,31,1,46,47,48,8,7,0,59,61,60,62,10,9,67,11,87,12,14,13,98,118,123,124,125,15,17,16,142,4] [⟨⟨some 133,none,.mv (.t 17)⟩,[],[],none⟩,⟨⟨some 134,none,.cmp .neq (.t 133) (.c (.lit .i64 0))⟩,[],[],none⟩,⟨⟨some 135,none,.mv (.t 134)⟩,[],[],none⟩,⟨⟨some 136,some (135,false),.mv (.t 16)⟩,[],[],none⟩,⟨⟨some 137,some (135,false),.b2s (.t 136)⟩,[],[],none⟩,⟨⟨some 138,some (135,false),.mv (.t 15)⟩,[],[],none⟩,⟨⟨some 139,some (135,false),.iaA 5 1 (.t 7) (.t 138)⟩,[],[],none⟩,⟨⟨some 140,some (135,false),.ld 1 false (.t 139)⟩,[],[],none⟩,⟨⟨some 141,some (135,false),.eq .s true (.t 137) (.t 140)⟩,[],[],none⟩,⟨⟨some 142,none,.pick (.t 135) (.c .tt) (.t 141)⟩,[],[],none⟩])
   (.cond (.t 142)
     (.seq (.reg [5,6,31,1,46,47,48,8,7,0,59,61,60,62,10,9,67,11,87,12,14,13,98,118,123,124,125,15,17,16,142,4] [⟨some 4,none,.mv (.c .ff)⟩])
     .ret)
     .skip)))))
   (.reg [5,6,31,1,46,47,48,8,7,0,59,61,60,62,10,9,67,11,87,12,14,13,98,118,123,124,125,15,17,16,142,4] [⟨some 143,none,.ar .add .i64 (.t 124) (.c (.lit .i64 1))⟩,⟨some 124,none,.mv (.t 143)⟩])))))))
  (.seq (.reg [5,6,31,1,46,47,48,8,7,0,59,61,60,62,10,9,67,11,87,12,14,13,98,118,123,124,125,15,17,16,142,4] [⟨some 4,none,.mv (.c .tt)⟩])
  .ret))))))))))))⟩
def ic5 : IFn := ⟨3,146,[.t 6],
  (.seq (.reg [7,8,34,35,36,10,9,0,43,45,44,46,12,11,51,13,63,73,1,74,76,75,77,16,15,82,17,95,14,2,107,108,109,18,20,19,144,6] [⟨some 6,none,.mv (.c .ff)⟩])
  (.seq (.reg [7,8,34,35,36,10,9,0,43,45,44,46,12,11,51,13,63,73,1,74,76,75,77,16,15,82,17,95,14,2,107,108,109,18,20,19,144,6] [⟨some 22,none,.call 8 true [((.c (.lit .i64 8)),.v),((.c (.lit .u64 0)),.v),((.c (.lit .u64 0)),.v)]⟩,⟨some 21,none,.mv (.t 22)⟩,⟨some 23,none,.ext 0 (.t 21)⟩,⟨some 24,none,.ext 1 (.t 21)⟩,⟨some 7,none,.mv (.t 23)⟩,⟨some 8,none,.mv (.t 24)⟩])
  (.seq (.seq (.reg [7,8,34,35,36,10,9,0,43,45,44,46,12,11,51,13,63,73,1,74,76,75,77,16,15,82,17,95,14,2,107,108,109,18,20,19,144,6] [⟨some 25,none,.mv (.t 7)⟩,⟨some 26,none,.eq .p false (.t 25) (.c .nilp)⟩,⟨some 27,none,.mv (.t 26)⟩,⟨some 28,some (27,false),.mv (.t 8)⟩,⟨some 29,some (27,false),.cmp .neq (.t 28) (.c (.lit .i64 0))⟩,⟨some 30,none,.pick (.t 27) (.c .tt) (.t 29)⟩,⟨some 31,none,.mv (.t 30)⟩,⟨some 32,some (31,false),.call 9 true []⟩,⟨some 33,some (31,false),.not (.t 32)⟩,⟨some 34,none,.pick (.t 31) (.c .tt) (.t 33)⟩])
  (.cond (.t 34)
    (.seq (.reg [7,8,34,35,36,10,9,0,43,45,44,46,12,11,51,13,63,73,1,74,76,75,77,16,15,82,17,95,14,2,107,108,109,18,20,19,144,6] [⟨some 6,none,.mv (.c .ff)⟩])
    .ret)
    .skip))
  (.seq (.reg [7,8,34,35,36,10,9,0,43,45,44,46,12,11,51,13,63,73,1,74,76,75,77,16,15,82,17,95,14,2,107,108,109,18,20,19,144,6] [⟨some 9,none,.alloc (.rows 1 8 (.v (.str [])))⟩])
  (.seq (.seq (.reg [7,8,34,35,36,10,9,0,43,45,44,46,12,11,51,13,63,73,1,74,76,75,77,16,15,82,17,95,14,2,107,108,109,18,20,19,144,6] [⟨some 35,none,.mv (.c (.lit .i64 0))⟩])
  (.block 0 (.loop 0 (.seq (.reg [7,8,34,35,36,10,9,0,43,45,44,46,12,11,51,13,63,73,1,74,76,75,77,16,15,82,17,95,14,2,107,108,109,18,20,19,144,6] [⟨some 36,none,.cmp .lss (.t 35) (.c (.lit .i64 8))⟩])
   (.seq (.cond (.t 36)
     .skip
     (.exit 0))
   (.seq (.block 1 (.seq (.reg [7,8,34,35,36,10,9,0,43,45,44,46,12,11,51,13,63,73,1,74,76,75,77,16,15,82,17,95,14,2,107,108,109,18,20,19,144,6] [⟨some 37,none,.mv (.t 35)⟩,⟨some 10,none,.mv (.t 37)⟩])
   (.reg [7,8,34,35,36,10,9,0,43,45,44,46,12,11,51,13,63,73,1,74,76,75,77,16,15,82,17,95,14,2,107,108,109,18,20,19,144,6] [⟨some 38,none,.mv (.t 10)⟩,⟨some 39,none,.mksF (.i .u8) 1 (.c (.lit .i64 512))⟩,⟨some 40,none,.b2s (.t 39)⟩,⟨some 41,none,.iaA 8 1 (.t 9) (.t 38)⟩,⟨none,none,.st 1 (.t 41) (.t 40)⟩])))
   (.reg [7,8,34,35,36,10,9,0,43,45,44,46,12,11,51,13,63,73,1,74,76,75,77,16,15,82,17,95,14,2,107,108,109,18,20,19,144,6] [⟨some 42,none,.ar .add .i64 (.t 35) (.c (.lit .i64 1))⟩,⟨some 35,none,.mv (.t 42)⟩])))))))
  (.seq (.seq (.reg [7,8,34,35,36,10,9,0,43,45,44,46,12,11,51,13,63,73,1,74,76,75,77,16,15,82,17,95,14,2,107,108,109,18,20,19,144,6] [⟨some 43,none,.mv (.t 0)⟩,⟨some 44,none,.lenS (.t 43)⟩,⟨some 45,none,.mv (.c (.lit .i64 0))⟩])
  (.block 2 (.loop 1 (.seq (.reg [7,8,34,35,36,10,9,0,43,45,44,46,12,11,51,13,63,73,1,74,76,75,77,16,15,82,17,95,14,2,107,108,109,18,20,19,144,6] [⟨some 46,none,.cmp .lss (.t 45) (.t 44)⟩])
   (.seq (.cond (.t 46)
     .skip
     (.exit 2))
   (.seq (.block 3 (.seq (.reg [7,8,34,35,36,10,9,0,43,45,44,46,12,11,51,13,63,73,1,74,76,75,77,16,15,82,17,95,14,2,107,108,109,18,20,19,144,6] [⟨some 47,none,.mv (.t 45)⟩,⟨some 48,none,.iaS 5 (.t 43) (.t 45)⟩,⟨some 49,none,.ld 5 true (.t 48)⟩,⟨some 12,none,.alloc (.cat 1 4 (.v (.lit .i64 0)) (.cat 1 3 (.v (.lit .i64 0)) (.cat 1 2 (.v (.lit .u8 0)) (.cat 1 1 (.v (.lit .u64 0)) (.v .ff)))))⟩,⟨some 11,none,.mv (.t 47)⟩,⟨none,none,.st 5 (.t 12) (.t 49)⟩])
   (.seq (.seq (.reg [7,8,34,35,36,10,9,0,43,45,44,46,12,11,51,13,63,73,1,74,76,75,77,16,15,82,17,95,14,2,107,108,109,18,20,19,144,6] [⟨some 50,none,.mv (.t 11)⟩,⟨some 51,none,.cmp .geq (.t 50) (.c (.lit .i64 100))⟩])
   (.cond (.t 51)
     (.exit 2)
     .skip))
   (.seq (.reg [7,8,34,35,36,10,9,0,43,45,44,46,12,11,51,13,63,73,1,74,76,75,77,16,15,82,17,95,14,2,107,108,109,18,20,19,144,6] [⟨some 52,none,.fa 1 1 (.t 12)⟩,⟨some 53,none,.ld 1 false (.t 52)⟩,⟨some 54,none,.cv .u64 (.t 53)⟩,⟨some 55,none,.ar .rem .u64 (.t 54) (.c (.lit .u64 8))⟩,⟨some 56,none,.cv .i64 (.t 55)⟩,⟨some 13,none,.mv (.t 56)⟩])
   (.seq (.seq (.reg [7,8,34,35,36,10,9,0,43,45,44,46,12,11,51,13,63,73,1,74,76,75,77,16,15,82,17,95,14,2,107,108,109,18,20,19,144,6] [⟨some 57,none,.mv (.t 7)⟩,⟨some 58,none,.mv (.t 13)⟩,⟨some 59,none,.fa 2 1 (.t 12)⟩,⟨some 60,none,.ld 1 false (.t 59)⟩,⟨some 61,none,.call 11 true [((.t 60),.v),((.c (.lit .i64 512)),.v)]⟩,⟨some 62,none,.call 10 false [((.t 57),.v),((.t 58),.v),((.t 61),.b (.i .u8))]⟩,⟨some 63,none,.cmp .neq (.t 62) (.c (.lit .i64 0))⟩])
   (.cond (.t 63)
     (.seq (.reg [7,8,34,35,36,10,9,0,43,45,44,46,12,11,51,13,63,73,1,74,76,75,77,16,15,82,17,95,14,2,107,108,109,18,20,19,144,6] [⟨some 6,none,.mv (.c .ff)⟩])
     .ret)
     .skip))
   (.reg [7,8,34,35,36,10,9,0,43,45,44,46,12,11,51,13,63,73,1,74,76,75,77,16,15,82,17,95,14,2,107,108,109,18,20,19,144,6] [⟨some 64,none,.mv (.t 13)⟩,⟨some 65,none,.fa 2 1 (.t 12)⟩,⟨some 66,none,.ld 1 false (.t 65)⟩,⟨some 67,none,.call 11 true [((.t 66),.v),((.c (.lit .i64 512)),.v)]⟩,⟨some 68,none,.b2s (.t 67)⟩,⟨some 69,none,.iaA 8 1 (.t 9) (.t 64)⟩,⟨none,none,.st 1 (.t 69) (.t 68)⟩]))))))
   (.reg [7,8,34,35,36,10,9,0,43,45,44,46,12,11,51,13,63,73,1,74,76,75,77,16,15,82,17,95,14,2,107,108,109,18,20,19,144,6] [⟨some 70,none,.ar .add .i64 (.t 45) (.c (.lit .i64 1))⟩,⟨some 45,none,.mv (.t 70)⟩])))))))
  (.seq (.seq (.reg [7,8,34,35,36,10,9,0,43,45,44,46,12,11,51,13,63,73,1,74,76,75,77,16,15,82,17,95,14,2,107,108,109,18,20,19,144,6] [⟨some 71,none,.mv (.t 7)⟩,⟨some 72,none,.call 17 false [((.t 71),.v)]⟩,⟨some 73,none,.cmp .neq (.t 72) (.c (.lit .i64 0))⟩])
  (.cond (.t 73)
    (.seq (.reg [7,8,34,35,36,10,9,0,43,45,44,46,12,11,51,13,63,73,1,74,76,75,77,16,15,82,17,95,14,2,107,108,109,18,20,19,144,6] [⟨some 6,none,.mv (.c .ff)⟩])
    .ret)
    .skip))
  (.seq (.reg [7,8,34,35,36,10,9,0,43,45,44,46,12,11,51,13,63,73,1,74,76,75,77,16,15,82,17,95,14,2,107,108,109,18,20,19,144,6] [⟨some 14,none,.alloc (.rows 1 8 (.v .ff))⟩])
  (.seq (.seq (.reg [7,8,34,35,36,10,9,0,43,45,44,46,12,11,51,13,63,73,1,74,76,75,77,16,15,82,17,95,14,2,107,108,109,18,20,19,144,6] [⟨some 74,none,.mv (.t 1)⟩,⟨some 75,none,.lenS (.t 74)⟩,⟨some 76,none,.mv (.c (.lit .i64 0))⟩])
  (.block 4 (.loop 2 (.seq (.reg [7,8,34,35,36,10,9,0,43,45,44,46,12,11,51,13,63,73,1,74,76,75,77,16,15,82,17,95,14,2,107,108,109,18,20,19,144,6] [⟨some 77,none,.cmp .lss (.t 76) (.t 75)⟩])
   (.seq (.cond (.t 77)
     .skip
     (.exit 4))
   (.seq (.block 5 (.seq (.reg [7,8,34,35,36,10,9,0,43,45,44,46,12,11,51,13,63,73,1,74,76,75,77,16,15,82,17,95,14,2,107,108,109,18,20,19,144,6] [⟨some 78,none,.mv (.t 76)⟩,⟨some 79,none,.iaS 5 (.t 74) (.t 76)⟩,⟨some 80,none,.ld 5 true (.t 79)⟩,⟨some 16,none,.alloc (.cat 1 4 (.v (.lit .i64 0)) (.cat 1 3 (.v (.lit .i64 0)) (.cat 1 2 (.v (.lit .u8 0)) (.cat 1 1 (.v (.lit .u64 0)) (.v .ff)))))⟩,⟨some 15,none,.mv (.t 78)⟩,⟨none,none,.st 5 (.t 16) (.t 80)⟩])
   (.seq (.seq (.reg [7,8,34,35,36,10,9,0,43,45,44,46,12,11,51,13,63,73,1,74,76,75,77,16,15,82,17,95,14,2,107,108,109,18,20,19,144,6] [⟨some 81,none,.mv (.t 15)⟩,⟨some 82,none,.cmp .geq (.t 81) (.c (.lit .i64 100))⟩])
   (.cond (.t 82)
     (.exit 4)
     .skip))
   (.seq (.reg [7,8,34,35,36,10,9,0,43,45,44,46,12,11,51,13,63,73,1,74,76,75,77,16,15,82,17,95,14,2,107,108,109,18,20,19,144,6] [⟨some 83,none,.fa 1 1 (.t 16)⟩,⟨some 84,none,.ld 1 false (.t 83)⟩,⟨some 85,none,.cv .u64 (.t 84)⟩,⟨some 86,none,.ar .rem .u64 (.t 85) (.c (.lit .u64 8))⟩,⟨some 87,none,.cv .i64 (.t 86)⟩,⟨some 17,none,.mv (.t 87)⟩])
   (.seq (.seq (.reg [7,8,34,35,36,10,9,0,43,45,44,46,12,11,51,13,63,73,1,74,76,75,77,16,15,82,17,95,14,2,107,108,109,18,20,19,144,6] [⟨some 88,none,.mv (.t 7)⟩,⟨some 89,none,.mv (.t 17)⟩,⟨some 90,none,.fa 2 1 (.t 16)⟩,⟨some 91,none,.ld 1 false (.t 90)⟩,⟨some 92,none,.ar .add .u8 (.t 91) (.c (.lit .u8 1))⟩,⟨some 93,none,.call 11 true [((.t 92),.v),((.c (.lit .i64 512)),.v)]⟩,⟨some 94,none,.call 10 false [((.t 88),.v),((.t 89),.v),((.t 93),.b (.i .u8))]⟩,⟨some 95,none,.cmp .neq (.t 94) (.c (.lit .i64 0))⟩])
   (.cond (.t 95)
     (.seq (.reg [7,8,34,35,36,10,9,0,43,45,44,46,12,11,51,13,63,73,1,74,76,75,77,16,15,82,17,95,14,2,107,108,109,18,20,19,144,6] [⟨some 6,none,.mv (.c .ff)⟩])
     .ret)
     .skip))
   (.reg [7,8,34,35,36,10,9,0,43,45,44,46,12,11,51,13,63,73,1,74,76,75,77,16,15,82,17,95,14,2,107,108,109,18,20,19,144,6] [⟨some 96,none,.mv (.t 17)⟩,⟨some 97,none,.iaA 8 1 (.t 14) (.t 96)⟩,⟨none,none,.st 1 (.t 97) (.c .tt)⟩]))))))
   (.reg [7,8,34,35,36,10,9,0,43,45,44,46,12,11,51,13,63,73,1,74,76,75,77,16,15,82,17,95,14,2,107,108,109,18,20,19,144,6] [⟨some 98,none,.ar .add .i64 (.t 76) (.c (.lit .i64 1))⟩,⟨some 76,none,.mv (.t 98)⟩])))))))
  (.seq (.seq (.reg [7,8,34,35,36,10,9,0,43,45,44,46,12,11,51,13,63,73,1,74,76,75,77,16,15,82,17,95,14,2,107,108,109,18,20,19,144,6] [⟨some 99,none,.mv (.t 7)⟩,⟨some 100,none,.mv (.t 2)⟩,⟨some 101,none,.call 15 false [((.t 99),.v),((.t 100),.v)]⟩,⟨some 102,none,.cmp .neq (.t 101) (.c (.lit .i64 0))⟩,⟨some 103,none,.mv (.t 102)⟩,⟨some 104,some (103,false),.mv (.t 7)⟩,⟨some 105,some (103,false),.call 16 false [((.t 104),.v)]⟩,⟨some 106,some (103,false),.cmp .neq (.t 105) (.c (.lit .i64 0))⟩,⟨some 107,none,.pick (.t 103) (.c .tt) (.t 106)⟩])
  (.cond (.t 107)
    (.seq (.reg [7,8,34,35,36,10,9,0,43,45,44,46,12,11,51,13,63,73,1,74,76,75,77,16,15,82,17,95,14,2,107,108,109,18,20,19,144,6] [⟨some 6,none,.mv (.c .ff)⟩])
    .ret)
    .skip))
  (.seq (.seq (.reg [7,8,34,35,36,10,9,0,43,45,44,46,12,11,51,13,63,73,1,74,76,75,77,16,15,82,17,95,14,2,107,108,109,18,20,19,144,6] [⟨some 108,none,.mv (.c (.lit .i64 0))⟩])
  (.block 6 (.loop 3 (.seq (.reg [7,8,34,35,36,10,9,0,43,45,44,46,12,11,51,13,63,73,1,74,76,75,77,16,15,82,17,95,14,2,107,108,109,18,20,19,144,6] [⟨some 109,none,.cmp .lss (.t 108) (.c (.lit .i64 8))⟩])
   (.seq (.cond (.t 109)
     .skip
     (.exit 6))
   (.seq (.block 7 (.seq (.reg [7,8,34,35,36,10,9,0,43,45,44,46,12,11,51,13,63,73,1,74,76,75,77,16,15,82,17,95,14,2,107,108,109,18,20,19,144,6] [⟨some 110,none,.mv (.t 108)⟩,⟨some 18,none,.mv (.t 110)⟩])
   (.seq (.reg [7,8,34,35,36,10,9,0,43,45,44,46,12,11,51,13,63,73,1,74,76,75,77,16,15,82,17,95,14,2,107,108,109,18,20,19,144,6] [⟨some 112,none,.mv (.t 7)⟩,⟨some 113,none,.mv (.t 18)⟩,⟨some 114,none,.call 13 false [((.t 112),.v),((.t 113),.v)]⟩,⟨some 111,none,.mv (.t 114)⟩,⟨some 115,none,.ext 0 (.t 111)⟩,⟨some 116,none,.ext 1 (.t 111)⟩,⟨some 19,none,.mv (.t 115)⟩,⟨some 20,none,.mv (.t 116)⟩])
   (.seq (.dreg [7,8,34,35,36,10,9,0,43,45,44,46,12,11,51,13,63,73,1,74,76,75,77,16,15,82,17,95,14,2,107,108,109,18,20,19,144,6] [⟨⟨some 117,none,.mv (.t 20)⟩,[],[],none⟩,⟨⟨some 118,none,.cmp .neq (.t 117) (.c (.lit .i64 0))⟩,[],[],none⟩,⟨⟨some 119,none,.mv (.t 118)⟩,[],[],none⟩,⟨⟨some 120,some (119,false),.mv (.t 18)⟩,[],[],none⟩,⟨⟨some 121,some (119,false),.iaA 8 1 (.t 14) (.t 120)⟩,[],[],none⟩,⟨⟨some 122,some (119,false),.ld 1 false (.t 121)⟩,[],[],none⟩,⟨⟨some 123,some (119,false),.not (.t 122)⟩,[],[],none⟩,⟨⟨some 124,some (119,false),.mv (.t 123)⟩,[],[],none⟩,⟨⟨some 125,some (124,true),.mv (.t 19)⟩,[],[],none⟩,⟨⟨some 126,some (124,true),.b2s (.t 125)⟩,[],[],none⟩,⟨⟨some 127,some (124,true),.mv (.t 18)⟩,[],[],none⟩,⟨⟨some 128,some (124,true),.iaA 8 1 (.t 9) (.t 127)⟩,[],[],none⟩,⟨⟨some 129,some (124,true),.ld 1 false (.t 128)⟩,[],[],none⟩,⟨⟨some 130,some (124,true),.eq .s true (.t 126) (.t 129)⟩,[],[],none⟩,⟨⟨some 131,some (119,false),.pick (.t 124) (.t 130) (.c .ff)⟩,[],[],none⟩,⟨⟨some 132,none,.pick (.t 119) (.c .tt) (.t 131)⟩,[],[],none⟩,⟨⟨some 133,none,.mv (.t 132)⟩,[],[],none⟩,⟨⟨some 134,some (133,false),.mv (.t 2)⟩,[],[],none⟩,⟨⟨some 135,some (133,false),.cmp .eql (.t 134) (.c (.lit .u64 0))⟩,[],[],none⟩,⟨⟨some 136,some (133,false),.mv (.t 135)⟩,[],[],none⟩,⟨⟨some 137,some (136,true),.mv (.t 19)⟩,[],[],none⟩,⟨⟨some 138,some (136,true),.b2s (.t 137)⟩,[],[],none⟩,⟨⟨some 139,some (136,true),.mv (.t 18)⟩,[],[],none⟩,⟨⟨some 140,some (136,true),.iaA 8 1 (.t 9) (.t 139)⟩,[],[],none⟩,⟨⟨some 141,some (136,true),.ld 1 false (.t 140)⟩,[],[],none⟩,⟨⟨some 142,some (136,true),.eq .s true (.t 138) (.t 141)⟩,[],[],none⟩,⟨⟨some 143,some (133,false),.pick (.t 136) (.t 142) (.c .ff)⟩,[],[],none⟩,⟨⟨some 144,none,.pick (.t 133) (.c .tt) (.t 143)⟩,[],[],none⟩])
   (.cond (.t 144)
     (.seq (.reg [7,8,34,35,36,10,9,0,43,45,44,46,12,11,51,13,63,73,1,74,76,75,77,16,15,82,17,95,14,2,107,108,109,18,20,19,144,6] [⟨some 6,none,.mv (.c .ff)⟩])
     .ret)
     .skip)))))
   (.reg [7,8,34,35,36,10,9,0,43,45,44,46,12,11,51,13,63,73,1,74,76,75,77,16,15,82,17,95,14,2,107,108,109,18,20,19,144,6] [⟨some 145,none,.ar .add .i64 (.t 108) (.c (.lit .i64 1))⟩,⟨some 108,none,.mv (.t 145)⟩])))))))
  (.seq (.reg [7,8,34,35,36,10,9,0,43,45,44,46,12,11,51,13,63,73,1,74,76,75,77,16,15,82,17,95,14,2,107,108,109,18,20,19,144,6] [⟨some 6,none,.mv (.c .tt)⟩])
  .ret))))))))))))⟩
def ic8 : IFn := ⟨3,46,[.t 6,.t 7],
  (.seq (.reg [0,1,2,22,32,31,33,8,6,7] [⟨some 6,none,.mv (.c .nilp)⟩,⟨some 7,none,.mv (.c (.lit .i64 0))⟩])
  (.seq (.seq (.reg [0,1,2,22,32,31,33,8,6,7] [⟨some 9,none,.mv (.t 0)⟩,⟨some 10,none,.cmp .lss (.t 9) (.c (.lit .i64 1))⟩,⟨some 11,none,.mv (.t 10)⟩,⟨some 12,some (11,false),.mv (.t 0)⟩,⟨some 13,some (11,false),.cmp .gtr (.t 12) (.c (.lit .i64 256))⟩,⟨some 14,none,.pick (.t 11) (.c .tt) (.t 13)⟩,⟨some 15,none,.mv (.t 14)⟩,⟨some 16,some (15,false),.mv (.t 1)⟩,⟨some 17,some (15,false),.cmp .gtr (.t 16) (.c (.lit .u64 281474976710655))⟩,⟨some 18,none,.pick (.t 15) (.c .tt) (.t 17)⟩,⟨some 19,none,.mv (.t 18)⟩,⟨some 20,some (19,false),.mv (.t 2)⟩,⟨some 21,some (19,false),.cmp .gtr (.t 20) (.c (.lit .u64 281474976710655))⟩,⟨some 22,none,.pick (.t 19) (.c .tt) (.t 21)⟩])
  (.cond (.t 22)
    (.seq (.reg [0,1,2,22,32,31,33,8,6,7] [⟨some 6,none,.mv (.c .nilp)⟩,⟨some 7,none,.mv (.c (.lit .i64 2))⟩])
    .ret)
    .skip))
  (.seq (.dreg [0,1,2,22,32,31,33,8,6,7] [⟨⟨some 23,none,.mv (.t 1)⟩,[26,28],[],none⟩,⟨⟨some 24,none,.mv (.t 2)⟩,[26,28],[],none⟩,⟨⟨some 25,none,.mv (.t 0)⟩,[28],[],none⟩,⟨⟨some 26,none,.mks (.o 1 (.v .ff)) 1 (.t 25)⟩,[28],[],none⟩,⟨⟨some 27,none,.mv (.t 0)⟩,[26],[],none⟩,⟨⟨some 28,none,.mks (.o 1 (.v .ff)) 1 (.t 27)⟩,[26],[],none⟩,⟨⟨some 29,none,.bldS (.cat 1 11 (.v .nsl) (.cat 1 10 (.v .nsl) (.cat 1 9 (.v .nsl) (.cat 1 8 (.v (.lit .u64 0)) (.cat 1 7 (.v (.lit .u64 0)) (.cat 1 6 (.v .ff) (.cat 3 3 (.cat 1 2 (.v .ff) (.cat 1 1 (.v (.lit .i64 0)) (.v (.lit .u64 0)))) (.cat 1 2 (.v .nsl) (.cat 1 1 (.v .nsl) (.v (.lit .i64 0))))))))))) [(3,1,(.t 23)),(4,1,(.t 24)),(9,1,(.t 26)),(10,1,(.t 28))]⟩,[],[],none⟩,⟨⟨some 30,none,.box (.t 29)⟩,[],[],none⟩,⟨⟨some 8,none,.mv (.t 30)⟩,[],[],none⟩])
  (.seq (.seq (.reg [0,1,2,22,32,31,33,8,6,7] [⟨some 31,none,.mv (.t 0)⟩,⟨some 32,none,.mv (.c (.lit .i64 0))⟩])
  (.block 0 (.loop 0 (.seq (.reg [0,1,2,22,32,31,33,8,6,7] [⟨some 33,none,.cmp .lss (.t 32) (.t 31)⟩])
   (.seq (.cond (.t 33)
     .skip
     (.exit 0))
   (.seq (.block 1 (.dreg [0,1,2,22,32,31,33,8,6,7] [⟨⟨some 34,none,.mv (.t 8)⟩,[40,41],[],none⟩,⟨⟨some 35,none,.mv (.t 8)⟩,[40],[],none⟩,⟨⟨some 36,none,.nck (.t 35)⟩,[40],[],none⟩,⟨⟨some 37,none,.fa 0 1 (.t 36)⟩,[40],[],none⟩,⟨⟨some 38,none,.ld 1 false (.t 37)⟩,[40],[],none⟩,⟨⟨some 39,none,.mksF (.i .u8) 1 (.c (.lit .i64 512))⟩,[],[],none⟩,⟨⟨some 40,none,.bsl (.o 1 (.v .nsl)) 1 [(0,(.t 39))]⟩,[],[],none⟩,⟨⟨some 41,none,.app (.o 1 (.v .nsl)) 24 (.t 38) (.t 40)⟩,[],[],none⟩,⟨⟨some 42,none,.nck (.t 34)⟩,[],[],none⟩,⟨⟨some 43,none,.fa 0 1 (.t 42)⟩,[],[],none⟩,⟨⟨none,none,.st 1 (.t 43) (.t 41)⟩,[],[],none⟩]))
   (.reg [0,1,2,22,32,31,33,8,6,7] [⟨some 44,none,.ar .add .i64 (.t 32) (.c (.lit .i64 1))⟩,⟨some 32,none,.mv (.t 44)⟩])))))))
  (.seq (.reg [0,1,2,22,32,31,33,8,6,7] [⟨some 45,none,.mv (.t 8)⟩,⟨some 6,none,.mv (.t 45)⟩,⟨some 7,none,.mv (.c (.lit .i64 0))⟩])
  .ret)))))⟩
def ic9 : IFn := ⟨0,48,[.t 0],
  (.seq (.reg [1,2,34,0] [⟨some 0,none,.mv (.c .ff)⟩])
  (.seq (.reg [1,2,34,0] [⟨some 4,none,.call 8 true [((.c (.lit .i64 2)),.v),((.c (.lit .u64 0)),.v),((.c (.lit .u64 0)),.v)]⟩,⟨some 3,none,.mv (.t 4)⟩,⟨some 5,none,.ext 0 (.t 3)⟩,⟨some 6,none,.ext 1 (.t 3)⟩,⟨some 1,none,.mv (.t 5)⟩,⟨some 2,none,.mv (.t 6)⟩])
  (.seq (.seq (.reg [1,2,34,0] [⟨some 7,none,.mv (.t 1)⟩,⟨some 8,none,.eq .p false (.t 7) (.c .nilp)⟩,⟨some 9,none,.mv (.t 8)⟩,⟨some 10,some (9,false),.mv (.t 2)⟩,⟨some 11,some (9,false),.cmp .neq (.t 10) (.c (.lit .i64 0))⟩,⟨some 12,none,.pick (.t 9) (.c .tt) (.t 11)⟩,⟨some 13,none,.mv (.t 12)⟩,⟨some 14,some (13,false),.mv (.t 1)⟩,⟨some 15,some (13,false),.mks (.i .u8) 1 (.c (.lit .i64 512))⟩,⟨some 16,some (13,false),.call 10 false [((.t 14),.v),((.c (.lit .i64 0)),.v),((.t 15),.b (.i .u8))]⟩,⟨some 17,some (13,false),.cmp .neq (.t 16) (.c (.lit .i64 0))⟩,⟨some 18,none,.pick (.t 13) (.c .tt) (.t 17)⟩,⟨some 19,none,.mv (.t 18)⟩,⟨some 20,some (19,false),.mv (.t 1)⟩,⟨some 21,some (19,false),.mks (.i .u8) 1 (.c (.lit .i64 511))⟩,⟨some 22,some (19,false),.call 10 false [((.t 20),.v),((.c (.lit .i64 0)),.v),((.t 21),.b (.i .u8))]⟩,⟨some 23,some (19,false),.cmp .neq (.t 22) (.c (.lit .i64 3))⟩,⟨some 24,none,.pick (.t 19) (.c .tt) (.t 23)⟩,⟨some 25,none,.mv (.t 24)⟩,⟨some 26,some (25,false),.mv (.t 1)⟩,⟨some 27,some (25,false),.call 27 false [((.t 26),.v),((.c (.lit .u64 5)),.v)]⟩,⟨some 28,some (25,false),.cmp .neq (.t 27) (.c (.lit .i64 0))⟩,⟨some 29,none,.pick (.t 25) (.c .tt) (.t 28)⟩,⟨some 30,none,.mv (.t 29)⟩,⟨some 31,some (30,false),.mv (.t 1)⟩,⟨some 32,some (30,false),.call 27 false [((.t 31),.v),((.c (.lit .u64 5)),.v)]⟩,⟨some 33,some (30,false),.cmp .neq (.t 32) (.c (.lit .i64 16))⟩,⟨some 34,none,.pick (.t 30) (.c .tt) (.t 33)⟩])
  (.cond (.t 34)
    (.seq (.reg [1,2,34,0] [⟨some 0,none,.mv (.c .ff)⟩])
    .ret)
    .skip))
  (.seq (.reg [1,2,34,0] [⟨some 35,none,.mv (.t 1)⟩,⟨some 36,none,.call 19 false [((.t 35),.v)]⟩,⟨some 37,none,.cmp .eql (.t 36) (.c (.lit .i64 2))⟩,⟨some 38,none,.mv (.t 37)⟩,⟨some 39,none,.pick (.t 38) (.c .tt) (.c .ff)⟩,⟨some 40,none,.mv (.t 39)⟩,⟨some 41,none,.pick (.t 40) (.c .tt) (.c .ff)⟩,⟨some 42,none,.mv (.t 41)⟩,⟨some 43,none,.pick (.t 42) (.c .tt) (.c .ff)⟩,⟨some 44,none,.mv (.t 43)⟩,⟨some 45,none,.pick (.t 44) (.c .tt) (.c .ff)⟩,⟨some 46,none,.mv (.t 45)⟩,⟨some 47,none,.pick (.t 46) (.c .tt) (.c .ff)⟩,⟨some 0,none,.mv (.t 47)⟩])
  .ret))))⟩
def ic10 : IFn := ⟨3,61,[.t 6],
  (.seq (.reg [0,7,12,1,14,2,19,8,26,34,6] [⟨some 6,none,.mv (.c (.lit .i64 0))⟩])
  (.seq (.seq (.reg [0,7,12,1,14,2,19,8,26,34,6] [⟨some 9,none,.mv (.t 0)⟩,⟨some 10,none,.call 30 false [((.t 9),.v)]⟩,⟨some 7,none,.mv (.t 10)⟩])
  (.seq (.reg [0,7,12,1,14,2,19,8,26,34,6] [⟨some 11,none,.mv (.t 7)⟩,⟨some 12,none,.cmp .neq (.t 11) (.c (.lit .i64 0))⟩])
  (.cond (.t 12)
    (.seq (.reg [0,7,12,1,14,2,19,8,26,34,6] [⟨some 13,none,.mv (.t 7)⟩,⟨some 6,none,.mv (.t 13)⟩])
    .ret)
    .skip)))
  (.seq (.block 0 (.seq (.reg [0,7,12,1,14,2,19,8,26,34,6] [⟨some 15,none,.mv (.t 0)⟩,⟨some 16,none,.mv (.t 1)⟩,⟨some 17,none,.call 31 false [((.t 15),.v),((.t 16),.v)]⟩,⟨some 18,none,.not (.t 17)⟩,⟨some 14,none,.mv (.t 18)⟩])
  (.cond (.t 14)
    (.seq (.reg [0,7,12,1,14,2,19,8,26,34,6] [⟨some 6,none,.mv (.c (.lit .i64 2))⟩])
    .ret)
    (.seq (.reg [0,7,12,1,14,2,19,8,26,34,6] [⟨some 20,none,.mv (.t 2)⟩,⟨some 21,none,.lenS (.t 20)⟩,⟨some 22,none,.cmp .neq (.t 21) (.c (.lit .i64 512))⟩,⟨some 19,none,.mv (.t 22)⟩])
    (.cond (.t 19)
      (.seq (.reg [0,7,12,1,14,2,19,8,26,34,6] [⟨some 6,none,.mv (.c (.lit .i64 3))⟩])
      .ret)
      .skip)))))
  (.seq (.seq (.reg [0,7,12,1,14,2,19,8,26,34,6] [⟨some 23,none,.mv (.t 0)⟩,⟨some 24,none,.call 32 false [((.t 23),.v)]⟩,⟨some 8,none,.mv (.t 24)⟩])
  (.seq (.reg [0,7,12,1,14,2,19,8,26,34,6] [⟨some 25,none,.mv (.t 8)⟩,⟨some 26,none,.cmp .neq (.t 25) (.c (.lit .i64 0))⟩])
  (.cond (.t 26)
    (.seq (.reg [0,7,12,1,14,2,19,8,26,34,6] [⟨some 27,none,.mv (.t 8)⟩,⟨some 6,none,.mv (.t 27)⟩])
    .ret)
    .skip)))
  (.seq (.seq (.reg [0,7,12,1,14,2,19,8,26,34,6] [⟨some 28,none,.mv (.t 0)⟩,⟨some 29,none,.nck (.t 28)⟩,⟨some 30,none,.fa 10 1 (.t 29)⟩,⟨some 31,none,.ld 1 false (.t 30)⟩,⟨some 32,none,.mv (.t 1)⟩,⟨some 33,none,.iaS 1 (.t 31) (.t 32)⟩,⟨some 34,none,.ld 1 false (.t 33)⟩])
  (.cond (.t 34)
    (.seq (.reg [0,7,12,1,14,2,19,8,26,34,6] [⟨some 6,none,.mv (.c (.lit .i64 11))⟩])
    .ret)
    .skip))
  (.seq (.dreg [0,7,12,1,14,2,19,8,26,34,6] [⟨⟨some 35,none,.mv (.t 0)⟩,[42,10042,20042,30042,40042,50042,60042,70042,80042,90042,44,45],[],none⟩,⟨⟨some 36,none,.mv (.t 0)⟩,[42,10042,20042,30042,40042,50042,60042,70042,80042,90042,44],[],none⟩,⟨⟨some 37,none,.nck (.t 36)⟩,[42,10042,20042,30042,40042,50042,60042,70042,80042,90042,44],[],none⟩,⟨⟨some 38,none,.fa 1 1 (.t 37)⟩,[42,10042,20042,30042,40042,50042,60042,70042,80042,90042,44],[],none⟩,⟨⟨some 39,none,.ld 1 false (.t 38)⟩,[42,10042,20042,30042,40042,50042,60042,70042,80042,90042,44],[],none⟩,⟨⟨some 40,none,.mv (.t 1)⟩,[42,10042,20042,30042,40042,50042,60042,70042,80042,90042],[],none⟩,⟨⟨some 41,none,.mv (.t 2)⟩,[],[],none⟩,⟨⟨some 42,none,.call 33 true [((.t 41),.b (.i .u8))]⟩,[],[],none⟩,⟨⟨some 43,none,.bldS (.cat 1 1 (.v (.lit .i64 0)) (.v .nsl)) [(0,1,(.t 40)),(1,1,(.t 42))]⟩,[],[],none⟩,⟨⟨some 44,none,.bsl (.o 2 (.cat 1 1 (.v (.lit .i64 0)) (.v .nsl))) 1 [(0,(.t 43))]⟩,[],[],none⟩,⟨⟨some 45,none,.app (.o 2 (.cat 1 1 (.v (.lit .i64 0)) (.v .nsl))) 32 (.t 39) (.t 44)⟩,[],[],none⟩,⟨⟨some 46,none,.nck (.t 35)⟩,[],[],none⟩,⟨⟨some 47,none,.fa 1 1 (.t 46)⟩,[],[],none⟩,⟨⟨none,none,.st 1 (.t 47) (.t 45)⟩,[],[],none⟩])
  (.seq (.dreg [0,7,12,1,14,2,19,8,26,34,6] [⟨⟨some 48,none,.mv (.t 0)⟩,[55,10055,20055,30055,40055,50055,60055,70055,80055,90055,57,58],[],none⟩,⟨⟨some 49,none,.mv (.t 0)⟩,[55,10055,20055,30055,40055,50055,60055,70055,80055,90055,57],[],none⟩,⟨⟨some 50,none,.nck (.t 49)⟩,[55,10055,20055,30055,40055,50055,60055,70055,80055,90055,57],[],none⟩,⟨⟨some 51,none,.fa 2 1 (.t 50)⟩,[55,10055,20055,30055,40055,50055,60055,70055,80055,90055,57],[],none⟩,⟨⟨some 52,none,.ld 1 false (.t 51)⟩,[55,10055,20055,30055,40055,50055,60055,70055,80055,90055,57],[],none⟩,⟨⟨some 53,none,.mv (.t 1)⟩,[55,10055,20055,30055,40055,50055,60055,70055,80055,90055],[],none⟩,⟨⟨some 54,none,.mv (.t 2)⟩,[],[],none⟩,⟨⟨some 55,none,.call 33 true [((.t 54),.b (.i .u8))]⟩,[],[],none⟩,⟨⟨some 56,none,.bldS (.cat 1 1 (.v (.lit .i64 0)) (.v .nsl)) [(0,1,(.t 53)),(1,1,(.t 55))]⟩,[],[],none⟩,⟨⟨some 57,none,.bsl (.o 2 (.cat 1 1 (.v (.lit .i64 0)) (.v .nsl))) 1 [(0,(.t 56))]⟩,[],[],none⟩,⟨⟨some 58,none,.app (.o 2 (.cat 1 1 (.v (.lit .i64 0)) (.v .nsl))) 32 (.t 52) (.t 57)⟩,[],[],none⟩,⟨⟨some 59,none,.nck (.t 48)⟩,[],[],none⟩,⟨⟨some 60,none,.fa 2 1 (.t 59)⟩,[],[],none⟩,⟨⟨none,none,.st 1 (.t 60) (.t 58)⟩,[],[],none⟩])
  (.seq (.reg [0,7,12,1,14,2,19,8,26,34,6] [⟨some 6,none,.mv (.c (.lit .i64 0))⟩])
  .ret))))))))⟩
def ic11 : IFn := ⟨2,24,[.t 4],
  (.seq (.reg [1,5,11,10,12,6,0,4] [⟨some 4,none,.mv (.c .nsl)⟩])
  (.seq (.reg [1,5,11,10,12,6,0,4] [⟨some 7,none,.mv (.t 1)⟩,⟨some 8,none,.mks (.i .u8) 1 (.t 7)⟩,⟨some 5,none,.mv (.t 8)⟩])
  (.seq (.seq (.reg [1,5,11,10,12,6,0,4] [⟨some 9,none,.mv (.t 5)⟩,⟨some 10,none,.lenS (.t 9)⟩,⟨some 11,none,.mv (.c (.lit .i64 0))⟩])
  (.block 0 (.loop 0 (.seq (.reg [1,5,11,10,12,6,0,4] [⟨some 12,none,.cmp .lss (.t 11) (.t 10)⟩])
   (.seq (.cond (.t 12)
     .skip
     (.exit 0))
   (.seq (.block 1 (.seq (.reg [1,5,11,10,12,6,0,4] [⟨some 13,none,.mv (.t 11)⟩,⟨some 6,none,.mv (.t 13)⟩])
   (.reg [1,5,11,10,12,6,0,4] [⟨some 14,none,.mv (.t 5)⟩,⟨some 15,none,.mv (.t 6)⟩,⟨some 16,none,.mv (.t 0)⟩,⟨some 17,none,.mv (.t 6)⟩,⟨some 18,none,.ar .quo .i64 (.t 17) (.c (.lit .i64 100))⟩,⟨some 19,none,.cv .u8 (.t 18)⟩,⟨some 20,none,.ar .add .u8 (.t 16) (.t 19)⟩,⟨some 21,none,.iaS 1 (.t 14) (.t 15)⟩,⟨none,none,.st 1 (.t 21) (.t 20)⟩])))
   (.reg [1,5,11,10,12,6,0,4] [⟨some 22,none,.ar .add .i64 (.t 11) (.c (.lit .i64 1))⟩,⟨some 11,none,.mv (.t 22)⟩])))))))
  (.seq (.reg [1,5,11,10,12,6,0,4] [⟨some 23,none,.mv (.t 5)⟩,⟨some 4,none,.mv (.t 23)⟩])
  .ret))))⟩
def ic12 : IFn := ⟨4,31,[.t 8],
  (.seq (.reg [0,9,1,12,2,3,8] [⟨some 8,none,.mv (.c (.lit .i64 0))⟩])
  (.seq (.block 0 (.seq (.reg [0,9,1,12,2,3,8] [⟨some 10,none,.mv (.t 0)⟩,⟨some 11,none,.eq .p false (.t 10) (.c .nilp)⟩,⟨some 9,none,.mv (.t 11)⟩])
  (.cond (.t 9)
    (.seq (.reg [0,9,1,12,2,3,8] [⟨some 8,none,.mv (.c (.lit .i64 1))⟩])
    .ret)
    (.seq (.reg [0,9,1,12,2,3,8] [⟨some 13,none,.mv (.t 0)⟩,⟨some 14,none,.mv (.t 1)⟩,⟨some 15,none,.call 31 false [((.t 13),.v),((.t 14),.v)]⟩,⟨some 16,none,.not (.t 15)⟩,⟨some 12,none,.mv (.t 16)⟩])
    (.cond (.t 12)
      (.seq (.reg [0,9,1,12,2,3,8] [⟨some 8,none,.mv (.c (.lit .i64 2))⟩])
      .ret)
      .skip)))))
  (.seq (.dreg [0,9,1,12,2,3,8] [⟨⟨some 17,none,.mv (.t 0)⟩,[],[],none⟩,⟨⟨some 18,none,.nck (.t 17)⟩,[],[],none⟩,⟨⟨some 19,none,.fa 9 1 (.t 18)⟩,[],[],none⟩,⟨⟨some 20,none,.ld 1 false (.t 19)⟩,[],[],none⟩,⟨⟨some 21,none,.mv (.t 1)⟩,[],[],none⟩,⟨⟨some 22,none,.mv (.t 0)⟩,[],[],none⟩,⟨⟨some 23,none,.nck (.t 22)⟩,[],[],none⟩,⟨⟨some 24,none,.fa 10 1 (.t 23)⟩,[],[],none⟩,⟨⟨some 25,none,.ld 1 false (.t 24)⟩,[],[],none⟩,⟨⟨some 26,none,.mv (.t 1)⟩,[],[],none⟩,⟨⟨some 27,none,.mv (.t 2)⟩,[],[],none⟩,⟨⟨some 28,none,.mv (.t 3)⟩,[],[],none⟩,⟨⟨some 29,none,.iaS 1 (.t 20) (.t 21)⟩,[],[],none⟩,⟨⟨none,none,.st 1 (.t 29) (.t 27)⟩,[],[],none⟩,⟨⟨some 30,none,.iaS 1 (.t 25) (.t 26)⟩,[],[],none⟩,⟨⟨none,none,.st 1 (.t 30) (.t 28)⟩,[],[],none⟩])
  (.seq (.reg [0,9,1,12,2,3,8] [⟨some 8,none,.mv (.c (.lit .i64 0))⟩])
  .ret))))⟩
def ic13 : IFn := ⟨2,29,[.t 4,.t 5],
  (.seq (.reg [0,6,10,1,12,17,4,5] [⟨some 4,none,.mv (.c .nsl)⟩,⟨some 5,none,.mv (.c (.lit .i64 0))⟩])
  (.seq (.seq (.reg [0,6,10,1,12,17,4,5] [⟨some 7,none,.mv (.t 0)⟩,⟨some 8,none,.call 30 false [((.t 7),.v)]⟩,⟨some 6,none,.mv (.t 8)⟩])
  (.seq (.reg [0,6,10,1,12,17,4,5] [⟨some 9,none,.mv (.t 6)⟩,⟨some 10,none,.cmp .neq (.t 9) (.c (.lit .i64 0))⟩])
  (.cond (.t 10)
    (.seq (.reg [0,6,10,1,12,17,4,5] [⟨some 11,none,.mv (.t 6)⟩,⟨some 4,none,.mv (.c .nsl)⟩,⟨some 5,none,.mv (.t 11)⟩])
    .ret)
    .skip)))
  (.seq (.block 0 (.seq (.reg [0,6,10,1,12,17,4,5] [⟨some 13,none,.mv (.t 0)⟩,⟨some 14,none,.mv (.t 1)⟩,⟨some 15,none,.call 31 false [((.t 13),.v),((.t 14),.v)]⟩,⟨some 16,none,.not (.t 15)⟩,⟨some 12,none,.mv (.t 16)⟩])
  (.cond (.t 12)
    (.seq (.reg [0,6,10,1,12,17,4,5] [⟨some 4,none,.mv (.c .nsl)⟩,⟨some 5,none,.mv (.c (.lit .i64 2))⟩])
    .ret)
    (.seq (.reg [0,6,10,1,12,17,4,5] [⟨some 18,none,.mv (.t 0)⟩,⟨some 19,none,.nck (.t 18)⟩,⟨some 20,none,.fa 9 1 (.t 19)⟩,⟨some 21,none,.ld 1 false (.t 20)⟩,⟨some 22,none,.mv (.t 1)⟩,⟨some 23,none,.iaS 1 (.t 21) (.t 22)⟩,⟨some 24,none,.ld 1 false (.t 23)⟩,⟨some 17,none,.mv (.t 24)⟩])
    (.cond (.t 17)
      (.seq (.reg [0,6,10,1,12,17,4,5] [⟨some 4,none,.mv (.c .nsl)⟩,⟨some 5,none,.mv (.c (.lit .i64 11))⟩])
      .ret)
      .skip)))))
  (.seq (.reg [0,6,10,1,12,17,4,5] [⟨some 25,none,.mv (.t 0)⟩,⟨some 26,none,.mv (.t 1)⟩,⟨some 27,none,.call 34 false [((.t 25),.v),((.t 26),.v)]⟩,⟨some 28,none,.call 33 true [((.t 27),.b (.i .u8))]⟩,⟨some 4,none,.mv (.t 28)⟩,⟨some 5,none,.mv (.c (.lit .i64 0))⟩])
  .ret))))⟩
def ic14 : IFn := ⟨3,17,[.t 6],
  (.seq (.reg [0,8,1,2,6] [⟨some 6,none,.mv (.c (.lit .i64 0))⟩])
  (.seq (.seq (.reg [0,8,1,2,6] [⟨some 7,none,.mv (.t 0)⟩,⟨some 8,none,.eq .p false (.t 7) (.c .nilp)⟩])
  (.cond (.t 8)
    (.seq (.reg [0,8,1,2,6] [⟨some 6,none,.mv (.c (.lit .i64 1))⟩])
    .ret)
    .skip))
  (.seq (.reg [0,8,1,2,6] [⟨some 9,none,.mv (.t 0)⟩,⟨some 10,none,.mv (.t 1)⟩,⟨some 11,none,.cmp .geq (.t 10) (.c (.lit .i64 0))⟩,⟨some 12,none,.mv (.t 1)⟩,⟨some 13,none,.mv (.t 2)⟩,⟨some 14,none,.bldS (.cat 1 2 (.v .ff) (.cat 1 1 (.v (.lit .i64 0)) (.v (.lit .u64 0)))) [(0,1,(.t 11)),(1,1,(.t 12)),(2,1,(.t 13))]⟩,⟨some 15,none,.nck (.t 9)⟩,⟨some 16,none,.fa 6 3 (.t 15)⟩,⟨none,none,.st 3 (.t 16) (.t 14)⟩])
  (.seq (.reg [0,8,1,2,6] [⟨some 6,none,.mv (.c (.lit .i64 0))⟩])
  .ret))))⟩
def ic15 : IFn := ⟨2,15,[.t 4],
  (.seq (.reg [0,6,11,1,4] [⟨some 4,none,.mv (.c (.lit .i64 0))⟩])
  (.seq (.seq (.reg [0,6,11,1,4] [⟨some 5,none,.mv (.t 0)⟩,⟨some 6,none,.eq .p false (.t 5) (.c .nilp)⟩])
  (.cond (.t 6)
    (.seq (.reg [0,6,11,1,4] [⟨some 4,none,.mv (.c (.lit .i64 1))⟩])
    .ret)
    .skip))
  (.seq (.seq (.reg [0,6,11,1,4] [⟨some 7,none,.mv (.t 0)⟩,⟨some 8,none,.nck (.t 7)⟩,⟨some 9,none,.fa 5 1 (.t 8)⟩,⟨some 10,none,.ld 1 false (.t 9)⟩,⟨some 11,none,.not (.t 10)⟩])
  (.cond (.t 11)
    (.reg [0,6,11,1,4] [⟨some 12,none,.mv (.t 0)⟩,⟨some 13,none,.mv (.t 1)⟩,⟨some 14,none,.call 35 false [((.t 12),.v),((.t 13),.v)]⟩])
    .skip))
  (.seq (.reg [0,6,11,1,4] [⟨some 4,none,.mv (.c (.lit .i64 0))⟩])
  .ret))))⟩
def ic16 : IFn := ⟨1,8,[.t 2],
  (.seq (.reg [0,4,2] [⟨some 2,none,.mv (.c (.lit .i64 0))⟩])
  (.seq (.seq (.reg [0,4,2] [⟨some 3,none,.mv (.t 0)⟩,⟨some 4,none,.eq .p false (.t 3) (.c .nilp)⟩])
  (.cond (.t 4)
    (.seq (.reg [0,4,2] [⟨some 2,none,.mv (.c (.lit .i64 1))⟩])
    .ret)
    .skip))
  (.seq (.reg [0,4,2] [⟨some 5,none,.mv (.t 0)⟩,⟨some 6,none,.nck (.t 5)⟩,⟨some 7,none,.fa 5 1 (.t 6)⟩,⟨none,none,.st 1 (.t 7) (.c .ff)⟩])
  (.seq (.reg [0,4,2] [⟨some 2,none,.mv (.c (.lit .i64 0))⟩])
  .ret))))⟩
def ic17 : IFn := ⟨1,39,[.t 2],
  (.seq (.reg [0,3,10,4,15,20,22,21,23,6,2] [⟨some 2,none,.mv (.c (.lit .i64 0))⟩])
  (.seq (.seq (.reg [0,3,10,4,15,20,22,21,23,6,2] [⟨some 7,none,.mv (.t 0)⟩,⟨some 8,none,.call 30 false [((.t 7),.v)]⟩,⟨some 3,none,.mv (.t 8)⟩])
  (.seq (.reg [0,3,10,4,15,20,22,21,23,6,2] [⟨some 9,none,.mv (.t 3)⟩,⟨some 10,none,.cmp .neq (.t 9) (.c (.lit .i64 0))⟩])
  (.cond (.t 10)
    (.seq (.reg [0,3,10,4,15,20,22,21,23,6,2] [⟨some 11,none,.mv (.t 3)⟩,⟨some 2,none,.mv (.t 11)⟩])
    .ret)
    .skip)))
  (.seq (.seq (.reg [0,3,10,4,15,20,22,21,23,6,2] [⟨some 12,none,.mv (.t 0)⟩,⟨some 13,none,.call 32 false [((.t 12),.v)]⟩,⟨some 4,none,.mv (.t 13)⟩])
  (.seq (.reg [0,3,10,4,15,20,22,21,23,6,2] [⟨some 14,none,.mv (.t 4)⟩,⟨some 15,none,.cmp .neq (.t 14) (.c (.lit .i64 0))⟩])
  (.cond (.t 15)
    (.seq (.reg [0,3,10,4,15,20,22,21,23,6,2] [⟨some 16,none,.mv (.t 4)⟩,⟨some 2,none,.mv (.t 16)⟩])
    .ret)
    .skip)))
  (.seq (.seq (.reg [0,3,10,4,15,20,22,21,23,6,2] [⟨some 17,none,.mv (.t 0)⟩,⟨some 18,none,.nck (.t 17)⟩,⟨some 19,none,.fa 1 1 (.t 18)⟩,⟨some 20,none,.ld 1 false (.t 19)⟩,⟨some 21,none,.lenS (.t 20)⟩,⟨some 22,none,.mv (.c (.lit .i64 0))⟩])
  (.block 0 (.loop 0 (.seq (.reg [0,3,10,4,15,20,22,21,23,6,2] [⟨some 23,none,.cmp .lss (.t 22) (.t 21)⟩])
   (.seq (.cond (.t 23)
     .skip
     (.exit 0))
   (.seq (.block 1 (.seq (.reg [0,3,10,4,15,20,22,21,23,6,2] [⟨some 24,none,.iaS 2 (.t 20) (.t 22)⟩,⟨some 25,none,.ld 2 true (.t 24)⟩,⟨some 6,none,.alloc (.cat 1 1 (.v (.lit .i64 0)) (.v .nsl))⟩,⟨none,none,.st 2 (.t 6) (.t 25)⟩])
   (.dreg [0,3,10,4,15,20,22,21,23,6,2] [⟨⟨some 26,none,.mv (.t 0)⟩,[],[],none⟩,⟨⟨some 27,none,.nck (.t 26)⟩,[],[],none⟩,⟨⟨some 28,none,.fa 0 1 (.t 27)⟩,[],[],none⟩,⟨⟨some 29,none,.ld 1 false (.t 28)⟩,[],[],none⟩,⟨⟨some 30,none,.fa 0 1 (.t 6)⟩,[],[],none⟩,⟨⟨some 31,none,.ld 1 false (.t 30)⟩,[],[],none⟩,⟨⟨some 32,none,.fa 1 1 (.t 6)⟩,[],[],none⟩,⟨⟨some 33,none,.ld 1 false (.t 32)⟩,[],[],none⟩,⟨⟨some 34,none,.iaS 1 (.t 29) (.t 31)⟩,[],[],none⟩,⟨⟨none,none,.st 1 (.t 34) (.t 33)⟩,[],[],none⟩])))
   (.reg [0,3,10,4,15,20,22,21,23,6,2] [⟨some 35,none,.ar .add .i64 (.t 22) (.c (.lit .i64 1))⟩,⟨some 22,none,.mv (.t 35)⟩])))))))
  (.seq (.reg [0,3,10,4,15,20,22,21,23,6,2] [⟨some 36,none,.mv (.t 0)⟩,⟨some 37,none,.nck (.t 36)⟩,⟨some 38,none,.fa 1 1 (.t 37)⟩,⟨none,none,.st 1 (.t 38) (.c .nsl)⟩])
  (.seq (.reg [0,3,10,4,15,20,22,21,23,6,2] [⟨some 2,none,.mv (.c (.lit .i64 0))⟩])
  .ret))))))⟩
def ic19 : IFn := ⟨1,10,[.t 2],
  (.seq (.reg [0,4,2] [⟨some 2,none,.mv (.c (.lit .i64 0))⟩])
  (.seq (.seq (.reg [0,4,2] [⟨some 3,none,.mv (.t 0)⟩,⟨some 4,none,.eq .p false (.t 3) (.c .nilp)⟩])
  (.cond (.t 4)
    (.seq (.reg [0,4,2] [⟨some 2,none,.mv (.c (.lit .i64 0))⟩])
    .ret)
    .skip))
  (.seq (.reg [0,4,2] [⟨some 5,none,.mv (.t 0)⟩,⟨some 6,none,.nck (.t 5)⟩,⟨some 7,none,.fa 0 1 (.t 6)⟩,⟨some 8,none,.ld 1 false (.t 7)⟩,⟨some 9,none,.lenS (.t 8)⟩,⟨some 2,none,.mv (.t 9)⟩])
  .ret)))⟩
def ic27 : IFn := ⟨2,31,[.t 4],
  (.seq (.reg [0,5,10,1,21,6,25,4] [⟨some 4,none,.mv (.c (.lit .i64 0))⟩])
  (.seq (.seq (.reg [0,5,10,1,21,6,25,4] [⟨some 7,none,.mv (.t 0)⟩,⟨some 8,none,.call 30 false [((.t 7),.v)]⟩,⟨some 5,none,.mv (.t 8)⟩])
  (.seq (.reg [0,5,10,1,21,6,25,4] [⟨some 9,none,.mv (.t 5)⟩,⟨some 10,none,.cmp .neq (.t 9) (.c (.lit .i64 0))⟩])
  (.cond (.t 10)
    (.seq (.reg [0,5,10,1,21,6,25,4] [⟨some 11,none,.mv (.t 5)⟩,⟨some 4,none,.mv (.t 11)⟩])
    .ret)
    .skip)))
  (.seq (.seq (.reg [0,5,10,1,21,6,25,4] [⟨some 12,none,.mv (.t 1)⟩,⟨some 13,none,.mv (.t 0)⟩,⟨some 14,none,.nck (.t 13)⟩,⟨some 15,none,.fa 3 1 (.t 14)⟩,⟨some 16,none,.ld 1 false (.t 15)⟩,⟨some 17,none,.cmp .leq (.t 12) (.t 16)⟩,⟨some 18,none,.mv (.t 17)⟩,⟨some 19,some (18,false),.mv (.t 1)⟩,⟨some 20,some (18,false),.cmp .gtr (.t 19) (.c (.lit .u64 281474976710655))⟩,⟨some 21,none,.pick (.t 18) (.c .tt) (.t 20)⟩])
  (.cond (.t 21)
    (.seq (.reg [0,5,10,1,21,6,25,4] [⟨some 4,none,.mv (.c (.lit .i64 16))⟩])
    .ret)
    .skip))
  (.seq (.seq (.reg [0,5,10,1,21,6,25,4] [⟨some 22,none,.mv (.t 0)⟩,⟨some 23,none,.call 32 false [((.t 22),.v)]⟩,⟨some 6,none,.mv (.t 23)⟩])
  (.seq (.reg [0,5,10,1,21,6,25,4] [⟨some 24,none,.mv (.t 6)⟩,⟨some 25,none,.cmp .neq (.t 24) (.c (.lit .i64 0))⟩])
  (.cond (.t 25)
    (.seq (.reg [0,5,10,1,21,6,25,4] [⟨some 26,none,.mv (.t 6)⟩,⟨some 4,none,.mv (.t 26)⟩])
    .ret)
    .skip)))
  (.seq (.reg [0,5,10,1,21,6,25,4] [⟨some 27,none,.mv (.t 0)⟩,⟨some 28,none,.mv (.t 1)⟩,⟨some 29,none,.nck (.t 27)⟩,⟨some 30,none,.fa 3 1 (.t 29)⟩,⟨none,none,.st 1 (.t 30) (.t 28)⟩])
  (.seq (.reg [0,5,10,1,21,6,25,4] [⟨some 4,none,.mv (.c (.lit .i64 0))⟩])
  .ret))))))⟩
def ic30 : IFn := ⟨1,11,[.t 2],
  (.seq (.reg [0,3,6,2] [⟨some 2,none,.mv (.c (.lit .i64 0))⟩])
  (.seq (.block 0 (.seq (.reg [0,3,6,2] [⟨some 4,none,.mv (.t 0)⟩,⟨some 5,none,.eq .p false (.t 4) (.c .nilp)⟩,⟨some 3,none,.mv (.t 5)⟩])
  (.cond (.t 3)
    (.seq (.reg [0,3,6,2] [⟨some 2,none,.mv (.c (.lit .i64 1))⟩])
    .ret)
    (.seq (.reg [0,3,6,2] [⟨some 7,none,.mv (.t 0)⟩,⟨some 8,none,.nck (.t 7)⟩,⟨some 9,none,.fa 5 1 (.t 8)⟩,⟨some 10,none,.ld 1 false (.t 9)⟩,⟨some 6,none,.mv (.t 10)⟩])
    (.cond (.t 6)
      (.seq (.reg [0,3,6,2] [⟨some 2,none,.mv (.c (.lit .i64 10))⟩])
      .ret)
      .skip)))))
  (.seq (.reg [0,3,6,2] [⟨some 2,none,.mv (.c (.lit .i64 0))⟩])
  .ret)))⟩
def ic31 : IFn := ⟨2,16,[.t 4],
  (.seq (.reg [1,0,4] [⟨some 4,none,.mv (.c .ff)⟩])
  (.seq (.reg [1,0,4] [⟨some 5,none,.mv (.t 1)⟩,⟨some 6,none,.cmp .geq (.t 5) (.c (.lit .i64 0))⟩,⟨some 7,none,.mv (.t 6)⟩,⟨some 8,some (7,true),.mv (.t 1)⟩,⟨some 9,some (7,true),.mv (.t 0)⟩,⟨some 10,some (7,true),.nck (.t 9)⟩,⟨some 11,some (7,true),.fa 0 1 (.t 10)⟩,⟨some 12,some (7,true),.ld 1 false (.t 11)⟩,⟨some 13,some (7,true),.lenS (.t 12)⟩,⟨some 14,some (7,true),.cmp .lss (.t 8) (.t 13)⟩,⟨some 15,none,.pick (.t 7) (.t 14) (.c .ff)⟩,⟨some 4,none,.mv (.t 15)⟩])
  .ret))⟩
def ic32 : IFn := ⟨1,38,[.t 2],
  (.seq (.reg [0,15,21,2] [⟨some 2,none,.mv (.c (.lit .i64 0))⟩])
  (.seq (.reg [0,15,21,2] [⟨some 3,none,.mv (.t 0)⟩,⟨some 4,none,.nck (.t 3)⟩,⟨some 5,none,.fa 11 1 (.t 4)⟩,⟨some 6,none,.ld 1 false (.t 5)⟩,⟨some 7,none,.ar .add .i64 (.t 6) (.c (.lit .i64 1))⟩,⟨some 8,none,.nck (.t 3)⟩,⟨some 9,none,.fa 11 1 (.t 8)⟩,⟨none,none,.st 1 (.t 9) (.t 7)⟩])
  (.seq (.seq (.reg [0,15,21,2] [⟨some 10,none,.mv (.t 0)⟩,⟨some 11,none,.nck (.t 10)⟩,⟨some 12,none,.fa 6 3 (.t 11)⟩,⟨some 13,none,.fa 0 1 (.t 12)⟩,⟨some 14,none,.ld 1 false (.t 13)⟩,⟨some 15,none,.not (.t 14)⟩])
  (.cond (.t 15)
    (.seq (.reg [0,15,21,2] [⟨some 2,none,.mv (.c (.lit .i64 0))⟩])
    .ret)
    .skip))
  (.seq (.seq (.reg [0,15,21,2] [⟨some 16,none,.mv (.t 0)⟩,⟨some 17,none,.nck (.t 16)⟩,⟨some 18,none,.fa 6 3 (.t 17)⟩,⟨some 19,none,.fa 1 1 (.t 18)⟩,⟨some 20,none,.ld 1 false (.t 19)⟩,⟨some 21,none,.cmp .gtr (.t 20) (.c (.lit .i64 0))⟩])
  (.cond (.t 21)
    (.seq (.reg [0,15,21,2] [⟨some 22,none,.mv (.t 0)⟩,⟨some 23,none,.nck (.t 22)⟩,⟨some 24,none,.fa 6 3 (.t 23)⟩,⟨some 25,none,.fa 1 1 (.t 24)⟩,⟨some 26,none,.ld 1 false (.t 25)⟩,⟨some 27,none,.ar .sub .i64 (.t 26) (.c (.lit .i64 1))⟩,⟨some 28,none,.nck (.t 22)⟩,⟨some 29,none,.fa 6 3 (.t 28)⟩,⟨some 30,none,.fa 1 1 (.t 29)⟩,⟨none,none,.st 1 (.t 30) (.t 27)⟩])
    (.seq (.reg [0,15,21,2] [⟨some 2,none,.mv (.c (.lit .i64 0))⟩])
    .ret))
    .skip))
  (.seq (.reg [0,15,21,2] [⟨some 31,none,.mv (.t 0)⟩,⟨some 32,none,.mv (.t 0)⟩,⟨some 33,none,.nck (.t 32)⟩,⟨some 34,none,.fa 6 3 (.t 33)⟩,⟨some 35,none,.fa 2 1 (.t 34)⟩,⟨some 36,none,.ld 1 false (.t 35)⟩,⟨some 37,none,.call 35 false [((.t 31),.v),((.t 36),.v)]⟩])
  (.seq (.reg [0,15,21,2] [⟨some 2,none,.mv (.c (.lit .i64 10))⟩])
  .ret))))))⟩
def ic33 : IFn := ⟨1,8,[.t 2],
  (.seq (.reg [0,4,2] [⟨some 2,none,.mv (.c .nsl)⟩])
  (.seq (.seq (.reg [0,4,2] [⟨some 3,none,.mv (.t 0)⟩,⟨some 4,none,.eq .l false (.t 3) (.c .nsl)⟩])
  (.cond (.t 4)
    (.seq (.reg [0,4,2] [⟨some 2,none,.mv (.c .nsl)⟩])
    .ret)
    .skip))
  (.seq (.reg [0,4,2] [⟨some 5,none,.bsl (.i .u8) 0 []⟩,⟨some 6,none,.mv (.t 0)⟩,⟨some 7,none,.app0 (.i .u8) 1 (.t 5) (.t 6)⟩,⟨some 2,none,.mv (.t 7)⟩])
  .ret)))⟩
def ic34 : IFn := ⟨2,41,[.t 4],
  (.seq (.reg [0,5,13,1,25,4] [⟨some 4,none,.mv (.c .nsl)⟩])
  (.seq (.seq (.reg [0,5,13,1,25,4] [⟨some 6,none,.mv (.t 0)⟩,⟨some 7,none,.nck (.t 6)⟩,⟨some 8,none,.fa 1 1 (.t 7)⟩,⟨some 9,none,.ld 1 false (.t 8)⟩,⟨some 10,none,.lenS (.t 9)⟩,⟨some 11,none,.ar .sub .i64 (.t 10) (.c (.lit .i64 1))⟩,⟨some 5,none,.mv (.t 11)⟩])
  (.block 0 (.loop 0 (.seq (.seq (.reg [0,5,13,1,25,4] [⟨some 12,none,.mv (.t 5)⟩,⟨some 13,none,.cmp .geq (.t 12) (.c (.lit .i64 0))⟩])
   (.cond (.t 13)
     .skip
     (.exit 0)))
   (.seq (.block 1 (.seq (.reg [0,5,13,1,25,4] [⟨some 16,none,.mv (.t 0)⟩,⟨some 17,none,.nck (.t 16)⟩,⟨some 18,none,.fa 1 1 (.t 17)⟩,⟨some 19,none,.ld 1 false (.t 18)⟩,⟨some 20,none,.mv (.t 5)⟩,⟨some 21,none,.iaS 2 (.t 19) (.t 20)⟩,⟨some 22,none,.fa 0 1 (.t 21)⟩,⟨some 23,none,.ld 1 false (.t 22)⟩,⟨some 24,none,.mv (.t 1)⟩,⟨some 25,none,.cmp .eql (.t 23) (.t 24)⟩])
   (.cond (.t 25)
     (.seq (.reg [0,5,13,1,25,4] [⟨some 26,none,.mv (.t 0)⟩,⟨some 27,none,.nck (.t 26)⟩,⟨some 28,none,.fa 1 1 (.t 27)⟩,⟨some 29,none,.ld 1 false (.t 28)⟩,⟨some 30,none,.mv (.t 5)⟩,⟨some 31,none,.iaS 2 (.t 29) (.t 30)⟩,⟨some 32,none,.fa 1 1 (.t 31)⟩,⟨some 33,none,.ld 1 false (.t 32)⟩,⟨some 4,none,.mv (.t 33)⟩])
     .ret)
     .skip)))
   (.reg [0,5,13,1,25,4] [⟨some 14,none,.mv (.t 5)⟩,⟨some 15,none,.ar .sub .i64 (.t 14) (.c (.lit .i64 1))⟩,⟨some 5,none,.mv (.t 15)⟩]))))))
  (.seq (.reg [0,5,13,1,25,4] [⟨some 34,none,.mv (.t 0)⟩,⟨some 35,none,.nck (.t 34)⟩,⟨some 36,none,.fa 0 1 (.t 35)⟩,⟨some 37,none,.ld 1 false (.t 36)⟩,⟨some 38,none,.mv (.t 1)⟩,⟨some 39,none,.iaS 1 (.t 37) (.t 38)⟩,⟨some 40,none,.ld 1 false (.t 39)⟩,⟨some 4,none,.mv (.t 40)⟩])
  .ret)))⟩
def ic35 : IFn := ⟨2,42,[],
  (.seq (.seq (.reg [0,9,11,10,12,5,1,4,21] [⟨some 6,none,.mv (.t 0)⟩,⟨some 7,none,.nck (.t 6)⟩,⟨some 8,none,.fa 1 1 (.t 7)⟩,⟨some 9,none,.ld 1 false (.t 8)⟩,⟨some 10,none,.lenS (.t 9)⟩,⟨some 11,none,.mv (.c (.lit .i64 0))⟩])
  (.block 0 (.loop 0 (.seq (.reg [0,9,11,10,12,5,1,4,21] [⟨some 12,none,.cmp .lss (.t 11) (.t 10)⟩])
   (.seq (.cond (.t 12)
     .skip
     (.exit 0))
   (.seq (.block 1 (.seq (.reg [0,9,11,10,12,5,1,4,21] [⟨some 13,none,.mv (.t 11)⟩,⟨some 14,none,.iaS 2 (.t 9) (.t 11)⟩,⟨some 15,none,.ld 2 true (.t 14)⟩,⟨some 5,none,.alloc (.cat 1 1 (.v (.lit .i64 0)) (.v .nsl))⟩,⟨some 4,none,.mv (.t 13)⟩,⟨none,none,.st 2 (.t 5) (.t 15)⟩])
   (.seq (.reg [0,9,11,10,12,5,1,4,21] [⟨some 16,none,.mv (.t 1)⟩,⟨some 17,none,.mv (.t 4)⟩,⟨some 18,none,.ar .rem .i64 (.t 17) (.c (.lit .i64 64))⟩,⟨some 19,none,.shf .shr .u64 (.t 16) (.t 18)⟩,⟨some 20,none,.ar .and .u64 (.t 19) (.c (.lit .u64 1))⟩,⟨some 21,none,.cmp .eql (.t 20) (.c (.lit .u64 1))⟩])
   (.cond (.t 21)
     (.dreg [0,9,11,10,12,5,1,4,21] [⟨⟨some 22,none,.mv (.t 0)⟩,[],[],none⟩,⟨⟨some 23,none,.nck (.t 22)⟩,[],[],none⟩,⟨⟨some 24,none,.fa 0 1 (.t 23)⟩,[],[],none⟩,⟨⟨some 25,none,.ld 1 false (.t 24)⟩,[],[],none⟩,⟨⟨some 26,none,.fa 0 1 (.t 5)⟩,[],[],none⟩,⟨⟨some 27,none,.ld 1 false (.t 26)⟩,[],[],none⟩,⟨⟨some 28,none,.fa 1 1 (.t 5)⟩,[],[],none⟩,⟨⟨some 29,none,.ld 1 false (.t 28)⟩,[],[],none⟩,⟨⟨some 30,none,.iaS 1 (.t 25) (.t 27)⟩,[],[],none⟩,⟨⟨none,none,.st 1 (.t 30) (.t 29)⟩,[],[],none⟩])
     .skip))))
   (.reg [0,9,11,10,12,5,1,4,21] [⟨some 31,none,.ar .add .i64 (.t 11) (.c (.lit .i64 1))⟩,⟨some 11,none,.mv (.t 31)⟩])))))))
  (.reg [0,9,11,10,12,5,1,4,21] [⟨some 32,none,.mv (.t 0)⟩,⟨some 33,none,.mv (.t 0)⟩,⟨some 34,none,.mv (.t 0)⟩,⟨some 35,none,.bldS (.cat 1 2 (.v .ff) (.cat 1 1 (.v (.lit .i64 0)) (.v (.lit .u64 0)))) []⟩,⟨some 36,none,.nck (.t 32)⟩,⟨some 37,none,.fa 1 1 (.t 36)⟩,⟨none,none,.st 1 (.t 37) (.c .nsl)⟩,⟨some 38,none,.nck (.t 33)⟩,⟨some 39,none,.fa 6 3 (.t 38)⟩,⟨none,none,.st 3 (.t 39) (.t 35)⟩,⟨some 40,none,.nck (.t 34)⟩,⟨some 41,none,.fa 5 1 (.t 40)⟩,⟨none,none,.st 1 (.t 41) (.c .tt)⟩]))⟩
theorem ok3 : fnOk Try.prog 3 = true := by kernel_rfl
theorem co3 : comp Try.prog pu 3 = some ic3 := by kernel_rfl
theorem ok5 : fnOk Try.prog 5 = true := by kernel_rfl
theorem co5 : comp Try.prog pu 5 = some ic5 := by kernel_rfl
theorem ok8 : fnOk Try.prog 8 = true := by kernel_rfl
theorem co8 : comp Try.prog pu 8 = some ic8 := by kernel_rfl
theorem ok9 : fnOk Try.prog 9 = true := by kernel_rfl
theorem co9 : comp Try.prog pu 9 = some ic9 := by kernel_rfl
theorem ok10 : fnOk Try.prog 10 = true := by kernel_rfl
theorem co10 : comp Try.prog pu 10 = some ic10 := by kernel_rfl
theorem ok11 : fnOk Try.prog 11 = true := by kernel_rfl
theorem co11 : comp Try.prog pu 11 = some ic11 := by kernel_rfl
theorem ok12 : fnOk Try.prog 12 = true := by kernel_rfl
theorem co12 : comp Try.prog pu 12 = some ic12 := by kernel_rfl
theorem ok13 : fnOk Try.prog 13 = true := by kernel_rfl
theorem co13 : comp Try.prog pu 13 = some ic13 := by kernel_rfl
theorem ok14 : fnOk Try.prog 14 = true := by kernel_rfl
theorem co14 : comp Try.prog pu 14 = some ic14 := by kernel_rfl
theorem ok15 : fnOk Try.prog 15 = true := by kernel_rfl
theorem co15 : comp Try.prog pu 15 = some ic15 := by kernel_rfl
theorem ok16 : fnOk Try.prog 16 = true := by kernel_rfl
theorem co16 : comp Try.prog pu 16 = some ic16 := by kernel_rfl
theorem ok17 : fnOk Try.prog 17 = true := by kernel_rfl
theorem co17 : comp Try.prog pu 17 = some ic17 := by kernel_rfl
theorem ok19 : fnOk Try.prog 19 = true := by kernel_rfl
theorem co19 : comp Try.prog pu 19 = some ic19 := by kernel_rfl
theorem ok27 : fnOk Try.prog 27 = true := by kernel_rfl
theorem co27 : comp Try.prog pu 27 = some ic27 := by kernel_rfl
theorem ok30 : fnOk Try.prog 30 = true := by kernel_rfl
theorem co30 : comp Try.prog pu 30 = some ic30 := by kernel_rfl
theorem ok31 : fnOk Try.prog 31 = true := by kernel_rfl
theorem co31 : comp Try.prog pu 31 = some ic31 := by kernel_rfl
theorem ok32 : fnOk Try.prog 32 = true := by kernel_rfl
theorem co32 : comp Try.prog pu 32 = some ic32 := by kernel_rfl
theorem ok33 : fnOk Try.prog 33 = true := by kernel_rfl
theorem co33 : comp Try.prog pu 33 = some ic33 := by kernel_rfl
theorem ok34 : fnOk Try.prog 34 = true := by kernel_rfl
theorem co34 : comp Try.prog pu 34 = some ic34 := by kernel_rfl
theorem ok35 : fnOk Try.prog 35 = true := by kernel_rfl
theorem co35 : comp Try.prog pu 35 = some ic35 := by kernel_rfl
end Go.Cx.Rd
/- CxFrz -/
namespace Go.Cx
open Go
/-- one part of a result, its new rows told for good -/
def FrzV (news : List V) : V → V → Prop
  | .sl h p i n e _, v => p = [] ∧ i = 0 ∧ ∃ c, news[h]? = some c ∧ isRow e n c ∧ v = .dsl n e c
  | .tcons a b, v => ∃ a' b', v = .tcons a' b' ∧ FrzV news a a' ∧ FrzV news b b'
  | .nsl, v => v = .nsl ∨ ∃ k, v = .dsl 0 1 (.ints k 0 [])
  | v, v' => v.clo = true ∧ v' = v
def Frz (out out' : Out) : Prop := out.news.length ≤ 1000 ∧ out'.objs = out.objs ∧ out'.news = [] ∧ (∀ c ∈ out.news, c.clo = true ∧ c.noown = true) ∧ (∀ c ∈ out.objs, c.clo = true) ∧ FrzV out.news out.v out'.v
theorem outO_mem {b : Nat} {blk : Blk} : ∀ {args : List Arg} {objs : List V} {i : Nat}, (b, blk) ∈ outO i args objs → 100000 ≤ b ∧ blk.k = .own ∧ blk.c ∈ objs := by
  intro args
  induction args with
  | nil => intro objs i h; simp [outO] at h
  | cons a args ih =>
    intro objs i h
    cases a with
    | v _ => exact ih h
    | b _ _ _ => exact ih h
    | o _ _ =>
      cases objs with
      | nil => simp [outO] at h
      | cons c cs =>
        simp only [outO, List.mem_cons, Prod.mk.injEq] at h
        rcases h with ⟨rfl, rfl⟩ | h
        · exact ⟨by simp only [parH]; omega, rfl, by simp⟩
        · obtain ⟨h1, h2, h3⟩ := ih h
          exact ⟨h1, h2, List.mem_cons_of_mem _ h3⟩
theorem outN_at {b : Nat} {blk : Blk} : ∀ {news : List V} {i : Nat}, look (outN i news) b = some blk → i ≤ b ∧ ∃ c, news[b - i]? = some c ∧ blk = ⟨.own, c⟩ := by
  intro news
  induction news with
  | nil => intro i h; simp [outN, look] at h
  | cons c news ih =>
    intro i h
    simp only [outN, look] at h
    split at h
    · rename_i e
      subst e
      simp only [Option.some.injEq] at h
      exact ⟨Nat.le_refl _, c, by simp, h.symm⟩
    · obtain ⟨h1, c', h2, h3⟩ := ih h
      refine ⟨by omega, c', ?_, h3⟩
      rw [show b - i = (b - (i + 1)) + 1 by omega]
      simpa using h2
theorem outN_of {news : List V} {j : Nat} {c : V} (h : news[j]? = some c) : ∀ {i : Nat}, look (outN i news) (i + j) = some ⟨.own, c⟩ := by
  induction news generalizing j with
  | nil => simp at h
  | cons c0 news ih =>
    intro i
    simp only [outN, look]
    cases j with
    | zero =>
      simp at h
      subst h
      simp
    | succ j =>
      rw [if_neg (by omega)]
      have := ih (by simpa using h) (i := i + 1)
      rw [← this]; congr 1; omega
theorem look_app {α : Type} : ∀ {l m : List (Nat × α)} {k : Nat}, look (l ++ m) k = match look l k with | some a => some a | none => look m k := by
  intro l
  induction l with
  | nil => intro m k; rfl
  | cons p l ih =>
    intro m k
    obtain ⟨i, a⟩ := p
    simp only [List.cons_append, look]
    split
    · rfl
    · exact ih
theorem Sound.freezeOk {P : Program} {G : List (Nat × V)} {f : FuncId} {pure : Bool} {c c' : Ctr} (h : Sound P G f pure c) (hc : ∀ args out', okAs args → (c' args).to out' → ∃ out, (c args).to out ∧ Frz out out') : Sound P G f pure c' := by
  refine ⟨h.1, fun args out' vals w F I ρ ow h1 h2 h3 h4 h5 hR hV => ?_⟩
  have hokas : okAs args := okAs_of (i0 := 0) (all := args) (fun i a h => by rwa [Nat.zero_add]) h3 hR (fun i a hi => ⟨_, hV i a hi⟩) h4
  obtain ⟨out, g1, g0, g2, g3, g4, g5, g6⟩ := hc args out' hokas h1
  refine Calls.mono (h.2 args out vals w F I ρ ow g1 h2 h3 h4 h5 hR hV) ?_
  rintro en w' ⟨x, I', ρ', ow', rfl, hx, hR'⟩
  have hr0 : ∀ k l, ρ k = some l → 100000 ≤ k := fun k l hk => by
    rcases Nat.lt_or_ge k 100000 with h | h
    · exfalso
      apply hR.dom k l hk h
      show parHs G pure args k = none
      simp only [parHs]
      rw [if_neg (by omega), if_neg (by omega)]
    · exact h
  have hO : ∀ k blk, look (outO 0 args out.objs) k = some blk → 100000 ≤ k ∧ blk.k = .own ∧ blk.c ∈ out.objs := fun k blk hk => outO_mem (look_mem hk)
  have hlow : ∀ k, k < 100000 → outHs args out k = look (outN 0 out.news) k := fun k hk => by
    simp only [outHs, look_app]
    cases hq : look (outO 0 args out.objs) k with
    | none => rfl
    | some blk => have := (hO k blk hq).1; omega
  have hhigh : ∀ k, 100000 ≤ k → outHs args out k = look (outO 0 args out.objs) k := fun k hk => by
    simp only [outHs, look_app]
    cases hq : look (outO 0 args out.objs) k with
    | none =>
      cases hq2 : look (outN 0 out.news) k with
      | none => rfl
      | some blk =>
        obtain ⟨_, c, e, _⟩ := outN_at hq2
        have := (List.getElem?_eq_some_iff.1 e).1
        omega
    | some blk => rfl
  have hhs' : outHs args out' = look (outO 0 args out.objs) := by
    funext k
    simp only [outHs, g2, g3, outN, List.append_nil]
  let own' : Own := fun b => match ow' b with
    | some (k :: r) => if 100000 ≤ k then some (k :: r) else none
    | _ => none
  let I2 : Nat → Prop := fun b => I' b ∨ ∃ k, k < 100000 ∧ ow' b = some [k]
  let ρ2 : Rho := fun k => if k < 100000 then none else ρ' k
  have hII : ∀ b, I' b → I2 b ∧ w'.heap[b]? = w'.heap[b]? := fun b hb => ⟨.inl hb, rfl⟩
  have keepO : ∀ b k r, ow' b = some (k :: r) → 100000 ≤ k → own' b = some (k :: r) := fun b k r h1 h2 => by
    simp only [own', h1, h2, if_true]
  have hcell : ∀ k c, out.news[k]? = some c → ∀ {e n : Nat} {cap : Option Nat} {v : Value}, isRow e n c → CRep I' w' (fun _ => none) (.sl k [] 0 n e cap) ρ' [] 0 (fun _ => some v) →
      CRep I2 w' (fun _ => none) (.dsl n e c) ρ2 [] 0 (fun _ => some v) := by
    intro k c hk e n cap v hrow hv
    have hkl : k < 100000 := by have := (List.getElem?_eq_some_iff.1 hk).1; omega
    obtain ⟨k1, k2⟩ := g4 c (List.mem_of_getElem? hk)
    have hN : look (outN 0 out.news) k = some ⟨.own, c⟩ := by have := outN_of hk (i := 0); rwa [Nat.zero_add] at this
    have hkk : outHs args out k = some ⟨.own, c⟩ := by rw [hlow k hkl, hN]
    obtain ⟨a, cp, l, j1, j2, j3, j4, _, j5⟩ := hv
    obtain ⟨l', m1, m2⟩ := hR'.heap k _ hkk
    rw [j2] at m1
    cases m1
    have turn : ∀ {q : List Nat} {g : Nat → Option Value}, CRep I' w' ow' c ρ' q 0 g → (∀ j, j < c.size → behind w' a j = g j) → CRep I2 w' (fun _ => none) c noR [] 0 (behind w' a) := fun {q g} m hg => by
      have m4 := CRep.noq _ _ _ [] _ 0 _ k2 m
      exact CRep.noow (ow := ow') (CRep.closed _ _ noR _ _ _ k1 (CRep.mono (g' := behind w' a) hII _ _ _ _ _ _ (Rho.le_refl _) (fun h => absurd rfl h) hg m4))
    refine ⟨a, cp, j1, j3, j4, hrow, ?_, ?_⟩
    · rcases j5 with rfl | ⟨b, off, sz, rfl, rfl, j6⟩
      · obtain rfl : n = 0 := by omega
        have hz : c.size = 0 := isRow_zero hrow
        rcases m2 with ⟨_, _, m3⟩ | ⟨_, _, _, _, _, _, _, _, m3⟩
        · exact turn m3 (fun j hj => by omega)
        · exact turn m3 (fun j hj => by omega)
      · rcases m2 with ⟨m3, _⟩ | ⟨b', off', sz', cur, m3, m4, m5, m6, m7⟩
        · cases m3
        · cases m3
          refine turn m7 (fun j hj => ?_)
          obtain ⟨ty, fr, m9, _⟩ := m5
          simp only [behind, poff, Nat.zero_mul, Nat.add_zero, World.cell?, m9]
          rfl
    · rcases j5 with rfl | ⟨b, off, sz, rfl, rfl, j6⟩
      · exact .inl rfl
      · rcases m2 with ⟨m3, _⟩ | ⟨b', off', sz', cur, m3, m4, m5, m6, m7⟩
        · cases m3
        · cases m3
          exact .inr ⟨b, _, rfl, .inr ⟨k, hkl, m4⟩⟩
  have one : ∀ {v v' : V} {y : Value}, FrzV out.news v v' → v.isTup = false → VRep0 I' w' ρ' v y → VRep0 I2 w' ρ2 v' y := by
    intro v v' y hf ht hy
    have plain : v.clo = true ∧ v' = v → VRep0 I2 w' ρ2 v' y := by
      rintro ⟨k1, rfl⟩
      rcases hy with rfl | ⟨e1, e2, e3⟩
      · exact .inl rfl
      · exact .inr ⟨e1, e2, CRep.closed _ _ _ _ _ _ k1 (CRep.mono hII _ _ _ _ _ _ _ (Rho.le_refl _) (fun h => absurd rfl h) (fun _ _ => rfl) e3)⟩
    cases v <;> first | exact plain hf | (cases ht; done) | skip
    case nsl =>
      rcases hf with rfl | ⟨k, rfl⟩
      · exact plain ⟨rfl, rfl⟩
      · obtain ⟨e1, e2, e3⟩ := hy.leaf (by simp) rfl
        exact VRep0.ofLeaf rfl rfl e1 ⟨none, 0, e3, Nat.le_refl _, by simp, ⟨rfl, rfl⟩, ⟨rfl, by simp, fun j hj => by omega⟩, .inl rfl⟩
    rename_i k p i n e cap
    obtain ⟨rfl, rfl, c, hk, hrow, rfl⟩ := hf
    obtain ⟨e1, e2, e3⟩ := hy.leaf (by simp) rfl
    have e4 : CRep I' w' (fun _ => none) (.sl k [] 0 n e cap) ρ' [] 0 (fun _ => some y) := CRep.mono (fun b hb => ⟨hb, rfl⟩) _ _ _ _ _ _ _ (Rho.le_refl _) (fun h => absurd rfl h) (fun j hj => by simp only [V.size] at hj; obtain rfl : j = 0 := (by omega); rfl) e3
    exact VRep0.ofLeaf rfl rfl e1 (hcell k c hk hrow e4)
  have tup : ∀ {v v' : V} {l : List Value}, FrzV out.news v v' → TRep I' w' ρ' v l → TRep I2 w' ρ2 v' l := by
    intro v
    induction v with
    | tnil => rintro v' l ⟨_, rfl⟩ hl; exact hl
    | tcons a b _ ihb =>
      rintro v' l ⟨a', b', rfl, f1, f2⟩ ⟨y, r, rfl, hy, hr⟩
      refine ⟨y, r, rfl, ?_, ihb f2 hr⟩
      by_cases ht : a.isTup = false
      · exact one f1 ht hy
      · exfalso
        rcases hy with rfl | ⟨_, _, hy⟩
        · exact ht rfl
        · cases a <;> first | exact ht rfl | exact hy.elim
    | _ => intro v' l _ hl; exact hl.elim
  have hval : VRep I2 w' ρ2 out'.v x := by
    generalize out.v = v, out'.v = v' at hx g6
    cases v with
    | tnil => obtain ⟨_, rfl⟩ := g6; exact hx
    | tcons a b =>
      obtain ⟨l, rfl, hl⟩ := hx
      have := tup g6 hl
      obtain ⟨a', b', rfl, _⟩ := g6
      exact ⟨l, rfl, this⟩
    | _ => exact (one g6 rfl hx).up
  refine ⟨x, I2, ρ2, own', rfl, hval, ?_⟩
  exact
    { frame := hR'.frame
      size := hR'.size
      os := hR'.os
      tape := hR'.tape
      output := hR'.output
      iold := fun b hb => .inl (hR'.iold b hb)
      inew := fun b hb => by
        rcases hb with hb | ⟨k, hk, hb⟩
        · exact hR'.inew b hb
        · exact .inr (hR'.owf b _ hb).2.1
      ilt := fun b hb => by
        rcases hb with hb | ⟨k, hk, hb⟩
        · exact hR'.ilt b hb
        · exact (hR'.owf b _ hb).1
      iow := fun b hb => by
        rcases hb with hb | ⟨k, hk, hb⟩
        · simp only [own', hR'.iow b hb]
        · simp only [own', hb]
          rw [if_neg (by omega)]
      owf := fun b q hb => by
        simp only [own'] at hb
        split at hb
        · rename_i k r hk
          split at hb
          · rename_i hge
            cases hb
            obtain ⟨m1, m2, hh, r', c0, m3, m4⟩ := hR'.owf b _ hk
            injection m3 with e1 e2
            subst e1
            refine ⟨m1, m2, k, r, c0, rfl, ?_⟩
            show outHs args out' k = _
            rw [hhs', ← hhigh k hge]
            exact m4
          · cases hb
        · cases hb
      dom := fun k l hk hlt => by
        simp only [ρ2, if_pos hlt] at hk
        cases hk
      glob := fun n => by
        obtain ⟨sz, hg⟩ := hR'.glob n
        refine ⟨sz, ?_⟩
        simp only [ρ2]
        rw [if_neg (by simp only [globH]; omega)]
        exact hg
      tsz := hR'.tsz
      nle := hR'.nle
      rle := fun k l hk => by
        have := hr0 k l hk
        simp only [ρ2]
        rw [if_neg (by omega)]
        exact hR'.rle k l hk
      tmps := fun i => VRep.any _ _ _ _
      heap := fun k blk hk => by
        have hk : outHs args out' k = some blk := hk
        rw [hhs'] at hk
        obtain ⟨hge, hown, hmem⟩ := hO k blk hk
        obtain ⟨l, m1, m2⟩ := hR'.heap k blk (by show outHs args out k = _; rw [hhigh k hge, hk])
        refine ⟨l, by simp only [ρ2]; rw [if_neg (by omega)]; exact m1, ?_⟩
        obtain ⟨bk, bc⟩ := blk
        simp only at hown hmem
        subst hown
        have hclo := g5 _ hmem
        rcases m2 with ⟨rfl, m3, m4⟩ | ⟨b, off, sz, cur, rfl, m3, m4, m5, m6⟩
        · exact .inl ⟨rfl, m3, CRep.reown (ow := ow') _ _ _ _ _ _ _ hclo (fun h => absurd rfl h) (CRep.mono hII _ _ _ _ _ _ _ (Rho.le_refl _) (fun h => absurd rfl h) (fun _ _ => rfl) m4)⟩
        · refine .inr ⟨b, off, sz, cur, rfl, keepO _ _ _ m3 hge, m4, m5, CRep.reown (ow := ow') _ _ _ _ [k] _ _ hclo (fun _ => ⟨by simp, fun b r hr hb => keepO _ _ _ hb hge⟩) (CRep.mono hII _ _ _ _ _ _ _ (Rho.le_refl _) (fun _ b r _ hb => ⟨hb, rfl⟩) (fun _ _ => rfl) m6)⟩ }
theorem Sound.freeze {P : Program} {G : List (Nat × V)} {f : FuncId} {pure : Bool} {c c' : Ctr} (h : Sound P G f pure c) (hc : ∀ args out', (c' args).to out' → ∃ out, (c args).to out ∧ Frz out out') : Sound P G f pure c' :=
  h.freezeOk fun args out' _ => hc args out'
/-- a contract that says less -/
theorem Sound.sub {P : Program} {G : List (Nat × V)} {f : FuncId} {pure : Bool} {c c' : Ctr} (h : Sound P G f pure c) (hc : ∀ args out, (c' args).to out → (c args).to out) : Sound P G f pure c' :=
  ⟨h.1, fun args out vals w F I ρ ow h1 => h.2 args out vals w F I ρ ow (hc args out h1)⟩
end Go.Cx
/- CxLit -/
namespace Go.Cx
open Go
def litA : Arg → Arg
  | .v v => .v (nV v)
  | .o c w => .o (nV c) w
  | a => a
theorem nV_val {I : Nat → Prop} {w : World} {ρ : Rho} {v : V} {x : Value} (h : VRep I w ρ v x) : VRep I w ρ (nV v) x := by
  have go : VRep0 I w ρ v x → VRep0 I w ρ (nV v) x := fun h => by
    rcases h with rfl | ⟨h1, h2, h3⟩
    · exact .inl rfl
    · exact .inr ⟨h1.trans (nV_size v).symm, h2.trans (nV_agg v).symm, nV_rep v h3⟩
  cases v <;> first | exact h | exact go h
theorem outO_lit : ∀ (args : List Arg) (i : Nat) (cs : List V), outO i (args.map litA) cs = outO i args cs
  | [], i, cs => rfl
  | .b _ _ _ :: r, i, cs => by
    show outO (i + 1) (r.map litA) cs = outO (i + 1) r cs
    exact outO_lit r _ _
  | .o _ _ :: r, i, [] => rfl
  | .o _ _ :: r, i, c :: cs => by
    show (parH i, _) :: outO (i + 1) (r.map litA) cs = (parH i, _) :: outO (i + 1) r cs
    rw [outO_lit r _ _]
  | .v v :: r, i, cs => outO_lit r (i + 1) cs
theorem Sound.lits {P : Program} {G : List (Nat × V)} {f : FuncId} {pure : Bool} {c : Ctr} (h : Sound P G f pure c) : Sound P G f pure (fun args => c (args.map litA)) := by
  refine ⟨h.1, fun args out vals w F I ρ ow h1 h2 h3 h4 h5 hR hV => ?_⟩
  have hget : ∀ (i : Nat), (args.map litA)[i]? = (args[i]?).map litA := fun i => by simp
  have hpar : ∀ k blk, parHs G pure (args.map litA) k = some blk → ∃ c, parHs G pure args k = some ⟨blk.k, c⟩ ∧ (blk.c = c ∨ blk.c = nV c) := fun k blk hk => by
    simp only [parHs] at hk ⊢
    split at hk
    · rename_i e
      rw [if_pos e]
      exact ⟨blk.c, hk, .inl rfl⟩
    · rename_i e
      rw [if_neg e]
      split at hk
      · rename_i e2
        rw [if_pos e2]
        rw [hget] at hk
        cases ha : args[k - 100000]? with
        | none => rw [ha] at hk; cases hk
        | some a =>
          rw [ha] at hk
          rcases a with v | ⟨n, e, c⟩ | ⟨c, w⟩
          · cases hk
          · exact ⟨blk.c, hk, .inl rfl⟩
          · cases hk; exact ⟨c, rfl, .inr rfl⟩
      · cases hk
  have hpar2 : ∀ k blk, parHs G pure args k = some blk → ∃ c, parHs G pure (args.map litA) k = some ⟨blk.k, c⟩ := fun k blk hk => by
    simp only [parHs] at hk ⊢
    split at hk
    · rename_i e
      rw [if_pos e]
      exact ⟨blk.c, hk⟩
    · rename_i e
      rw [if_neg e]
      split at hk
      · rename_i e2
        rw [if_pos e2]
        rw [hget]
        cases ha : args[k - 100000]? with
        | none => rw [ha] at hk; cases hk
        | some a =>
          rw [ha] at hk
          rcases a with v | ⟨n, e, c⟩ | ⟨c, w⟩
          · cases hk
          · exact ⟨blk.c, hk⟩
          · cases hk; exact ⟨nV c, rfl⟩
      · cases hk
  have hout : outHs (args.map litA) out = outHs args out := by
    simp only [outHs, outO_lit]
  have hR2 : Rep ⟨F, I, w, 0, ρ⟩ I ρ ow ⟨fun _ => .any, parHs G pure (args.map litA)⟩ #[] w :=
    { hR with
      owf := fun b q hb => by
        obtain ⟨g1, g2, x, r, v, g3, g4⟩ := hR.owf b q hb
        obtain ⟨c, g5⟩ := hpar2 x _ g4
        exact ⟨g1, g2, x, r, c, g3, g5⟩
      dom := fun k l hk hlt => by
        intro e
        apply hR.dom k l hk hlt
        show parHs G pure args k = none
        cases hq : parHs G pure args k with
        | none => rfl
        | some blk =>
          obtain ⟨c, hc⟩ := hpar2 k blk hq
          have e : parHs G pure (args.map litA) k = none := e
          rw [e] at hc; cases hc
      heap := fun k blk hk => by
        obtain ⟨c, h6, h7⟩ := hpar k blk hk
        obtain ⟨l, h8, h9⟩ := hR.heap k _ h6
        refine ⟨l, h8, ?_⟩
        obtain ⟨bk, bc⟩ := blk
        simp only at h7 h9 ⊢
        rcases h7 with rfl | rfl
        · exact h9
        · cases bk with
          | own =>
            rcases h9 with ⟨e1, e2, e3⟩ | ⟨b, off, sz, cur, e1, e2, e3, e4, e5⟩
            · exact .inl ⟨e1, (nV_size c).trans e2, nV_rep c e3⟩
            · exact .inr ⟨b, off, sz, cur, e1, e2, e3, e4, nV_rep c e5⟩
          | bor =>
            rcases h9 with ⟨e1, e2, e3⟩ | ⟨b, off, sz, e1, e2, e3, e4, e5⟩
            · exact .inl ⟨e1, (nV_size c).trans e2, nV_rep c e3⟩
            · exact .inr ⟨b, off, sz, e1, e2, e3, (show (nV c).size ≤ sz from (nV_size c).symm ▸ e4), nV_rep c e5⟩
          | imm =>
            rcases h9 with ⟨e1, e2, e3⟩ | ⟨b, off, sz, e1, e2, e3, e4⟩
            · exact .inl ⟨e1, (nV_size c).trans e2, nV_rep c e3⟩
            · exact .inr ⟨b, off, sz, e1, e2, (show (nV c).size ≤ sz from (nV_size c).symm ▸ e3), nV_rep c e4⟩
          | dead => trivial }
  have := h.2 (args.map litA) out vals w F I ρ ow h1 (by simpa using h2) (by simpa using h3) (fun i n e c hi => by
    rw [hget] at hi
    cases ha : args[i]? with
    | none => rw [ha] at hi; cases hi
    | some a =>
      rw [ha] at hi
      rcases a with v | ⟨n', e', c'⟩ | ⟨c', w'⟩
      · cases hi
      · cases hi; exact h4 i _ _ _ ha
      · cases hi) h5 hR2 (fun i a hi => by
    rw [hget] at hi
    cases ha : args[i]? with
    | none => rw [ha] at hi; cases hi
    | some b =>
      rw [ha] at hi
      have hb := hV i b ha
      cases hi
      rcases b with v | _ | ⟨c, _ | ⟨j, n, e, cap⟩⟩
      · exact nV_val hb
      · exact hb
      · exact hb
      · exact hb)
  rw [hout] at this
  exact this
end Go.Cx
/- CxdS1 -/
namespace Go.Cx.Rd
open Go Go.Cx Go.Proofs
theorem bk_t {x : Bool} (h : x = false) : ¬ x = true := by rw [h]; decide
theorem bk_f {x : Bool} (h : x = true) : ¬ x = false := by rw [h]; decide
theorem ne_t' {x y : Int} : neI x y = true ↔ x ≠ y := by simp [neI]
theorem ne_f' {x y : Int} : neI x y = false ↔ x = y := by simp [neI]
set_option maxRecDepth 20000 in
theorem vc16 (args : List Arg) (out : Out) (h : (cOn apf args).to out) (hok : okAs args) :
    args.length = ic16.nargs ∧ ic16.nargs ≤ ic16.ntmps ∧ ∃ A, run apf [] A ic16.body (fnQ apf args out ic16.res) (st0 [] false args) := by
  unfold cOn at h
  split at h
  · cases h
    refine ⟨rfl, by decide, [], ?_⟩
    generalize hap : apf = ap
    cbv
    repeat' first
      | exact True.intro
      | (intro (hh : _ = true); first | with_reducible exact absurd hh (bk_t (by assumption)) | cbv)
      | (intro (hh : _ = false); first | with_reducible exact absurd hh (bk_f (by assumption)) | cbv)
      | with_reducible refine And.intro ?_ ?_
      | fail
    all_goals subst hap
    all_goals first
      | (simp only [apf_e, eqI', *]; done)
      | (simp_all [apf_e, onD, rdyE, hasB, failD, cmE, btE, cmF, geI, ltI, gtI, eqRows, eqN, eqI', eqB', leN, addN, V.cnt, neI, lenI, isBk_s, isWr_s, isBl_s, unbks_s, unwrs_s, unbls_s]; done)
      | (simp_all [apf_e, onD, rdyE, hasB, failD, cmE, btE, cmF, geI, ltI, gtI, eqRows, eqN, eqI', eqB', leN, addN, V.cnt, neI, lenI, isBk_s, isWr_s, isBl_s, unbks_s, unwrs_s, unbls_s]; omega)
      | trace_state
  · obtain ⟨d, h1, h⟩ := bind_to h
    cases h
    cases dvR_to h1
    refine ⟨rfl, by decide, [], ?_⟩
    generalize hap : apf = ap
    cbv
    repeat' first
      | exact True.intro
      | (intro (hh : _ = true); first | with_reducible exact absurd hh (bk_t (by assumption)) | cbv)
      | (intro (hh : _ = false); first | with_reducible exact absurd hh (bk_f (by assumption)) | cbv)
      | with_reducible refine And.intro ?_ ?_
      | fail
    all_goals subst hap
    all_goals first
      | (simp only [apf_e, onD, eqRows, eqN, eqI', eqB', leN, addN, V.cnt, Nat.zero_add, Nat.le_refl, implies_true, *]; done)
      | (simp_all [apf_e, onD, rdyE, hasB, failD, cmE, btE, cmF, geI, ltI, gtI, eqRows, eqN, eqI', eqB', leN, addN, V.cnt, neI, lenI, isBk_s, isWr_s, isBl_s, unbks_s, unwrs_s, unbls_s]; done)
      | (simp_all [apf_e, onD, rdyE, hasB, failD, cmE, btE, cmF, geI, ltI, gtI, eqRows, eqN, eqI', eqB', leN, addN, V.cnt, neI, lenI, isBk_s, isWr_s, isBl_s, unbks_s, unwrs_s, unbls_s]; omega)
      | trace_state
  · exact h.elim
theorem s16 : Sound Try.prog [] 16 (pu 16) (fun args => cOn apf (args.map litA)) := (fn_sound rfl Try.call16 ok16 co16 env_nil vc16).lits
set_option maxRecDepth 20000 in
theorem vc30 (args : List Arg) (out : Out) (h : (cRdy apf args).to out) (hok : okAs args) :
    args.length = ic30.nargs ∧ ic30.nargs ≤ ic30.ntmps ∧ ∃ A, run apf [] A ic30.body (fnQ apf args out ic30.res) (st0 [] false args) := by
  unfold cRdy at h
  split at h
  · cases h
    refine ⟨rfl, by decide, [], ?_⟩
    generalize hap : apf = ap
    cbv
    repeat' first
      | exact True.intro
      | (intro (hh : _ = true); first | with_reducible exact absurd hh (bk_t (by assumption)) | cbv)
      | (intro (hh : _ = false); first | with_reducible exact absurd hh (bk_f (by assumption)) | cbv)
      | with_reducible refine And.intro ?_ ?_
      | fail
    all_goals subst hap
    all_goals first
      | (simp only [apf_e, eqI', *]; done)
      | (simp_all [apf_e, onD, rdyE, hasB, failD, cmE, btE, cmF, geI, ltI, gtI, eqRows, eqN, eqI', eqB', leN, addN, V.cnt, neI, lenI, isBk_s, isWr_s, isBl_s, unbks_s, unwrs_s, unbls_s]; done)
      | (simp_all [apf_e, onD, rdyE, hasB, failD, cmE, btE, cmF, geI, ltI, gtI, eqRows, eqN, eqI', eqB', leN, addN, V.cnt, neI, lenI, isBk_s, isWr_s, isBl_s, unbks_s, unwrs_s, unbls_s]; omega)
      | trace_state
  · obtain ⟨d, h1, h⟩ := bind_to h
    cases h
    cases dvR_to h1
    refine ⟨rfl, by decide, [], ?_⟩
    generalize hap : apf = ap
    cbv
    repeat' first
      | exact True.intro
      | (intro (hh : _ = true); first | with_reducible exact absurd hh (bk_t (by assumption)) | cbv)
      | (intro (hh : _ = false); first | with_reducible exact absurd hh (bk_f (by assumption)) | cbv)
      | with_reducible refine And.intro ?_ ?_
      | fail
    all_goals subst hap
    all_goals first
      | (simp only [apf_e, rdyE, eqRows, eqN, eqI', eqB', leN, addN, V.cnt, Nat.zero_add, Nat.le_refl, implies_true, *]; done)
      | (simp_all [apf_e, rdyE, eqI']; done)
      | (simp_all [apf_e, onD, rdyE, hasB, failD, cmE, btE, cmF, geI, ltI, gtI, eqRows, eqN, eqI', eqB', leN, addN, V.cnt, neI, lenI, isBk_s, isWr_s, isBl_s, unbks_s, unwrs_s, unbls_s]; omega)
      | trace_state
  · exact h.elim
theorem s30 : Sound Try.prog [] 30 (pu 30) (fun args => cRdy apf (args.map litA)) := (fn_sound rfl Try.call30 ok30 co30 env_nil vc30).lits
set_option maxRecDepth 20000 in
theorem vc31 (args : List Arg) (out : Out) (h : (cHas apf args).to out) (hok : okAs args) :
    args.length = ic31.nargs ∧ ic31.nargs ≤ ic31.ntmps ∧ ∃ A, run apf [] A ic31.body (fnQ apf args out ic31.res) (st0 [] false args) := by
  unfold cHas at h
  split at h
  · obtain ⟨d, h1, h⟩ := bind_to h
    cases h
    cases dvR_to h1
    refine ⟨rfl, by decide, [], ?_⟩
    generalize hap : apf = ap
    cbv
    repeat' first
      | exact True.intro
      | (intro (hh : _ = true); first | with_reducible exact absurd hh (bk_t (by assumption)) | cbv)
      | (intro (hh : _ = false); first | with_reducible exact absurd hh (bk_f (by assumption)) | cbv)
      | with_reducible refine And.intro ?_ ?_
      | fail
    all_goals subst hap
    all_goals first
      | (simp only [apf_e, hasB, cmF, ltI, eqRows, eqN, eqI', eqB', leN, addN, V.cnt, Nat.zero_add, Nat.le_refl, implies_true, *]; done)
      | (simp_all [apf_e, hasB, cmF, geI, ltI, eqB', lenI]; done)
      | (simp_all [apf_e, hasB, cmF, geI, eqB']; omega)
      | trace_state
  · exact h.elim
theorem s31 : Sound Try.prog [] 31 (pu 31) (fun args => cHas apf (args.map litA)) := (fn_sound rfl Try.call31 ok31 co31 env_nil vc31).lits
set_option maxRecDepth 20000 in
theorem vc14 (args : List Arg) (out : Out) (h : (cFail apf args).to out) (hok : okAs args) :
    args.length = ic14.nargs ∧ ic14.nargs ≤ ic14.ntmps ∧ ∃ A, run apf [] A ic14.body (fnQ apf args out ic14.res) (st0 [] false args) := by
  unfold cFail at h
  split at h
  · cases h
    refine ⟨rfl, by decide, [], ?_⟩
    generalize hap : apf = ap
    cbv
    repeat' first
      | exact True.intro
      | (intro (hh : _ = true); first | with_reducible exact absurd hh (bk_t (by assumption)) | cbv)
      | (intro (hh : _ = false); first | with_reducible exact absurd hh (bk_f (by assumption)) | cbv)
      | with_reducible refine And.intro ?_ ?_
      | fail
    all_goals subst hap
    all_goals first
      | (simp only [apf_e, eqI', *]; done)
      | (simp_all [apf_e, onD, rdyE, hasB, failD, cmE, btE, cmF, geI, ltI, gtI, eqRows, eqN, eqI', eqB', leN, addN, V.cnt, neI, lenI, isBk_s, isWr_s, isBl_s, unbks_s, unwrs_s, unbls_s]; done)
      | (simp_all [apf_e, onD, rdyE, hasB, failD, cmE, btE, cmF, geI, ltI, gtI, eqRows, eqN, eqI', eqB', leN, addN, V.cnt, neI, lenI, isBk_s, isWr_s, isBl_s, unbks_s, unwrs_s, unbls_s]; omega)
      | trace_state
  · obtain ⟨d, h1, h⟩ := bind_to h
    cases h
    cases dvR_to h1
    refine ⟨rfl, by decide, [], ?_⟩
    generalize hap : apf = ap
    cbv
    repeat' first
      | exact True.intro
      | (intro (hh : _ = true); first | with_reducible exact absurd hh (bk_t (by assumption)) | cbv)
      | (intro (hh : _ = false); first | with_reducible exact absurd hh (bk_f (by assumption)) | cbv)
      | with_reducible refine And.intro ?_ ?_
      | fail
    all_goals subst hap
    all_goals first
      | (simp only [apf_e, failD, cmF, geI, eqRows, eqN, eqI', eqB', leN, addN, V.cnt, Nat.zero_add, Nat.le_refl, implies_true, *]; done)
      | (simp_all [apf_e, onD, rdyE, hasB, failD, cmE, btE, cmF, geI, ltI, gtI, eqRows, eqN, eqI', eqB', leN, addN, V.cnt, neI, lenI, isBk_s, isWr_s, isBl_s, unbks_s, unwrs_s, unbls_s]; done)
      | (simp_all [apf_e, onD, rdyE, hasB, failD, cmE, btE, cmF, geI, ltI, gtI, eqRows, eqN, eqI', eqB', leN, addN, V.cnt, neI, lenI, isBk_s, isWr_s, isBl_s, unbks_s, unwrs_s, unbls_s]; omega)
      | trace_state
  · exact h.elim
theorem s14 : Sound Try.prog [] 14 (pu 14) (fun args => cFail apf (args.map litA)) := (fn_sound rfl Try.call14 ok14 co14 env_nil vc14).lits
set_option maxRecDepth 20000 in
theorem vc19 (args : List Arg) (out : Out) (h : (cNb apf args).to out) (hok : okAs args) :
    args.length = ic19.nargs ∧ ic19.nargs ≤ ic19.ntmps ∧ ∃ A, run apf [] A ic19.body (fnQ apf args out ic19.res) (st0 [] false args) := by
  unfold cNb at h
  split at h
  · cases h
    refine ⟨rfl, by decide, [], ?_⟩
    generalize hap : apf = ap
    cbv
    repeat' first
      | exact True.intro
      | (intro (hh : _ = true); first | with_reducible exact absurd hh (bk_t (by assumption)) | cbv)
      | (intro (hh : _ = false); first | with_reducible exact absurd hh (bk_f (by assumption)) | cbv)
      | with_reducible refine And.intro ?_ ?_
      | fail
    all_goals subst hap
    all_goals first
      | (simp only [apf_e, eqI', *]; done)
      | (simp_all [apf_e, onD, rdyE, hasB, failD, cmE, btE, cmF, geI, ltI, gtI, eqRows, eqN, eqI', eqB', leN, addN, V.cnt, neI, lenI, isBk_s, isWr_s, isBl_s, unbks_s, unwrs_s, unbls_s]; done)
      | (simp_all [apf_e, onD, rdyE, hasB, failD, cmE, btE, cmF, geI, ltI, gtI, eqRows, eqN, eqI', eqB', leN, addN, V.cnt, neI, lenI, isBk_s, isWr_s, isBl_s, unbks_s, unwrs_s, unbls_s]; omega)
      | trace_state
  · obtain ⟨d, h1, h⟩ := bind_to h
    cases h
    cases dvR_to h1
    refine ⟨rfl, by decide, [], ?_⟩
    generalize hap : apf = ap
    cbv
    repeat' first
      | exact True.intro
      | (intro (hh : _ = true); first | with_reducible exact absurd hh (bk_t (by assumption)) | cbv)
      | (intro (hh : _ = false); first | with_reducible exact absurd hh (bk_f (by assumption)) | cbv)
      | with_reducible refine And.intro ?_ ?_
      | fail
    all_goals subst hap
    all_goals first
      | (simp only [apf_e, eqRows, eqN, eqI', eqB', leN, addN, V.cnt, Nat.zero_add, Nat.le_refl, implies_true, *]; done)
      | (simp_all [apf_e, onD, rdyE, hasB, failD, cmE, btE, cmF, geI, ltI, gtI, eqRows, eqN, eqI', eqB', leN, addN, V.cnt, neI, lenI, isBk_s, isWr_s, isBl_s, unbks_s, unwrs_s, unbls_s]; done)
      | (simp_all [apf_e, onD, rdyE, hasB, failD, cmE, btE, cmF, geI, ltI, gtI, eqRows, eqN, eqI', eqB', leN, addN, V.cnt, neI, lenI, isBk_s, isWr_s, isBl_s, unbks_s, unwrs_s, unbls_s]; omega)
      | trace_state
  · exact h.elim
theorem s19 : Sound Try.prog [] 19 (pu 19) (fun args => cNb apf (args.map litA)) := (fn_sound rfl Try.call19 ok19 co19 env_nil vc19).lits
end Go.Cx.Rd
/- CxdS2 -/
namespace Go.Cx.Rd
open Go Go.Cx Go.Proofs
/-- the rows of refusals have a place for each block, and the writes taken are of blocks that there are -/
def wfD (d : DvP) : Prop := d.nr = d.nb ∧ d.nw = d.nb ∧ (∀ j, j < d.nt → 0 ≤ (d.T j).1 ∧ (d.T j).1 < d.nb) ∧ d.nb ≤ 1000000 ∧ d.nt ≤ 1000000 ∧ d.ng ≤ 1000000
def faultD (d : DvP) (b : Int) (r w : Bool) : DvP := if hasB d b then { d with rd := upd d.rd b.toNat r, wr := upd d.wr b.toNat w } else d
def hasE (d : DvP) (b : Int) : Int := if hasB d b then 0 else 2
def cFault (ap : AP) : Ctr
  | [.v .nilp, .v (.int .i64 _), .v (.bool _), .v (.bool _)] => .ok ⟨.int .i64 1, [], []⟩
  | [.o c none, .v (.int .i64 b), .v (.bool r), .v (.bool w)] => (dvR ap c).bind fun d => .chk (ap _ _ wfD d) <| .ok ⟨.int .i64 (ap _ _ (ap _ _ hasE d) b), [dvA ap (ap _ _ (ap _ _ (ap _ _ (ap _ _ faultD d) b) r) w)], []⟩
  | _ => .fail 411
theorem hasB_t {d : DvP} {b : Int} : hasB d b = true ↔ 0 ≤ b ∧ b < d.nb := by simp [hasB]
theorem bl_upd {x : Nat → Bool} {i : Nat} {b : Bool} {n : Nat} : eqRows n (blV apf (upd x i b)) (updR (blV apf x) i (.bool b)) := by
  intro j _
  by_cases hj : j = i
  · simp [blV, updR, upd, hj, apf_e]
  · simp [blV, updR, upd, hj, apf_e]
set_option maxRecDepth 20000 in
theorem vc12 (args : List Arg) (out : Out) (h : (cFault apf args).to out) (hok : okAs args) :
    args.length = ic12.nargs ∧ ic12.nargs ≤ ic12.ntmps ∧ ∃ A, run apf [(31, fun args => cHas apf (args.map litA))] A ic12.body (fnQ apf args out ic12.res) (st0 [] false args) := by
  unfold cFault at h
  split at h
  · cases h
    refine ⟨rfl, by decide, [], ?_⟩
    generalize hap : apf = ap
    cbv
    repeat' first
      | exact True.intro
      | (intro (hh : _ = true); first | with_reducible exact absurd hh (bk_t (by assumption)) | cbv)
      | (intro (hh : _ = false); first | with_reducible exact absurd hh (bk_f (by assumption)) | cbv)
      | with_reducible refine And.intro ?_ ?_
      | fail
    all_goals subst hap
    all_goals first
      | (simp only [apf_e, eqI', *]; done)
      | (simp_all [apf_e, onD, rdyE, hasB, failD, cmE, btE, cmF, geI, ltI, gtI, eqRows, eqN, eqI', eqB', leN, addN, V.cnt, neI, lenI, isBk_s, isWr_s, isBl_s, unbks_s, unwrs_s, unbls_s]; done)
      | (simp_all [apf_e, onD, rdyE, hasB, failD, cmE, btE, cmF, geI, ltI, gtI, eqRows, eqN, eqI', eqB', leN, addN, V.cnt, neI, lenI, isBk_s, isWr_s, isBl_s, unbks_s, unwrs_s, unbls_s]; omega)
  · rename_i c b r w
    obtain ⟨d, h1, hw, h⟩ := bind_to h
    cases h
    cases dvR_to h1
    refine ⟨rfl, by decide, [], ?_⟩
    generalize hap : apf = ap
    cbv
    repeat' first
      | exact True.intro
      | (intro (hh : _ = true); first | with_reducible exact absurd hh (bk_t (by assumption)) | cbv)
      | (intro (hh : _ = false); first | with_reducible exact absurd hh (bk_f (by assumption)) | cbv)
      | with_reducible refine And.intro ?_ ?_
      | fail
    all_goals subst hap
    all_goals simp only [apf_e, unbks_s, unwrs_s, unbls_s, dv_eta, isBk_s, isWr_s, isBl_s, notB] at *
    all_goals obtain ⟨w1, w2, _⟩ := hw
    all_goals first
      | (simp only [eqN, leN, addN, V.cnt, Nat.zero_add, Nat.le_refl]; done)
      | (have hB : hasB d b = false := by simp_all
         simp only [faultD, hasE, hB, if_false, Bool.false_eq_true, eqI', eqN, eqB', eqRows, addN, Nat.zero_add, implies_true]
         done)
      | (have hB : hasB d b = true := by simp_all
         obtain ⟨q1, q2⟩ := hasB_t.1 hB
         try simp only [faultD, hasE, hB, if_true, eqI', eqN, eqB', ltN, addN, natI, Nat.zero_add]
         first
           | done
           | omega
           | exact bl_upd
           | exact fun _ _ => rfl)
      | trace_state
  · exact h.elim
theorem s12 : Sound Try.prog [] 12 (pu 12) (fun args => cFault apf (args.map litA)) := (fn_sound rfl Try.call12 ok12 co12 (env_cons s31 env_nil) vc12).lits
end Go.Cx.Rd
/- CxdS3 -/
namespace Go.Cx.Rd
open Go Go.Cx Go.Proofs
/-- 'slices.Clone' of bytes -/
def cClone (ap : AP) : Ctr
  | [.b n 1 (.ints .u8 _ l)] => .chk (ap _ _ (ap _ _ ltN 0) n) <| .chk (ap _ _ (ap _ _ leN n) 140737488355328) (.ok ⟨.sl 0 [] 0 n 1 none, [], [.ints .u8 n l]⟩)
  | _ => .fail 300
theorem vc33 (args : List Arg) (out : Out) (h : (cClone apf args).to out) (hok : okAs args) :
    args.length = ic33.nargs ∧ ic33.nargs ≤ ic33.ntmps ∧ ∃ A, run apf [] A ic33.body (fnQ apf args out ic33.res) (st0 [] true args) := by
  unfold cClone at h
  split at h
  · rename_i n m l
    obtain ⟨h1, h2, h⟩ := h
    cases h
    have h1 : 0 < n := h1
    have h2 : n ≤ 140737488355328 := h2
    obtain ⟨⟨hn, ⟨rfl, _⟩, hl⟩, _⟩ := hok
    refine ⟨rfl, by decide, [], ?_⟩
    have sl : subL l 0 m = l := subL_all (Nat.le_of_eq hl.1)
    generalize hap : apf = ap
    cbv
    and_intros
    all_goals subst hap
    all_goals try simp only [apf, ltN, leN, addN, appN, V.cnt, sl, eqL', eqN, Nat.zero_add]
    all_goals first
      | exact True.intro
      | omega
  · exact h.elim
theorem s33 : Sound Try.prog [] 33 (pu 33) (cClone apf) := fn_sound rfl Try.call33 ok33 co33 env_nil vc33
/-- .. for good -/
def cCloneF (ap : AP) : Ctr
  | [.b n 1 (.ints .u8 _ l)] => .chk (ap _ _ (ap _ _ ltN 0) n) <| .chk (ap _ _ (ap _ _ leN n) 140737488355328) (.ok ⟨.dsl n 1 (.ints .u8 n l), [], []⟩)
  | _ => .fail 300
theorem s33f : Sound Try.prog [] 33 (pu 33) (cCloneF apf) := s33.freeze fun args out' h => by
  unfold cCloneF at h
  split at h
  · rename_i n m l
    obtain ⟨h1, h2, h⟩ := h
    cases h
    exact ⟨⟨.sl 0 [] 0 n 1 none, [], [.ints .u8 n l]⟩, ⟨h1, h2, rfl⟩, by show 1 ≤ 1000; decide, rfl, rfl, by simp [V.clo, V.noown], by simp, rfl, rfl, _, rfl, ⟨rfl, rfl⟩, rfl⟩
  · exact h.elim
/-- a device's content with its slices as handles -/
def dvO (ap : AP) (k : Nat) (d : DvP) : V :=
  .cat 1 11 (.sl k [] 0 (ap _ _ DvP.nb d) 1 none)
  (.cat 1 10 (.sl (k + 1) [] 0 (ap _ _ DvP.nt d) 2 none)
  (.cat 1 9 (.sl (k + 2) [] 0 (ap _ _ DvP.ng d) 2 none)
  (.cat 1 8 (.int .u64 (ap _ _ DvP.cm d))
  (.cat 1 7 (.int .u64 (ap _ _ DvP.bt d))
  (.cat 1 6 (.bool (ap _ _ DvP.off d))
  (.cat 3 3 (.cat 1 2 (.bool (ap _ _ DvP.ps d)) (.cat 1 1 (.int .i64 (ap _ _ DvP.pa d)) (.int .u64 (ap _ _ DvP.pk d))))
  (.cat 1 2 (.sl (k + 3) [] 0 (ap _ _ DvP.nr d) 1 none)
  (.cat 1 1 (.sl (k + 4) [] 0 (ap _ _ DvP.nw d) 1 none)
  (.int .i64 (ap _ _ DvP.st d))))))))))
def dvHs (ap : AP) (k : Nat) (d : DvP) : List (Nat × Blk) := [
  (100000, ⟨.own, dvO ap k d⟩),
  (k, ⟨.own, .rows 1 (ap _ _ DvP.nb d) (bkV ap (ap _ _ DvP.L d))⟩),
  (k + 1, ⟨.own, .rows 2 (ap _ _ DvP.nt d) (wrV ap (ap _ _ DvP.T d))⟩),
  (k + 2, ⟨.own, .rows 2 (ap _ _ DvP.ng d) (wrV ap (ap _ _ DvP.G d))⟩),
  (k + 3, ⟨.own, .rows 1 (ap _ _ DvP.nr d) (blV ap (ap _ _ DvP.rd d))⟩),
  (k + 4, ⟨.own, .rows 1 (ap _ _ DvP.nw d) (blV ap (ap _ _ DvP.wr d))⟩)]
/-- what the first i of the writes taken say of a block -/
def contI (d : DvP) (b : Int) : Nat → List Int
  | 0 => d.L b.toNat
  | i + 1 => if (d.T i).1 = b then (d.T i).2 else contI d b i
def contD (d : DvP) (b : Int) : List Int := contI d b d.nt
def prN (i : Nat) : Nat := i - 1
def prI (i : Nat) : Int := (i : Int) - 1
def isHas (d : DvP) (b : Int) : Prop := hasB d b = true
theorem has_lt {d : DvP} {b : Int} (h : isHas d b) : ltN (natI b) d.nb := by
  obtain ⟨h1, h2⟩ := hasB_t.1 h
  show b.toNat < d.nb
  omega
def cCont (ap : AP) : Ctr
  | [.o c none, .v (.int .i64 b)] => (dvR ap c).bind fun d => .chk (ap _ _ wfD d) <| .chk (ap _ _ (ap _ _ isHas d) b) <| .ok ⟨.dsl 512 1 (.ints .u8 512 (ap _ _ (ap _ _ contD d) b)), [dvA ap d], []⟩
  | _ => .fail 420
def invC (d : DvP) (b : Int) (i : Nat) : Prop := i ≤ d.nt ∧ contI d b i = contD d b
def aCont (ap : AP) (d : DvP) (b : Int) : List (Nat × Ann) := [
  (0, .inv Nat (fun i => ⟨[(0, .ptr 100000 []), (1, .int .i64 b), (5, .int .i64 (ap _ _ prI i))], dvHs ap 9000 d, []⟩)
    (fun i => ap _ _ (ap _ _ (ap _ _ invC d) b) i) (fun i => i))]
theorem pr_first {n : Nat} (h : n ≤ 1000000) : prI n = arF BinOp.sub IntKind.i64 (lenI n) 1 := by
  show (n : Int) - 1 = wsub .i64 (n : Int) 1
  rw [wsub_i64 (by omega)]
theorem pr_next {d : DvP} {b : Int} {i : Nat} (hi : invC d b i) (h : d.nt ≤ 1000000) (hg : 0 ≤ prI i) : prI (prN i) = arF BinOp.sub IntKind.i64 (prI i) 1 := by
  have := hi.1
  show ((i - 1 : Nat) : Int) - 1 = wsub .i64 ((i : Int) - 1) 1
  have hg : 0 ≤ (i : Int) - 1 := hg
  rw [wsub_i64 (by omega)]
  omega
theorem pr_lt {d : DvP} {b : Int} {i : Nat} (hi : invC d b i) (hg : 0 ≤ prI i) : ltN (natI (prI i)) d.nt := by
  have := hi.1
  have hg : 0 ≤ (i : Int) - 1 := hg
  show ((i : Int) - 1).toNat < d.nt
  omega
theorem pn_lt {i : Nat} (hg : 0 ≤ prI i) : prN i < i := by
  have hg : 0 ≤ (i : Int) - 1 := hg
  show i - 1 < i
  omega
theorem cont_suc {d : DvP} {b : Int} {i : Nat} (hg : 0 ≤ prI i) : contI d b i = if (d.T (natI (prI i))).1 = b then (d.T (natI (prI i))).2 else contI d b (prN i) := by
  have hg : 0 ≤ (i : Int) - 1 := hg
  obtain ⟨k, rfl⟩ : ∃ k, i = k + 1 := ⟨i - 1, by omega⟩
  have e : natI (prI (k + 1)) = k := by show (((k + 1 : Nat) : Int) - 1).toNat = k; omega
  rw [e]
  rfl
theorem cont_hit {d : DvP} {b : Int} {i : Nat} (hi : invC d b i) (hg : 0 ≤ prI i) (he : (d.T (natI (prI i))).1 = b) : contD d b = (d.T (natI (prI i))).2 := by
  rw [← hi.2, cont_suc hg, if_pos he]
theorem inv_next {d : DvP} {b : Int} {i : Nat} (hi : invC d b i) (hg : 0 ≤ prI i) (he : (d.T (natI (prI i))).1 ≠ b) : invC d b (prN i) := by
  refine ⟨Nat.le_trans (Nat.le_of_lt (pn_lt hg)) hi.1, ?_⟩
  rw [← hi.2, cont_suc hg, if_neg he]
theorem cont_end {d : DvP} {b : Int} {i : Nat} (hi : invC d b i) (hg : ¬ 0 ≤ prI i) : contD d b = d.L (natI b) := by
  have hg : ¬ 0 ≤ (i : Int) - 1 := hg
  obtain rfl : i = 0 := by omega
  exact hi.2.symm
set_option maxRecDepth 20000 in
theorem vc34 (args : List Arg) (out : Out) (h : (cCont apf args).to out) (hok : okAs args) :
    args.length = ic34.nargs ∧ ic34.nargs ≤ ic34.ntmps ∧ ∃ A, run apf [] A ic34.body (fnQ apf args out ic34.res) (st0 [] false args) := by
  unfold cCont at h
  split at h
  · rename_i c b
    obtain ⟨d, h1, hw, hb, h⟩ := bind_to h
    cases h
    cases dvR_to h1
    obtain ⟨w1, w2, w3, w4, w5, w6⟩ := hw
    obtain ⟨q1, q2⟩ := hasB_t.1 hb
    refine ⟨rfl, by decide, aCont apf d b, ?_⟩
    have hP : apf _ _ (apf _ _ (apf _ _ invC d) b) (apf _ _ DvP.nt d) := ⟨Nat.le_refl _, rfl⟩
    generalize hap : apf = ap at hP ⊢
    cbv
    repeat' first
      | exact True.intro
      | with_reducible refine And.intro ?_ ?_
      | (refine ⟨ap _ _ DvP.nt d, hP, ?_⟩; cbv)
      | fail
    all_goals first
      | (intro (i : Nat) hi k1 k2
         clear k1 k2
         cbv
         repeat' first
           | exact True.intro
           | (intro (hh : _ = true); first | with_reducible exact absurd hh (bk_t (by assumption)) | cbv)
           | (intro (hh : _ = false); first | with_reducible exact absurd hh (bk_f (by assumption)) | cbv)
           | with_reducible refine And.intro ?_ ?_
           | (refine ⟨ap _ _ prN i, ?_, (?_ : _ < _), ?_⟩; rotate_left 2; try cbv))
      | skip
    all_goals subst hap
    all_goals try simp only [apf_e, eqRows, eqN, eqI', eqB', leN, addN, V.cnt, Nat.zero_add, Nat.le_refl, implies_true]
    all_goals simp only [apf_e, cmF, geI, eqI, addN, Nat.zero_add, decide_eq_true_eq, decide_eq_false_iff_not] at *
    all_goals first
      | exact pr_first w5
      | with_reducible assumption
      | exact pr_next (by assumption) w5 (by assumption)
      | exact pr_lt (by assumption) (by assumption)
      | exact pn_lt (by assumption)
      | exact cont_hit (by assumption) (by assumption) (by assumption)
      | exact inv_next (by assumption) (by assumption) (by assumption)
      | exact cont_end (by assumption) (by assumption)
      | exact has_lt hb
      | trace_state
  · exact h.elim
theorem s34 : Sound Try.prog [] 34 (pu 34) (fun args => cCont apf (args.map litA)) := (fn_sound rfl Try.call34 ok34 co34 env_nil vc34).lits
end Go.Cx.Rd
/- CxdS4 -/
namespace Go.Cx.Rd
open Go Go.Cx Go.Proofs
/-- does a cut keep the write at this place? -/
def bitK (k : Int) (i : Nat) : Bool := eqI (band .u64 (bshr .u64 k (wrem .i64 i 64)) 1) 1
/-- the first i of the writes are laid on the blocks, if they are chosen -/
def layI (T : Nat → Int × List Int) (s : Nat → Bool) (L : Nat → List Int) : Nat → Nat → List Int
  | 0 => L
  | i + 1 => if s i then upd (layI T s L i) (T i).1.toNat (T i).2 else layI T s L i
def layD (d : DvP) (s : Nat → Bool) (i : Nat) : DvP := { d with L := layI d.T s d.L i }
def cutD (d : DvP) (k : Int) : DvP := { d with L := layI d.T (bitK k) d.L d.nt, nt := 0, ps := false, pa := 0, pk := 0, off := true }
theorem bk_upd {x : Nat → List Int} {i : Nat} {b : List Int} {n : Nat} : eqRows n (bkV apf (upd x i b)) (updR (bkV apf x) i (.dsl 512 1 (.ints .u8 512 b))) := by
  intro j _
  by_cases hj : j = i
  · simp [bkV, updR, upd, hj, apf_e]
  · simp [bkV, updR, upd, hj, apf_e]
theorem lay_yes {T : Nat → Int × List Int} {s : Nat → Bool} {L : Nat → List Int} {i : Nat} (h : s i = true) : layI T s L (i + 1) = upd (layI T s L i) (T i).1.toNat (T i).2 := by rw [layI, if_pos h]
theorem lay_no {T : Nat → Int × List Int} {s : Nat → Bool} {L : Nat → List Int} {i : Nat} (h : s i = false) : layI T s L (i + 1) = layI T s L i := by rw [layI, h]; rfl
def sucN (i : Nat) : Nat := i + 1
theorem len_suc {i n : Nat} (h : i < n) (hn : n ≤ 1000000) : lenI (sucN i) = arF BinOp.add IntKind.i64 (lenI i) 1 := (inc_i64 (i := i) (by omega)).symm
theorem lay_rows_yes {T : Nat → Int × List Int} {s : Nat → Bool} {L : Nat → List Int} {i n : Nat} (h : s i = true) : eqRows n (bkV apf (layI T s L (sucN i))) (updR (bkV apf (layI T s L i)) (natI (T (natI (lenI i))).1) (V.dsl 512 1 (V.ints IntKind.u8 512 (T (natI (lenI i))).2))) := by
  rw [show sucN i = i + 1 from rfl, lay_yes h]
  exact bk_upd
theorem lay_rows_no {T : Nat → Int × List Int} {s : Nat → Bool} {L : Nat → List Int} {i n : Nat} (h : s i = false) : eqRows n (bkV apf (layI T s L (sucN i))) (bkV apf (layI T s L i)) := by
  rw [show sucN i = i + 1 from rfl, lay_no h]
  exact fun _ _ => rfl
theorem idx_lt {x : Int} {n : Nat} (h : 0 ≤ x ∧ x < n) : ltN (natI x) n := by
  show x.toNat < n
  omega
theorem sub_lt' {i n : Nat} (h : i < n) : subN n (sucN i) < subN n i := by
  show n - (i + 1) < n - i
  omega
theorem rem_nn {i : Nat} : 0 ≤ arF BinOp.rem IntKind.i64 (lenI i) 64 := by
  show 0 ≤ wrem .i64 (i : Int) ((64 : Nat) : Int)
  rw [rem_i64]
  exact Int.natCast_nonneg _
theorem cut_rows {d : DvP} {k : Int} {i n : Nat} (he : i = d.nt) : eqRows n (bkV apf (cutD d k).L) (bkV apf (layI d.T (bitK k) d.L i)) := by
  rw [he]
  exact fun _ _ => rfl
def cCut (ap : AP) : Ctr
  | [.o c none, .v (.int .u64 k)] => (dvR ap c).bind fun d => .chk (ap _ _ wfD d) <| .ok ⟨.tnil, [dvA ap (ap _ _ (ap _ _ cutD d) k)], []⟩
  | _ => .fail 430
def aCut (ap : AP) (d : DvP) (k : Int) : List (Nat × Ann) := [
  (0, .inv Nat (fun i => ⟨[(0, .ptr 100000 []), (1, .int .u64 k), (9, .sl 9001 [] 0 (ap _ _ DvP.nt d) 2 none), (10, .int .i64 (ap _ _ lenI (ap _ _ DvP.nt d))), (11, .int .i64 (ap _ _ lenI i))],
      dvHs ap 9000 (ap _ _ (ap _ _ (ap _ _ layD d) (ap _ _ bitK k)) i), []⟩)
    (fun i => ap _ _ (ap _ _ leN i) (ap _ _ DvP.nt d)) (fun i => ap _ _ (ap _ _ subN (ap _ _ DvP.nt d)) i))]
set_option maxRecDepth 20000 in
theorem vc35 (args : List Arg) (out : Out) (h : (cCut apf args).to out) (hok : okAs args) :
    args.length = ic35.nargs ∧ ic35.nargs ≤ ic35.ntmps ∧ ∃ A, run apf [] A ic35.body (fnQ apf args out ic35.res) (st0 [] false args) := by
  unfold cCut at h
  split at h
  · rename_i c k
    obtain ⟨d, h1, hw, h⟩ := bind_to h
    cases h
    cases dvR_to h1
    obtain ⟨w1, w2, w3, w4, w5, w6⟩ := hw
    clear hok h
    refine ⟨rfl, by decide, aCut apf d k, ?_⟩
    have hP : apf _ _ (apf _ _ leN 0) (apf _ _ DvP.nt d) := Nat.zero_le _
    generalize hap : apf = ap at hP ⊢
    cbv
    repeat' first
      | exact True.intro
      | with_reducible refine And.intro ?_ ?_
      | (refine ⟨0, hP, ?_⟩; cbv)
      | fail
    all_goals first
      | (intro (i : Nat) hi k1 k2
         clear k1 k2
         cbv
         repeat' first
           | exact True.intro
           | (intro (hh : _ = true); first | with_reducible exact absurd hh (bk_t (by assumption)) | cbv)
           | (intro (hh : _ = false); first | with_reducible exact absurd hh (bk_f (by assumption)) | cbv)
           | with_reducible refine And.intro ?_ ?_
           | (refine ⟨ap _ _ sucN i, ?_, (?_ : _ < _), ?_⟩; rotate_left 2; try cbv))
      | skip
    all_goals subst hap
    all_goals simp only [apf_e, cmF, ltI, eqI, layD, addN, Nat.zero_add, decide_eq_true_eq, decide_eq_false_iff_not] at *
    all_goals try simp only [eqRows, eqN, eqI', eqB', leN, V.cnt, Nat.le_refl, implies_true]
    all_goals first
      | rfl
      | exact fun _ _ => rfl
      | exact Int.natCast_nonneg _
      | (have hlt : i < d.nt := Int.ofNat_lt.1 (by assumption)
         first
           | exact hlt
           | exact rem_nn
           | exact (w3 i hlt).1
           | exact idx_lt (w3 i hlt)
           | exact len_suc hlt w5
           | exact sub_lt' hlt
           | (have hb : bitK k i = true := decide_eq_true (by assumption)
              exact lay_rows_yes hb)
           | (have hb : bitK k i = false := decide_eq_false (by assumption)
              exact lay_rows_no hb))
      | (have he : i = d.nt := Nat.le_antisymm hi (Nat.le_of_not_lt fun h => absurd (Int.ofNat_lt.2 h) (by assumption))
         exact cut_rows he)
      | trace_state
  · exact h.elim
theorem s35 : Sound Try.prog [] 35 (pu 35) (fun args => cCut apf (args.map litA)) := (fn_sound rfl Try.call35 ok35 co35 env_nil vc35).lits
end Go.Cx.Rd
/- CxdSB -/
namespace Go.Cx.Rd
open Go Go.Cx Go.Proofs
def filB (c : Int) (j : Nat) : Int := wadd .u8 c (wcv .u8 (wquo .i64 (lenI j) 100))
def filI (c : Int) (i : Nat) : List Int := (List.range 512).map fun j => if j < i then filB c j else 0
theorem fil_zero {c : Int} : filI c 0 = zerosI (natI 512) := by
  rw [show natI 512 = 512 from rfl]
  simp [filI, zerosI, List.map_const']
theorem fil_next {c : Int} {i : Nat} : filI c (sucN i) = setI (filI c i) i (filB c i) := by
  refine List.ext_getElem (by simp [filI, setI]) fun j h1 h2 => ?_
  simp only [filI, setI, sucN, List.getElem_set, List.getElem_map, List.getElem_range]
  by_cases hj : i = j
  · subst hj
    rw [if_pos (Nat.lt_succ_self _), if_pos rfl]
  · rw [if_neg hj]
    by_cases hl : j < i
    · rw [if_pos hl, if_pos (by omega)]
    · rw [if_neg hl, if_neg (by omega)]
def cFilled (ap : AP) : Ctr
  | [.v (.int .u8 c), .v (.int .i64 n)] => .chk (ap _ _ (ap _ _ eqI' n) 512) <| .ok ⟨.sl 0 [] 0 512 1 none, [], [.ints .u8 512 (ap _ _ (ap _ _ filI c) 512)]⟩
  | _ => .fail 490
def aFilled (ap : AP) (c : Int) : List (Nat × Ann) := [
  (0, .inv Nat (fun i => ⟨[(0, .int .u8 c), (5, .sl 8 [] 0 512 1 none), (10, .int .i64 512), (11, .int .i64 (ap _ _ lenI i))],
      [(8, ⟨.own, .ints .u8 512 (ap _ _ (ap _ _ filI c) i)⟩)], []⟩)
    (fun i => ap _ _ (ap _ _ leN i) 512) (fun i => ap _ _ (ap _ _ subN 512) i))]
set_option maxRecDepth 20000 in
set_option maxHeartbeats 1000000 in
theorem vc11 (args : List Arg) (out : Out) (h : (cFilled apf args).to out) (hok : okAs args) :
    args.length = ic11.nargs ∧ ic11.nargs ≤ ic11.ntmps ∧ ∃ A, run apf [] A ic11.body (fnQ apf args out ic11.res) (st0 [] true args) := by
  unfold cFilled at h
  split at h
  · rename_i c n
    obtain ⟨h1, h⟩ := h
    cases h
    obtain rfl : n = 512 := h1
    refine ⟨rfl, by decide, aFilled apf c, ?_⟩
    have hP : apf _ _ (apf _ _ leN 0) 512 := Nat.zero_le _
    generalize hap : apf = ap at hP ⊢
    cbv
    repeat' first
      | exact True.intro
      | with_reducible refine And.intro ?_ ?_
      | (refine ⟨0, hP, ?_⟩; cbv)
      | fail
    all_goals first
      | (intro (i : Nat) hi k1 k2
         clear k1 k2
         cbv
         repeat' first
           | exact True.intro
           | (intro (hh : _ = true); first | with_reducible exact absurd hh (bk_t (by assumption)) | cbv)
           | (intro (hh : _ = false); first | with_reducible exact absurd hh (bk_f (by assumption)) | cbv)
           | with_reducible refine And.intro ?_ ?_
           | (refine ⟨ap _ _ sucN i, ?_, (?_ : _ < _), ?_⟩; rotate_left 2; try cbv))
      | skip
    all_goals subst hap
    all_goals try simp only [apf_e, cmF, ltI, addN, Nat.zero_add, decide_eq_true_eq, decide_eq_false_iff_not] at *
    all_goals first
      | exact fil_zero
      | exact (by decide : 1 * 512 ≤ 140737488355328)
      | with_reducible rfl
      | (show (_ : Nat) = _
         rfl)
      | (show (_ : Int) = _
         rfl)
      | exact Int.natCast_nonneg _
      | (have hlt : i < 512 := Int.ofNat_lt.1 (by assumption)
         first
           | exact hlt
           | exact len_suc hlt (by decide)
           | exact sub_lt' hlt
           | exact fil_next)
      | (have he : i = 512 := Nat.le_antisymm hi (Nat.le_of_not_lt fun h => absurd (Int.ofNat_lt.2 h) (by assumption))
         rw [he]
         rfl)
      | decide
      | trace_state
  · exact h.elim
end Go.Cx.Rd
/- CxdSC -/
namespace Go.Cx.Rd
open Go Go.Cx Go.Proofs
def newB (n c b : Int) : Bool := ltI n 1 || gtI n 256 || gtI c 281474976710655 || gtI b 281474976710655
def zeroL (_ : Nat) : List Int := zerosI 512
def zeroW (_ : Nat) : Int × List Int := (0, zerosI 512)
def noB (_ : Nat) : Bool := false
def newD (n c b : Int) : DvP := ⟨n.toNat, zeroL, 0, zeroW, 0, zeroW, c, b, false, false, 0, 0, n.toNat, noB, n.toNat, noB, 0⟩
def newOk (n c b : Int) : Prop := newB n c b = false
/-- .. where it is made -/
def cNewY (ap : AP) : Ctr
  | [.v (.int .i64 n), .v (.int .u64 c), .v (.int .u64 b)] => .chk (ap _ _ (ap _ _ (ap _ _ newOk n) c) b) <|
      .ok ⟨.tcons (.ptr 0 []) (.tcons (.int .i64 0) .tnil), [], [dvA ap (ap _ _ (ap _ _ (ap _ _ newD n) c) b)]⟩
  | _ => .fail 491
inductive NSt where
  | z | s (i : Nat)
def nLt (n : Int) (i : Nat) : Prop := (i : Int) < n
def NSt.p (ap : AP) (n : Int) : NSt → Prop
  | .z => True
  | .s i => ap _ _ (ap _ _ nLt n) i
def nMu (n : Int) (i : Nat) : Nat := n.toNat - i
def NSt.mu (ap : AP) (n : Int) : NSt → Nat
  | .z => ap _ _ (ap _ _ nMu n) 0
  | .s i => ap _ _ (ap _ _ nMu n) (ap _ _ sucN i)
def newC (ap : AP) (n c b : Int) (L : V) : V :=
  .cat 1 11 L (.cat 1 10 .nsl (.cat 1 9 .nsl (.cat 1 8 (.int .u64 c) (.cat 1 7 (.int .u64 b) (.cat 1 6 .ff (.cat 3 3 (.cat 1 2 .ff (.cat 1 1 (.lit .i64 0) (.lit .u64 0)))
    (.cat 1 2 (.sl 26 [] 0 (ap _ _ natI n) 1 none) (.cat 1 1 (.sl 28 [] 0 (ap _ _ natI n) 1 none) (.lit .i64 0)))))))))
def newHs (ap : AP) (n : Int) : List (Nat × Blk) := [(26, ⟨.own, .rows 1 (ap _ _ natI n) fun _ => .ff⟩), (28, ⟨.own, .rows 1 (ap _ _ natI n) fun _ => .ff⟩)]
def NSt.fam (ap : AP) (n c b : Int) : NSt → LSt
  | .z => ⟨[(0, .int .i64 n), (31, .int .i64 n), (32, .int .i64 (ap _ _ lenI 0)), (8, .ptr 30 [])], (30, ⟨.own, newC ap n c b .nsl⟩) :: newHs ap n, []⟩
  | .s i => ⟨[(0, .int .i64 n), (31, .int .i64 n), (32, .int .i64 (ap _ _ lenI (ap _ _ sucN i))), (8, .ptr 30 [])],
      (30, ⟨.own, newC ap n c b (.sl 7000 [] 0 (ap _ _ sucN i) 1 none)⟩) :: (7000, ⟨.own, .rows 1 (ap _ _ sucN i) (bkV ap zeroL)⟩) :: newHs ap n, [(7000, 41)]⟩
def aNew (ap : AP) (n c b : Int) : List (Nat × Ann) := [(0, .inv NSt (NSt.fam ap n c b) (NSt.p ap n) (NSt.mu ap n))]
theorem newB_f {n c b : Int} (h : newB n c b = false) : cmF .lss n 1 = false ∧ cmF .gtr n 256 = false ∧ cmF .gtr c 281474976710655 = false ∧ cmF .gtr b 281474976710655 = false := by
  simp only [newB, Bool.or_eq_false_iff] at h
  exact ⟨h.1.1.1, h.1.1.2, h.1.2, h.2⟩
theorem new_row : eqRows (0 + 1) (bkV apf zeroL) fun j => lkV V.nsl [(0, V.dsl 512 1 (V.ints IntKind.u8 512 (zerosI 512)))] j := by
  intro j hj
  obtain rfl : j = 0 := by omega
  simp [bkV, lkV, apf_e, zeroL]
theorem new_row' {i : Nat} : eqRows (i + 1 + 1) (bkV apf zeroL) fun j => catR (fun j => bkV apf zeroL j) (i + 1) (fun j => lkV V.nsl [(0, V.dsl 512 1 (V.ints IntKind.u8 512 (zerosI 512)))] j) j := by
  intro j hj
  by_cases h : j < i + 1
  · simp [bkV, catR, h, apf_e, zeroL]
  · obtain rfl : j = i + 1 := by omega
    simp [bkV, catR, lkV, apf_e, zeroL]
set_option maxRecDepth 20000 in
set_option maxHeartbeats 2000000 in
theorem vc8y (args : List Arg) (out : Out) (h : (cNewY apf args).to out) (hok : okAs args) :
    args.length = ic8.nargs ∧ ic8.nargs ≤ ic8.ntmps ∧ ∃ A, run apf [] A ic8.body (fnQ apf args out ic8.res) (st0 [] true args) := by
  unfold cNewY at h
  split at h
  · rename_i n c b
    obtain ⟨h1, h⟩ := h
    cases h
    clear hok
    have h1 : newB n c b = false := h1
    obtain ⟨g1, g2, g3, g4⟩ := newB_f h1
    have q1 : 1 ≤ n := lss_f g1
    have q2 : n ≤ 256 := gtr_f g2
    refine ⟨rfl, by decide, aNew apf n c b, ?_⟩
    have k1 : apf _ _ (apf _ _ (cmF .lss) n) 1 = false := g1
    have k2 : apf _ _ (apf _ _ (cmF .gtr) n) 256 = false := g2
    have k3 : apf _ _ (apf _ _ (cmF .gtr) c) 281474976710655 = false := g3
    have k4 : apf _ _ (apf _ _ (cmF .gtr) b) 281474976710655 = false := g4
    generalize hap : apf = ap at k1 k2 k3 k4 ⊢
    cbv
    repeat' first
      | exact True.intro
      | (intro (hh : _ = true); first | with_reducible exact absurd hh (bk_t (by assumption)) | cbv)
      | (intro (hh : _ = false); first | with_reducible exact absurd hh (bk_f (by assumption)) | cbv)
      | with_reducible refine And.intro ?_ ?_
      | (refine ⟨NSt.z, True.intro, ?_⟩; cbv)
      | fail
    rotate_right
    intro (x : NSt) hi j1 j2
    clear j1 j2
    rcases x with _ | i
    · cbv
      repeat' first
        | exact True.intro
        | (intro (hh : _ = true); first | with_reducible exact absurd hh (bk_t (by assumption)) | cbv)
        | (intro (hh : _ = false); first | with_reducible exact absurd hh (bk_f (by assumption)) | cbv)
        | with_reducible refine And.intro ?_ ?_
        | (refine ⟨NSt.s 0, ?_, (?_ : _ < _), ?_⟩; rotate_left 2; try cbv)
        | fail
      all_goals subst hap
      all_goals simp only [apf_e, cmF, newD, addN, Nat.zero_add, V.cnt, eqN, eqI', eqB', leN, mksN, appN, natI, NSt.p, NSt.mu, nLt, nMu, sucN, lenI, ltI, decide_eq_true_eq, decide_eq_false_iff_not] at *
      all_goals first
        | exact True.intro
        | rfl
        | omega
        | decide
        | exact new_row
        | exact new_row'
        | exact fun _ _ => rfl
        | exact (inc_i64 (by omega)).symm
        | trace_state
    · cbv
      repeat' first
        | exact True.intro
        | (intro (hh : _ = true); first | with_reducible exact absurd hh (bk_t (by assumption)) | cbv)
        | (intro (hh : _ = false); first | with_reducible exact absurd hh (bk_f (by assumption)) | cbv)
        | with_reducible refine And.intro ?_ ?_
        | (refine ⟨NSt.s (ap _ _ sucN i), ?_, (?_ : _ < _), ?_⟩; rotate_left 2; try cbv)
        | fail
      all_goals subst hap
      all_goals simp only [apf_e, cmF, newD, addN, Nat.zero_add, V.cnt, eqN, eqI', eqB', leN, mksN, appN, natI, NSt.p, NSt.mu, nLt, nMu, sucN, lenI, ltI, decide_eq_true_eq, decide_eq_false_iff_not] at *
      all_goals first
        | exact True.intro
        | rfl
        | omega
        | decide
        | exact new_row
        | exact new_row'
        | exact fun _ _ => rfl
        | exact (inc_i64 (by omega)).symm
        | trace_state
    all_goals subst hap
    all_goals simp only [apf_e, cmF, eqN, eqI', mksN, natI, lenI, ltI, decide_eq_false_iff_not] at *
    all_goals first
      | exact True.intro
      | rfl
      | omega
      | decide
      | exact new_row
      | exact new_row'
      | exact fun _ _ => rfl
      | exact (inc_i64 (by omega)).symm
      | trace_state
  · exact h.elim
theorem s8y : Sound Try.prog [] 8 (pu 8) (fun args => cNewY apf (args.map litA)) := (fn_sound rfl Try.call8 ok8 co8 env_nil vc8y).lits
end Go.Cx.Rd
/- CxdS5 -/
namespace Go.Cx.Rd
open Go Go.Cx Go.Proofs
def offD (d : DvP) (k : Int) : DvP := if d.off then d else cutD d k
def cOff (ap : AP) : Ctr
  | [.v .nilp, .v (.int .u64 _)] => .ok ⟨.int .i64 1, [], []⟩
  | [.o c none, .v (.int .u64 k)] => (dvR ap c).bind fun d => .chk (ap _ _ wfD d) <| .ok ⟨.int .i64 0, [dvA ap (ap _ _ (ap _ _ offD d) k)], []⟩
  | _ => .fail 440
def stD (d : DvP) : DvP := { d with st := wadd .i64 d.st 1 }
def stepD (d : DvP) : DvP := if d.ps then (if gtI d.pa 0 then { stD d with pa := wsub .i64 d.pa 1 } else cutD (stD d) d.pk) else stD d
def stepE (d : DvP) : Int := if d.ps then (if gtI d.pa 0 then 0 else 10) else 0
def cStep (ap : AP) : Ctr
  | [.o c none] => (dvR ap c).bind fun d => .chk (ap _ _ wfD d) <| .ok ⟨.int .i64 (ap _ _ stepE d), [dvA ap (ap _ _ stepD d)], []⟩
  | _ => .fail 441
theorem off_t {d : DvP} {k : Int} (h : d.off = true) : offD d k = d := by rw [offD, if_pos h]
theorem off_f {d : DvP} {k : Int} (h : d.off = false) : offD d k = cutD d k := by rw [offD, h]; rfl
theorem st_no {d : DvP} (h : d.ps = false) : stepD d = stD d ∧ stepE d = 0 := by rw [stepD, stepE, h]; exact ⟨rfl, rfl⟩
theorem st_more {d : DvP} (h : d.ps = true) (h2 : gtI d.pa 0 = true) : stepD d = { stD d with pa := wsub .i64 d.pa 1 } ∧ stepE d = 0 := by rw [stepD, stepE, h, h2]; exact ⟨rfl, rfl⟩
theorem st_cut {d : DvP} (h : d.ps = true) (h2 : gtI d.pa 0 = false) : stepD d = cutD (stD d) d.pk ∧ stepE d = 10 := by rw [stepD, stepE, h, h2]; exact ⟨rfl, rfl⟩
set_option maxRecDepth 20000 in
theorem vc15 (args : List Arg) (out : Out) (h : (cOff apf args).to out) (hok : okAs args) :
    args.length = ic15.nargs ∧ ic15.nargs ≤ ic15.ntmps ∧ ∃ A, run apf [(35, fun args => cCut apf (args.map litA))] A ic15.body (fnQ apf args out ic15.res) (st0 [] false args) := by
  unfold cOff at h
  split at h
  · cases h
    refine ⟨rfl, by decide, [], ?_⟩
    generalize hap : apf = ap
    cbv
    repeat' first
      | exact True.intro
      | (intro (hh : _ = true); first | with_reducible exact absurd hh (bk_t (by assumption)) | cbv)
      | (intro (hh : _ = false); first | with_reducible exact absurd hh (bk_f (by assumption)) | cbv)
      | with_reducible refine And.intro ?_ ?_
      | fail
    all_goals subst hap
    all_goals first
      | (simp only [apf_e, eqI', *]; done)
      | (simp_all [apf_e, onD, rdyE, hasB, failD, cmE, btE, cmF, geI, ltI, gtI, eqRows, eqN, eqI', eqB', leN, addN, V.cnt, neI, lenI, isBk_s, isWr_s, isBl_s, unbks_s, unwrs_s, unbls_s]; done)
      | (simp_all [apf_e, onD, rdyE, hasB, failD, cmE, btE, cmF, geI, ltI, gtI, eqRows, eqN, eqI', eqB', leN, addN, V.cnt, neI, lenI, isBk_s, isWr_s, isBl_s, unbks_s, unwrs_s, unbls_s]; omega)
  · rename_i c k
    obtain ⟨d, h1, hw, h⟩ := bind_to h
    cases h
    cases dvR_to h1
    clear hok h h1
    refine ⟨rfl, by decide, [], ?_⟩
    generalize hap : apf = ap
    cbv
    repeat' first
      | exact True.intro
      | (intro (hh : _ = true); first | with_reducible exact absurd hh (bk_t (by assumption)) | cbv)
      | (intro (hh : _ = false); first | with_reducible exact absurd hh (bk_f (by assumption)) | cbv)
      | with_reducible refine And.intro ?_ ?_
      | fail
    all_goals subst hap
    all_goals simp only [apf_e, unbks_s, unwrs_s, unbls_s, dv_eta, isBk_s, isWr_s, isBl_s, notB, addN, Nat.zero_add, Bool.not_eq_eq_eq_not, Bool.not_true, Bool.not_false] at *
    all_goals first
      | (simp only [eqN, eqI', eqB', leN, V.cnt, Nat.le_refl]; done)
      | exact hw
      | (have e := off_t (d := d) (k := k) (by assumption)
         simp only [e, eqRows, eqN, eqI', eqB', implies_true]
         done)
      | (have e := off_f (d := d) (k := k) (by assumption)
         simp only [e, eqRows, eqN, eqI', eqB', implies_true]
         done)
      | trace_state
  · exact h.elim
set_option maxRecDepth 20000 in
theorem vc32 (args : List Arg) (out : Out) (h : (cStep apf args).to out) (hok : okAs args) :
    args.length = ic32.nargs ∧ ic32.nargs ≤ ic32.ntmps ∧ ∃ A, run apf [(35, fun args => cCut apf (args.map litA))] A ic32.body (fnQ apf args out ic32.res) (st0 [] false args) := by
  unfold cStep at h
  split at h
  · obtain ⟨d, h1, hw, h⟩ := bind_to h
    cases h
    cases dvR_to h1
    clear hok h h1
    refine ⟨rfl, by decide, [], ?_⟩
    generalize hap : apf = ap
    cbv
    repeat' first
      | exact True.intro
      | (intro (hh : _ = true); first | with_reducible exact absurd hh (bk_t (by assumption)) | cbv)
      | (intro (hh : _ = false); first | with_reducible exact absurd hh (bk_f (by assumption)) | cbv)
      | with_reducible refine And.intro ?_ ?_
      | fail
    all_goals subst hap
    all_goals simp only [apf_e, cmF, unbks_s, unwrs_s, unbls_s, isBk_s, isWr_s, isBl_s, notB, addN, Nat.zero_add] at *
    all_goals simp only [Bool.not_eq_eq_eq_not, Bool.not_true, Bool.not_false] at *
    all_goals first
      | (simp only [eqN, eqI', eqB', leN, V.cnt, Nat.le_refl]; done)
      | exact hw
      | (have e := st_no (d := d) (by assumption)
         simp only [e.1, e.2, stD, eqRows, eqN, eqI', eqB', implies_true]
         done)
      | (have e := st_no (d := d) (by assumption)
         simp only [e.1, stD]
         first
           | rfl
           | exact fun _ _ => rfl)
      | (have e := st_more (d := d) (by assumption) (by assumption)
         simp only [e.1, e.2, stD]
         first
           | rfl
           | exact fun _ _ => rfl)
      | (have e := st_cut (d := d) (by assumption) (by assumption)
         simp only [e.1, e.2, stD]
         first
           | rfl
           | exact fun _ _ => rfl)
      | trace_state
  · exact h.elim
theorem s15 : Sound Try.prog [] 15 (pu 15) (fun args => cOff apf (args.map litA)) := (fn_sound rfl Try.call15 ok15 co15 (env_cons s35 env_nil) vc15).lits
theorem s32 : Sound Try.prog [] 32 (pu 32) (fun args => cStep apf (args.map litA)) := (fn_sound rfl Try.call32 ok32 co32 (env_cons s35 env_nil) vc32).lits
end Go.Cx.Rd
/- CxdS6 -/
namespace Go.Cx.Rd
open Go Go.Cx Go.Proofs
def readE (d : DvP) (b : Int) : Int := if d.off then 10 else if hasB d b then (if d.rd b.toNat then 11 else 0) else 2
def readB (d : DvP) (b : Int) : List Int := if readE d b = 0 then contD d b else []
def dslA (ap : AP) (l : List Int) : V := .dsl (ap _ _ llen l) 1 (.ints .u8 (ap _ _ llen l) l)
def cReadD (ap : AP) : Ctr
  | [.v .nilp, .v (.int .i64 _)] => .ok ⟨.tcons .nsl (.tcons (.int .i64 1) .tnil), [], []⟩
  | [.o c none, .v (.int .i64 b)] => (dvR ap c).bind fun d => .chk (ap _ _ wfD d) <| .ok ⟨.tcons (dslA ap (ap _ _ (ap _ _ readB d) b)) (.tcons (.int .i64 (ap _ _ (ap _ _ readE d) b)) .tnil), [dvA ap d], []⟩
  | _ => .fail 450
theorem cont_len {d : DvP} {b : Int} (h : (dvA apf d).okv) (hb : hasB d b = true) : (contD d b).length = 512 := by
  obtain ⟨_, _, _, _, _, hL, hT, _⟩ := dvA_ok h
  have go : ∀ i, i ≤ d.nt → (contI d b i).length = 512 := by
    intro i
    induction i with
    | zero => intro _; exact (hL _ (has_lt hb)).1
    | succ k ih =>
      intro hk
      rw [contI]
      split
      · exact (hT k hk).2.1
      · exact ih (Nat.le_of_lt hk)
  exact go _ (Nat.le_refl _)
theorem rd_off {d : DvP} {b : Int} (h : d.off = true) : readE d b = 10 ∧ readB d b = [] := by
  have e : readE d b = 10 := by rw [readE, if_pos h]
  exact ⟨e, by rw [readB, e]; rfl⟩
theorem rd_no {d : DvP} {b : Int} (h : d.off = false) (h2 : hasB d b = false) : readE d b = 2 ∧ readB d b = [] := by
  have e : readE d b = 2 := by rw [readE, h, h2]; rfl
  exact ⟨e, by rw [readB, e]; rfl⟩
theorem rd_flt {d : DvP} {b : Int} (h : d.off = false) (h2 : hasB d b = true) (h3 : d.rd b.toNat = true) : readE d b = 11 ∧ readB d b = [] := by
  have e : readE d b = 11 := by rw [readE, h, h2, h3]; rfl
  exact ⟨e, by rw [readB, e]; rfl⟩
theorem rd_ok {d : DvP} {b : Int} (h : d.off = false) (h2 : hasB d b = true) (h3 : d.rd b.toNat = false) : readE d b = 0 ∧ readB d b = contD d b := by
  have e : readE d b = 0 := by rw [readE, h, h2, h3]; rfl
  exact ⟨e, by rw [readB, e]; rfl⟩
theorem rdy_t {d : DvP} : neI (rdyE d) 0 = true ↔ d.off = true := by
  unfold rdyE neI
  cases d.off <;> simp
theorem rdy_f {d : DvP} : neI (rdyE d) 0 = false ↔ d.off = false := by
  unfold rdyE neI
  cases d.off <;> simp
theorem rdy_v {d : DvP} (h : d.off = true) : rdyE d = 10 := by rw [rdyE, if_pos h]
set_option maxRecDepth 20000 in
theorem vc13 (args : List Arg) (out : Out) (h : (cReadD apf args).to out) (hok : okAs args) :
    args.length = ic13.nargs ∧ ic13.nargs ≤ ic13.ntmps ∧ ∃ A, run apf [(30, fun args => cRdy apf (args.map litA)), (31, fun args => cHas apf (args.map litA)), (34, fun args => cCont apf (args.map litA)), (33, cCloneF apf)] A ic13.body (fnQ apf args out ic13.res) (st0 [] false args) := by
  unfold cReadD at h
  split at h
  · cases h
    refine ⟨rfl, by decide, [], ?_⟩
    generalize hap : apf = ap
    cbv
    repeat' first
      | exact True.intro
      | (intro (hh : _ = true); first | with_reducible exact absurd hh (bk_t (by assumption)) | cbv)
      | (intro (hh : _ = false); first | with_reducible exact absurd hh (bk_f (by assumption)) | cbv)
      | with_reducible refine And.intro ?_ ?_
      | fail
    all_goals subst hap
    all_goals first
      | (simp only [apf_e, eqI', *]; done)
      | (simp_all [apf_e, cmF, neI]; done)
      | (simp_all [apf_e, onD, rdyE, hasB, failD, cmE, btE, cmF, geI, ltI, gtI, eqRows, eqN, eqI', eqB', leN, addN, V.cnt, neI, lenI, isBk_s, isWr_s, isBl_s, unbks_s, unwrs_s, unbls_s]; omega)
      | trace_state
  · rename_i c b
    obtain ⟨d, h1, hw, h⟩ := bind_to h
    cases h
    cases dvR_to h1
    have hL := fun hb => cont_len (b := b) hok.1 hb
    clear hok h h1
    refine ⟨rfl, by decide, [], ?_⟩
    generalize hap : apf = ap
    cbv
    repeat' first
      | exact True.intro
      | (intro (hh : _ = true); first | with_reducible exact absurd hh (bk_t (by assumption)) | cbv)
      | (intro (hh : _ = false); first | with_reducible exact absurd hh (bk_f (by assumption)) | cbv)
      | with_reducible refine And.intro ?_ ?_
      | fail
    all_goals subst hap
    all_goals simp only [apf_e, cmF, unbks_s, unwrs_s, unbls_s, dv_eta, isBk_s, isWr_s, isBl_s, notB, addN, Nat.zero_add, rdy_t, rdy_f] at *
    all_goals try simp only [Bool.not_eq_eq_eq_not, Bool.not_true, Bool.not_false] at *
    all_goals first
      | (simp only [eqN, eqI', eqB', leN, V.cnt, Nat.le_refl, eqRows, implies_true]; done)
      | exact hw
      | (have e := rd_off (d := d) (b := b) (by assumption)
         simp only [e.1, e.2, rdy_v (d := d) (by assumption), eqN, eqI', eqL', llen, List.length_nil]
         done)
      | (have e := rd_no (d := d) (b := b) (by assumption) (by assumption)
         simp only [e.1, e.2, eqN, eqI', eqL', llen, List.length_nil]
         done)
      | (have e := rd_flt (d := d) (b := b) (by assumption) (by assumption) (by assumption)
         simp only [e.1, e.2, eqN, eqI', eqL', llen, List.length_nil]
         done)
      | (have e := rd_ok (d := d) (b := b) (by assumption) (by assumption) (by assumption)
         simp only [e.1, e.2, eqN, eqI', eqL', llen, hL (by assumption)]
         done)
      | (have hb : hasB d b = true := by assumption
         first
           | exact hb
           | exact (hasB_t.1 hb).1
           | exact hw.1.symm ▸ has_lt hb)
      | (show (_ : Nat) ≤ _
         decide)
      | (show (_ : Nat) < _
         decide)
      | trace_state
  · exact h.elim
theorem s13 : Sound Try.prog [] 13 (pu 13) (fun args => cReadD apf (args.map litA)) := (fn_sound rfl Try.call13 ok13 co13 (env_cons s30 (env_cons s31 (env_cons s34 (env_cons s33f env_nil)))) vc13).lits
end Go.Cx.Rd
/- CxdS7 -/
namespace Go.Cx.Rd
open Go Go.Cx Go.Proofs
def appW (T : Nat → Int × List Int) (n : Nat) (x : Int × List Int) (j : Nat) : Int × List Int := if j < n then T j else x
def addD (d : DvP) (b : Int) (l : List Int) : DvP := { d with nt := d.nt + 1, T := appW d.T d.nt (b, l), ng := d.ng + 1, G := appW d.G d.ng (b, l) }
def wrtE (d : DvP) (b : Int) (n : Nat) : Int := if d.off then 10 else if hasB d b then (if neI (lenI n) 512 then 3 else if neI (stepE d) 0 then stepE d else if (stepD d).wr b.toNat then 11 else 0) else 2
def wrtD (d : DvP) (b : Int) (n : Nat) (l : List Int) : DvP :=
  if d.off then d else if hasB d b then (if neI (lenI n) 512 then d else if neI (stepE d) 0 then stepD d else if (stepD d).wr b.toNat then stepD d else addD (stepD d) b l) else d
def roomD (d : DvP) : Prop := d.nt < 1000000 ∧ d.ng < 1000000
theorem wr_off {d : DvP} {b : Int} {n : Nat} {l : List Int} (h : d.off = true) : wrtE d b n = rdyE d ∧ wrtD d b n l = d := by rw [wrtE, wrtD, rdy_v h, h]; exact ⟨rfl, rfl⟩
theorem wr_no {d : DvP} {b : Int} {n : Nat} {l : List Int} (h : d.off = false) (h2 : hasB d b = false) : wrtE d b n = 2 ∧ wrtD d b n l = d := by rw [wrtE, wrtD, h, h2]; exact ⟨rfl, rfl⟩
theorem wr_len {d : DvP} {b : Int} {n : Nat} {l : List Int} (h : d.off = false) (h2 : hasB d b = true) (h3 : neI (lenI n) 512 = true) : wrtE d b n = 3 ∧ wrtD d b n l = d := by rw [wrtE, wrtD, h, h2, h3]; exact ⟨rfl, rfl⟩
theorem wr_st {d : DvP} {b : Int} {n : Nat} {l : List Int} (h : d.off = false) (h2 : hasB d b = true) (h3 : neI (lenI n) 512 = false) (h4 : neI (stepE d) 0 = true) : wrtE d b n = stepE d ∧ wrtD d b n l = stepD d := by rw [wrtE, wrtD, h, h2, h3, h4]; exact ⟨rfl, rfl⟩
theorem wr_flt {d : DvP} {b : Int} {n : Nat} {l : List Int} (h : d.off = false) (h2 : hasB d b = true) (h3 : neI (lenI n) 512 = false) (h4 : neI (stepE d) 0 = false) (h5 : (stepD d).wr (natI b) = true) : wrtE d b n = 11 ∧ wrtD d b n l = stepD d := by
  have h5 : (stepD d).wr b.toNat = true := h5
  rw [wrtE, wrtD, h, h2, h3, h4, h5]; exact ⟨rfl, rfl⟩
theorem wr_ok {d : DvP} {b : Int} {n : Nat} {l : List Int} (h : d.off = false) (h2 : hasB d b = true) (h3 : neI (lenI n) 512 = false) (h4 : neI (stepE d) 0 = false) (h5 : (stepD d).wr (natI b) = false) : wrtE d b n = 0 ∧ wrtD d b n l = addD (stepD d) b l := by
  have h5 : (stepD d).wr b.toNat = false := h5
  rw [wrtE, wrtD, h, h2, h3, h4, h5]; exact ⟨rfl, rfl⟩
theorem step_nw {d : DvP} : (stepD d).nw = d.nw := by
  unfold stepD
  split
  · split <;> rfl
  · rfl
theorem step_nt {d : DvP} : (stepD d).nt ≤ d.nt := by
  unfold stepD
  split
  · split
    · exact Nat.le_refl _
    · exact Nat.zero_le _
  · exact Nat.le_refl _
theorem step_ng {d : DvP} : (stepD d).ng = d.ng := by
  unfold stepD
  split
  · split <;> rfl
  · rfl
theorem nw_lt {d : DvP} {b : Int} (hw : wfD d) (hb : hasB d b = true) : ltN (natI b) (stepD d).nw := by
  rw [step_nw, hw.2.1]
  exact has_lt hb
theorem len_512 {m : Nat} (h : neI (lenI m) 512 = false) : ltN 0 m ∧ leN m 140737488355328 := by
  have h : (m : Int) = 512 := ne_f'.1 h
  exact ⟨show 0 < m by omega, show m ≤ _ by omega⟩
theorem app_nt {d : DvP} (h : roomD d) : appN 32 ((stepD d).nt + 1) := by
  have h1 := h.1
  have := step_nt (d := d)
  show ((stepD d).nt + 1) * 32 ≤ 140737488355328
  omega
theorem app_ng {d : DvP} (h : roomD d) : appN 32 ((stepD d).ng + 1) := by
  have h1 := h.2
  show ((stepD d).ng + 1) * 32 ≤ 140737488355328
  rw [step_ng]
  omega
theorem rows_add {T : Nat → Int × List Int} {n m : Nat} {b : Int} {l : List Int} (hm : neI (lenI m) 512 = false) (hl : l.length = m) : eqRows (n + 1) (wrV apf (appW T n (b, l))) fun j =>
    catR (fun j => wrV apf T j) n (fun j => lkV (V.cat 1 1 (V.lit IntKind.i64 0) V.nsl) [(0, V.cat 1 1 (V.int IntKind.i64 b) (V.dsl m 1 (V.ints IntKind.u8 m (subL l 0 m))))] j) j := by
  have hm : (m : Int) = 512 := ne_f'.1 hm
  have hm : m = 512 := by omega
  have sl : subL l 0 m = l := subL_all (Nat.le_of_eq hl)
  rw [sl]
  subst hm
  intro j hj
  by_cases h : j < n
  · simp [wrV, appW, catR, h, apf_e]
  · obtain rfl : j = n := by omega
    simp [wrV, appW, catR, lkV, apf_e]
def cWrite (ap : AP) : Ctr
  | [.v .nilp, .v (.int .i64 _), .b _ 1 (.ints .u8 _ _)] => .ok ⟨.int .i64 1, [], []⟩
  | [.o c none, .v (.int .i64 b), .b n 1 (.ints .u8 _ l)] => (dvR ap c).bind fun d => .chk (ap _ _ wfD d) <| .chk (ap _ _ roomD d) <|
      .ok ⟨.int .i64 (ap _ _ (ap _ _ (ap _ _ wrtE d) b) n), [dvA ap (ap _ _ (ap _ _ (ap _ _ (ap _ _ wrtD d) b) n) l)], []⟩
  | _ => .fail 460
set_option maxRecDepth 20000 in
set_option maxHeartbeats 2000000 in
theorem vc10 (args : List Arg) (out : Out) (h : (cWrite apf args).to out) (hok : okAs args) :
    args.length = ic10.nargs ∧ ic10.nargs ≤ ic10.ntmps ∧ ∃ A, run apf [(30, fun args => cRdy apf (args.map litA)), (31, fun args => cHas apf (args.map litA)), (32, fun args => cStep apf (args.map litA)), (33, cCloneF apf)] A ic10.body (fnQ apf args out ic10.res) (st0 [] false args) := by
  unfold cWrite at h
  split at h
  · cases h
    refine ⟨rfl, by decide, [], ?_⟩
    generalize hap : apf = ap
    cbv
    repeat' first
      | exact True.intro
      | (intro (hh : _ = true); first | with_reducible exact absurd hh (bk_t (by assumption)) | cbv)
      | (intro (hh : _ = false); first | with_reducible exact absurd hh (bk_f (by assumption)) | cbv)
      | with_reducible refine And.intro ?_ ?_
      | fail
    all_goals subst hap
    all_goals first
      | (simp only [apf_e, eqI', *]; done)
      | (simp_all [apf_e, cmF, neI]; done)
      | (simp_all [apf_e, onD, rdyE, hasB, failD, cmE, btE, cmF, geI, ltI, gtI, eqRows, eqN, eqI', eqB', leN, addN, V.cnt, neI, lenI, isBk_s, isWr_s, isBl_s, unbks_s, unwrs_s, unbls_s]; omega)
      | trace_state
  · rename_i c b n m l
    obtain ⟨d, h1, hw, hr, h⟩ := bind_to h
    cases h
    cases dvR_to h1
    obtain ⟨_, _, ⟨hn, ⟨rfl, _⟩, hl⟩, _⟩ := hok
    clear h h1
    refine ⟨rfl, by decide, [], ?_⟩
    generalize hap : apf = ap
    cbv
    repeat' first
      | exact True.intro
      | (intro (hh : _ = true); first | with_reducible exact absurd hh (bk_t (by assumption)) | cbv)
      | (intro (hh : _ = false); first | with_reducible exact absurd hh (bk_f (by assumption)) | cbv)
      | with_reducible refine And.intro ?_ ?_
      | fail
    all_goals subst hap
    all_goals simp only [apf_e, cmF, unbks_s, unwrs_s, unbls_s, dv_eta, isBk_s, isWr_s, isBl_s, notB, addN, Nat.zero_add, rdy_t, rdy_f] at *
    all_goals try simp only [Bool.not_eq_eq_eq_not, Bool.not_true, Bool.not_false] at *
    all_goals first
      | (simp only [eqN, eqI', eqB', leN, V.cnt, Nat.le_refl, eqRows]; done)
      | exact hw
      | (have e := wr_off (d := d) (b := b) (n := m) (l := l) (by assumption)
         simp only [e.1, e.2, eqN, eqI', eqB', eqRows, implies_true]
         done)
      | (have e := wr_no (d := d) (b := b) (n := m) (l := l) (by assumption) (by assumption)
         simp only [e.1, e.2, eqN, eqI', eqB', eqRows, implies_true]
         done)
      | (have e := wr_len (d := d) (b := b) (n := m) (l := l) (by assumption) (by assumption) (by assumption)
         simp only [e.1, e.2, eqN, eqI', eqB', eqRows, implies_true]
         done)
      | (have e := wr_st (d := d) (b := b) (n := m) (l := l) (by assumption) (by assumption) (by assumption) (by assumption)
         simp only [e.1, e.2, eqN, eqI', eqB', eqRows, implies_true]
         done)
      | (have e := wr_flt (d := d) (b := b) (n := m) (l := l) (by assumption) (by assumption) (by assumption) (by assumption) (by assumption)
         simp only [e.1, e.2, eqN, eqI', eqB', eqRows, implies_true]
         done)
      | (have hb : hasB d b = true := by assumption
         have hm : neI (lenI m) 512 = false := by assumption
         first
           | with_reducible exact (hasB_t.1 hb).1
           | with_reducible exact nw_lt hw hb
           | with_reducible exact (len_512 hm).1
           | with_reducible exact (len_512 hm).2
           | with_reducible exact app_nt hr
           | with_reducible exact app_ng hr)
      | (have e := wr_ok (d := d) (b := b) (n := m) (l := l) (by assumption) (by assumption) (by assumption) (by assumption) (by assumption)
         simp only [e.1, e.2, addD, eqN, eqI', eqB']
         first
           | done
           | exact fun _ _ => rfl
           | exact rows_add (by assumption) hl.1
           | trace_state)
      | trace_state
  · exact h.elim
theorem s10 : Sound Try.prog [] 10 (pu 10) (fun args => cWrite apf (args.map litA)) := (fn_sound rfl Try.call10 ok10 co10 (env_cons s30 (env_cons s31 (env_cons s32 (env_cons s33f env_nil)))) vc10).lits
end Go.Cx.Rd
/- CxdSA -/
namespace Go.Cx.Rd
open Go Go.Cx Go.Proofs
def allT (_ : Nat) : Bool := true
def flE (d : DvP) : Int := if d.off then 10 else stepE d
def flD (d : DvP) : DvP := if d.off then d else if neI (stepE d) 0 then stepD d else { layD (stepD d) allT (stepD d).nt with nt := 0 }
theorem fl_off {d : DvP} (h : d.off = true) : flE d = rdyE d ∧ flD d = d := by rw [flE, flD, rdy_v h, h]; exact ⟨rfl, rfl⟩
theorem fl_st {d : DvP} (h : d.off = false) (h2 : neI (stepE d) 0 = true) : flE d = stepE d ∧ flD d = stepD d := by rw [flE, flD, h, h2]; exact ⟨rfl, rfl⟩
theorem fl_ok {d : DvP} {i : Nat} (h : d.off = false) (h2 : neI (stepE d) 0 = false) (hi : i = (stepD d).nt) : flE d = 0 ∧ flD d = { layD (stepD d) allT i with nt := 0 } := by
  rw [flE, flD, h, h2, hi]
  exact ⟨ne_f'.1 h2, rfl⟩
theorem step_wf {d : DvP} (h : wfD d) : wfD (stepD d) := by
  obtain ⟨h1, h2, h3, h4, h5, h6⟩ := h
  unfold stepD
  split
  · split
    · exact ⟨h1, h2, h3, h4, h5, h6⟩
    · exact ⟨h1, h2, fun j hj => absurd hj (Nat.not_lt_zero _), h4, Nat.zero_le _, h6⟩
  · exact ⟨h1, h2, h3, h4, h5, h6⟩
def cFlush (ap : AP) : Ctr
  | [.v .nilp] => .ok ⟨.int .i64 1, [], []⟩
  | [.o c none] => (dvR ap c).bind fun d => .chk (ap _ _ wfD d) <| .ok ⟨.int .i64 (ap _ _ flE d), [dvA ap (ap _ _ flD d)], []⟩
  | _ => .fail 480
def aFlush (ap : AP) (d : DvP) : List (Nat × Ann) := [
  (0, .inv Nat (fun i => ⟨[(0, .ptr 100000 []), (20, .sl 2209 [] 0 (ap _ _ DvP.nt (ap _ _ stepD d)) 2 none), (21, .int .i64 (ap _ _ lenI (ap _ _ DvP.nt (ap _ _ stepD d)))), (22, .int .i64 (ap _ _ lenI i))],
      dvHs ap 2208 (ap _ _ (ap _ _ (ap _ _ layD (ap _ _ stepD d)) allT) i), []⟩)
    (fun i => ap _ _ (ap _ _ leN i) (ap _ _ DvP.nt (ap _ _ stepD d))) (fun i => ap _ _ (ap _ _ subN (ap _ _ DvP.nt (ap _ _ stepD d))) i))]
set_option maxRecDepth 20000 in
set_option maxHeartbeats 2000000 in
theorem vc17 (args : List Arg) (out : Out) (h : (cFlush apf args).to out) (hok : okAs args) :
    args.length = ic17.nargs ∧ ic17.nargs ≤ ic17.ntmps ∧ ∃ A, run apf [(30, fun args => cRdy apf (args.map litA)), (32, fun args => cStep apf (args.map litA))] A ic17.body (fnQ apf args out ic17.res) (st0 [] false args) := by
  unfold cFlush at h
  split at h
  · cases h
    refine ⟨rfl, by decide, [], ?_⟩
    generalize hap : apf = ap
    cbv
    repeat' first
      | exact True.intro
      | (intro (hh : _ = true); first | with_reducible exact absurd hh (bk_t (by assumption)) | cbv)
      | (intro (hh : _ = false); first | with_reducible exact absurd hh (bk_f (by assumption)) | cbv)
      | with_reducible refine And.intro ?_ ?_
      | fail
    all_goals subst hap
    all_goals first
      | (simp only [apf_e, eqI', *]; done)
      | (simp_all [apf_e, cmF, neI]; done)
      | (simp_all [apf_e, onD, rdyE, hasB, failD, cmE, btE, cmF, geI, ltI, gtI, eqRows, eqN, eqI', eqB', leN, addN, V.cnt, neI, lenI, isBk_s, isWr_s, isBl_s, unbks_s, unwrs_s, unbls_s]; omega)
      | trace_state
  · rename_i c
    obtain ⟨d, h1, hw, h⟩ := bind_to h
    cases h
    cases dvR_to h1
    clear hok h h1
    obtain ⟨w1, w2, w3, w4, w5, w6⟩ := step_wf hw
    refine ⟨rfl, by decide, aFlush apf d, ?_⟩
    have hP : apf _ _ (apf _ _ leN 0) (apf _ _ DvP.nt (apf _ _ stepD d)) := Nat.zero_le _
    generalize hap : apf = ap at hP ⊢
    cbv
    repeat' first
      | exact True.intro
      | (intro (hh : _ = true); first | with_reducible exact absurd hh (bk_t (by assumption)) | cbv)
      | (intro (hh : _ = false); first | with_reducible exact absurd hh (bk_f (by assumption)) | cbv)
      | with_reducible refine And.intro ?_ ?_
      | (refine ⟨0, hP, ?_⟩; cbv)
      | fail
    all_goals first
      | (intro (i : Nat) hi k1 k2
         clear k1 k2
         cbv
         repeat' first
           | exact True.intro
           | (intro (hh : _ = true); first | with_reducible exact absurd hh (bk_t (by assumption)) | cbv)
           | (intro (hh : _ = false); first | with_reducible exact absurd hh (bk_f (by assumption)) | cbv)
           | with_reducible refine And.intro ?_ ?_
           | (refine ⟨ap _ _ sucN i, ?_, (?_ : _ < _), ?_⟩; rotate_left 2; try cbv))
      | skip
    all_goals subst hap
    all_goals simp only [apf_e, cmF, ltI, layD, unbks_s, unwrs_s, unbls_s, dv_eta, isBk_s, isWr_s, isBl_s, addN, Nat.zero_add, rdy_t, rdy_f, decide_eq_true_eq, decide_eq_false_iff_not] at *
    all_goals first
      | (simp only [eqRows, eqN, eqI', eqB', leN, V.cnt, Nat.le_refl, implies_true]; done)
      | exact hw
      | with_reducible exact fun _ _ => rfl
      | exact (rfl : lenI 0 = 0)
      | (have e := fl_off (d := d) (by assumption)
         simp only [e.1, e.2, eqRows, eqN, eqI', eqB', implies_true]
         done)
      | (have e := fl_st (d := d) (by assumption) (by assumption)
         simp only [e.1, e.2, eqRows, eqN, eqI', eqB', implies_true]
         done)
      | exact Int.natCast_nonneg _
      | (have hlt : i < (stepD d).nt := Int.ofNat_lt.1 (by assumption)
         first
           | exact hlt
           | exact (w3 i hlt).1
           | exact idx_lt (w3 i hlt)
           | exact len_suc hlt w5
           | exact sub_lt' hlt
           | exact lay_rows_yes (s := allT) rfl)
      | (have he : i = (stepD d).nt := Nat.le_antisymm hi (Nat.le_of_not_lt fun h => absurd (Int.ofNat_lt.2 h) (by assumption))
         have e := fl_ok (d := d) (by assumption) (by assumption) he
         simp only [e.1, e.2, layD, eqRows, eqN, eqI', eqB', implies_true]
         done)
      | exact fun _ _ => rfl
      | trace_state
  · exact h.elim
theorem s17 : Sound Try.prog [] 17 (pu 17) (fun args => cFlush apf (args.map litA)) := (fn_sound rfl Try.call17 ok17 co17 (env_cons s30 (env_cons s32 env_nil)) vc17).lits
end Go.Cx.Rd
/- CxdS8 -/
namespace Go.Cx.Rd
open Go Go.Cx Go.Proofs
def advE (d : DvP) (to : Int) : Int := if d.off then 10 else if leI to d.cm then 16 else if gtI to 281474976710655 then 16 else if neI (stepE d) 0 then stepE d else 0
def advD (d : DvP) (to : Int) : DvP := if d.off then d else if leI to d.cm then d else if gtI to 281474976710655 then d else if neI (stepE d) 0 then stepD d else { stepD d with cm := to }
theorem av_off {d : DvP} {t : Int} (h : d.off = true) : (advE d t = rdyE d ∧ rdyE d = 10) ∧ advD d t = d := by rw [advE, advD, rdy_v h, h]; exact ⟨⟨rfl, rfl⟩, rfl⟩
theorem av_le {d : DvP} {t : Int} (h : d.off = false) (h2 : leI t d.cm = true) : advE d t = 16 ∧ advD d t = d := by rw [advE, advD, h, h2]; exact ⟨rfl, rfl⟩
theorem av_gt {d : DvP} {t : Int} (h : d.off = false) (h2 : leI t d.cm = false) (h3 : gtI t 281474976710655 = true) : advE d t = 16 ∧ advD d t = d := by rw [advE, advD, h, h2, h3]; exact ⟨rfl, rfl⟩
theorem av_st {d : DvP} {t : Int} (h : d.off = false) (h2 : leI t d.cm = false) (h3 : gtI t 281474976710655 = false) (h4 : neI (stepE d) 0 = true) : advE d t = stepE d ∧ advD d t = stepD d := by rw [advE, advD, h, h2, h3, h4]; exact ⟨rfl, rfl⟩
theorem av_ok {d : DvP} {t : Int} (h : d.off = false) (h2 : leI t d.cm = false) (h3 : gtI t 281474976710655 = false) (h4 : neI (stepE d) 0 = false) : advE d t = 0 ∧ advD d t = { stepD d with cm := t } := by rw [advE, advD, h, h2, h3, h4]; exact ⟨rfl, rfl⟩
def cAdv (ap : AP) : Ctr
  | [.v .nilp, .v (.int .u64 _)] => .ok ⟨.int .i64 1, [], []⟩
  | [.o c none, .v (.int .u64 t)] => (dvR ap c).bind fun d => .chk (ap _ _ wfD d) <| .ok ⟨.int .i64 (ap _ _ (ap _ _ advE d) t), [dvA ap (ap _ _ (ap _ _ advD d) t)], []⟩
  | _ => .fail 470
set_option maxRecDepth 20000 in
set_option maxHeartbeats 2000000 in
theorem vc27 (args : List Arg) (out : Out) (h : (cAdv apf args).to out) (hok : okAs args) :
    args.length = ic27.nargs ∧ ic27.nargs ≤ ic27.ntmps ∧ ∃ A, run apf [(30, fun args => cRdy apf (args.map litA)), (32, fun args => cStep apf (args.map litA))] A ic27.body (fnQ apf args out ic27.res) (st0 [] false args) := by
  unfold cAdv at h
  split at h
  · cases h
    refine ⟨rfl, by decide, [], ?_⟩
    generalize hap : apf = ap
    cbv
    repeat' first
      | exact True.intro
      | (intro (hh : _ = true); first | with_reducible exact absurd hh (bk_t (by assumption)) | cbv)
      | (intro (hh : _ = false); first | with_reducible exact absurd hh (bk_f (by assumption)) | cbv)
      | with_reducible refine And.intro ?_ ?_
      | fail
    all_goals subst hap
    all_goals first
      | (simp only [apf_e, eqI', *]; done)
      | (simp_all [apf_e, cmF, neI]; done)
      | (simp_all [apf_e, onD, rdyE, hasB, failD, cmE, btE, cmF, geI, ltI, gtI, eqRows, eqN, eqI', eqB', leN, addN, V.cnt, neI, lenI, isBk_s, isWr_s, isBl_s, unbks_s, unwrs_s, unbls_s]; omega)
      | trace_state
  · rename_i c t
    obtain ⟨d, h1, hw, h⟩ := bind_to h
    cases h
    cases dvR_to h1
    clear hok h h1
    refine ⟨rfl, by decide, [], ?_⟩
    generalize hap : apf = ap
    cbv
    repeat' first
      | exact True.intro
      | (intro (hh : _ = true); first | with_reducible exact absurd hh (bk_t (by assumption)) | cbv)
      | (intro (hh : _ = false); first | with_reducible exact absurd hh (bk_f (by assumption)) | cbv)
      | with_reducible refine And.intro ?_ ?_
      | fail
    all_goals subst hap
    all_goals simp only [apf_e, cmF, unbks_s, unwrs_s, unbls_s, dv_eta, isBk_s, isWr_s, isBl_s, addN, Nat.zero_add, rdy_t, rdy_f] at *
    all_goals try simp only [Bool.not_eq_eq_eq_not, Bool.not_true, Bool.not_false] at *
    all_goals first
      | (simp only [eqN, eqI', eqB', leN, V.cnt, Nat.le_refl, eqRows]; done)
      | exact hw
      | (have e := av_off (d := d) (t := t) (by assumption)
         simp only [e.1.1, e.1.2, e.2, eqN, eqI', eqB', eqRows, implies_true]
         done)
      | (have e := av_le (d := d) (t := t) (by assumption) (by assumption)
         simp only [e.1, e.2, eqN, eqI', eqB', eqRows, implies_true]
         done)
      | (have e := av_gt (d := d) (t := t) (by assumption) (by assumption) (by assumption)
         simp only [e.1, e.2, eqN, eqI', eqB', eqRows, implies_true]
         done)
      | (have e := av_st (d := d) (t := t) (by assumption) (by assumption) (by assumption) (by assumption)
         simp only [e.1, e.2, eqN, eqI', eqB', eqRows, implies_true]
         done)
      | (have e := av_ok (d := d) (t := t) (by assumption) (by assumption) (by assumption) (by assumption)
         simp only [e.1, e.2, eqN, eqI', eqB', eqRows, implies_true]
         done)
      | trace_state
  · exact h.elim
theorem s27 : Sound Try.prog [] 27 (pu 27) (fun args => cAdv apf (args.map litA)) := (fn_sound rfl Try.call27 ok27 co27 (env_cons s30 (env_cons s32 env_nil)) vc27).lits
end Go.Cx.Rd
/- CxdSD -/
namespace Go.Cx.Rd
open Go Go.Cx Go.Proofs
def dF : DvP := newD 2 0 0
def dF1 : DvP := addD (stD dF) 0 (zerosI 512)
def dF2 : DvP := { stD dF1 with cm := 5 }
theorem dF_w : wrtE dF 0 512 = 0 ∧ wrtD dF 0 512 (zerosI 512) = dF1 := ⟨rfl, rfl⟩
theorem dF1_w {l : List Int} : wrtE dF1 0 511 = 3 ∧ wrtD dF1 0 511 l = dF1 := ⟨rfl, rfl⟩
theorem dF1_a : advE dF1 5 = 0 ∧ advD dF1 5 = dF2 := ⟨rfl, rfl⟩
theorem dF2_a : advE dF2 5 = 16 ∧ advD dF2 5 = dF2 := ⟨rfl, rfl⟩
theorem dF_wf : wfD dF := ⟨rfl, rfl, fun _ h => absurd h (Nat.not_lt_zero _), by decide, by decide, by decide⟩
theorem dF1_wf : wfD dF1 := ⟨rfl, rfl, fun j h => by
  obtain rfl : j = 0 := Nat.lt_one_iff.1 h
  exact (by decide : (0 : Int) ≤ 0 ∧ (0 : Int) < 2), by decide, by decide, by decide⟩
theorem dF2_wf : wfD dF2 := dF1_wf
def cFixd (_ : AP) : Ctr
  | [] => .ok ⟨.tt, [], []⟩
  | _ => .fail 492
theorem newOk_lit : apf Int Prop (apf Int (Int → Prop) (apf Int (Int → Int → Prop) newOk 2) 0) 0 := (rfl : newB 2 0 0 = false)
set_option maxRecDepth 20000 in
set_option maxHeartbeats 2000000 in
theorem vc9 (args : List Arg) (out : Out) (h : (cFixd apf args).to out) (hok : okAs args) :
    args.length = ic9.nargs ∧ ic9.nargs ≤ ic9.ntmps ∧ ∃ A, run apf [(8, fun args => cNewY apf (args.map litA)), (10, fun args => cWrite apf (args.map litA)), (27, fun args => cAdv apf (args.map litA)), (19, fun args => cNb apf (args.map litA))] A ic9.body (fnQ apf args out ic9.res) (st0 [] true args) := by
  unfold cFixd at h
  split at h
  · cases h
    clear hok
    refine ⟨rfl, by decide, [], ?_⟩
    generalize hap : apf = ap
    cbv
    repeat' first
      | exact True.intro
      | (intro (hh : _ = true); first | with_reducible exact absurd hh (bk_t (by assumption)) | cbv)
      | (intro (hh : _ = false); first | with_reducible exact absurd hh (bk_f (by assumption)) | cbv)
      | with_reducible refine And.intro ?_ ?_
      | fail
    all_goals subst hap
    all_goals simp only [apf_e, cmF, unbks_s, unwrs_s, unbls_s, dv_eta, isBk_s, isWr_s, isBl_s, show newD 2 0 0 = dF from rfl] at *
    all_goals try simp only [show subL (zerosI 512) 0 512 = zerosI 512 from rfl, dF_w.1, dF_w.2, dF1_w.2, dF1_a.1, dF1_a.2, dF2_a.1, dF2_a.2] at *
    all_goals first
      | exact newOk_lit
      | exact dF_wf
      | exact dF1_wf
      | exact dF2_wf
      | exact ⟨by decide, by decide⟩
      | exact (by decide : 1 * 512 ≤ 140737488355328)
      | exact (by decide : 1 * 511 ≤ 140737488355328)
      | with_reducible rfl
      | exact (rfl : dF.nb = _)
      | (simp only [eqN]; done)
      | exact (by decide : 0 + 512 ≤ 512)
      | exact (by decide : 0 + 511 ≤ 511)
      | (exfalso
         have h : neI 3 3 = true := by assumption
         exact absurd h (by decide))
      | (exfalso
         have h : eqI (lenI 2) 2 = false := by assumption
         exact absurd h (by decide))
      | (exfalso
         have h : neI 16 16 = true := by assumption
         exact absurd h (by decide))
      | (exfalso
         simp [neI] at *
         done)
      | trace_state
  · exact h.elim
theorem s9 : Sound Try.prog [] 9 (pu 9) (cFixd apf) := fn_sound rfl Try.call9 ok9 co9 (env_cons s8y (env_cons s10 (env_cons s27 (env_cons s19 env_nil)))) vc9
/-- .. filled for good -/
def cFilledF (ap : AP) : Ctr
  | [.v (.int .u8 c), .v (.int .i64 n)] => .chk (ap _ _ (ap _ _ eqI' n) 512) <| .ok ⟨.dsl 512 1 (.ints .u8 512 (ap _ _ (ap _ _ filI c) 512)), [], []⟩
  | _ => .fail 490
theorem s11a : Sound Try.prog [] 11 (pu 11) (cFilled apf) := fn_sound rfl Try.call11 ok11 co11 env_nil vc11
set_option maxRecDepth 20000 in
theorem s11b : Sound Try.prog [] 11 (pu 11) (cFilledF apf) := s11a.freeze fun args out' h => by
  unfold cFilledF at h
  split at h
  · rename_i c n
    obtain ⟨h1, h⟩ := h
    cases h
    exact ⟨⟨.sl 0 [] 0 512 1 none, [], [.ints .u8 512 (filI c 512)]⟩, ⟨h1, rfl⟩, by show 1 ≤ 1000; decide, rfl, rfl, by simp [V.clo, V.noown], by simp, rfl, rfl, _, rfl, ⟨rfl, rfl⟩, rfl⟩
  · exact h.elim
theorem s11f : Sound Try.prog [] 11 (pu 11) (fun args => cFilledF apf (args.map litA)) := s11b.lits
end Go.Cx.Rd
/- CxdSF -/
namespace Go.Cx.Rd
open Go Go.Cx Go.Proofs
/-- a call of a script -/
structure OpP where
  k : Int
  b : Int
  c : Int
  n : Int
  g : Bool
def opV (ap : AP) (z : Nat → OpP) (j : Nat) : V := .cat 1 4 (.int .i64 (ap _ _ OpP.k (ap _ _ z j))) (.cat 1 3 (.int .i64 (ap _ _ OpP.b (ap _ _ z j))) (.cat 1 2 (.int .u8 (ap _ _ OpP.c (ap _ _ z j)))
  (.cat 1 1 (.int .u64 (ap _ _ OpP.n (ap _ _ z j))) (.bool (ap _ _ OpP.g (ap _ _ z j))))))
def unop : V → OpP
  | .cat _ _ (.int _ k) (.cat _ _ (.int _ b) (.cat _ _ (.int _ c) (.cat _ _ (.int _ n) (.bool g)))) => ⟨k, b, c, n, g⟩
  | _ => ⟨0, 0, 0, 0, false⟩
def unops (f : Nat → V) (j : Nat) : OpP := unop (f j)
def isOps (f : Nat → V) : Prop := f = opV apf (unops f)
theorem isOps_s (z : Nat → OpP) : isOps (opV apf z) := rfl
end Go.Cx.Rd
/- CxdLaw1 -/
namespace Go.Proofs.Ytojllgpnhaaagaa.Law
open Go Go.ChangeShapes Go.WideShapes Go.ChangeAt Go.RowKit Go.Cx Go.Cx.Rd Go.ChangeMaps
theorem own : ownKnob Try.prog.godebug = none := by kernel_rfl
theorem cells5 : Try.prog.cellsOf 5 = 1 := by kernel_rfl
theorem cells3 : Try.prog.cellsOf 3 = 1 := by kernel_rfl
theorem cells4 : Try.prog.cellsOf 4 = 1 := by kernel_rfl
theorem cells27 : Try.prog.cellsOf 27 = 1 := by kernel_rfl
theorem cells36 : Try.prog.cellsOf 36 = 5 := by kernel_rfl
/-- no variables -/
theorem noG {W : World} : ∀ n c, Go.Cx.look ([] : List (Nat × V)) n = some c → GloIs W n c := fun n c h => by cases h
noncomputable def laidWorld (os : Os) : World := World.holding Try.prog os ⟨#[], #[], []⟩
theorem laid_met (os : Os) (args : Array Value) : laidMet Try.prog [] ((laidWorld os).forCall (fun _ _ => 0) ⟨#[], args, []⟩).memory :=
  laidMet_of_run' 8 (by kernel_rfl) (by kernel_rfl)
/-- a call of a script -/
def opC (k b f n : Int) (g : Bool) : V := .cat 1 4 (.int .i64 k) (.cat 1 3 (.int .i64 b) (.cat 1 2 (.int .u8 f) (.cat 1 1 (.int .u64 n) (.bool g))))
def isOp (c : V) : Prop := ∃ k b f n g, c = opC k b f n g
theorem piece_op {H : Type} {enc : TypeId × Value → H} {W : World} {fuel : Nat} {cs : List Value} {x : DataW H × List MemPlace} (h : DataW.trod enc Try.prog W 0 (fun _ => true) true fuel 36 cs = some x) :
    ∃ k b f n g, Piece W cs (opC k b f n g) := by
  obtain ⟨xs, n, _, _, hl, hlen, hf⟩ := DataW.trod_struct Try.underlying36 h
  rw [cells36] at hl
  match xs, hlen with
  | [y0, y1, y2, y3, y4], _ =>
    have h0 : DataW.trod enc Try.prog W 0 (fun _ => true) true n 3 ((cs.drop 0).take (Try.prog.cellsOf 3)) = some y0 := hf 0 _ rfl
    rw [cells3] at h0
    have h1 : DataW.trod enc Try.prog W 0 (fun _ => true) true n 3 ((cs.drop 1).take (Try.prog.cellsOf 3)) = some y1 := hf 1 _ rfl
    rw [cells3] at h1
    have h2 : DataW.trod enc Try.prog W 0 (fun _ => true) true n 5 ((cs.drop 2).take (Try.prog.cellsOf 5)) = some y2 := hf 2 _ rfl
    rw [cells5] at h2
    have h3 : DataW.trod enc Try.prog W 0 (fun _ => true) true n 27 ((cs.drop 3).take (Try.prog.cellsOf 27)) = some y3 := hf 3 _ rfl
    rw [cells27] at h3
    have h4 : DataW.trod enc Try.prog W 0 (fun _ => true) true n 4 ((cs.drop 4).take (Try.prog.cellsOf 4)) = some y4 := hf 4 _ rfl
    rw [cells4] at h4
    obtain ⟨k, p0⟩ := piece_int Try.underlying3 h0
    obtain ⟨b, p1⟩ := piece_int Try.underlying3 h1
    obtain ⟨f, p2⟩ := piece_int Try.underlying5 h2
    obtain ⟨m, p3⟩ := piece_int Try.underlying27 h3
    obtain ⟨g, p4⟩ := piece_bool Try.underlying4 h4
    have e4 : (cs.drop 4).take 1 = cs.drop 4 := List.take_of_length_le (by simp; omega)
    rw [e4] at p4
    have q3 := Piece.cat (n := 1) (cs := cs.drop 3) p3 (by simp; omega) (by rw [List.drop_drop]; exact p4)
    have q2 := Piece.cat (n := 1) (cs := cs.drop 2) p2 (by simp; omega) (by rw [List.drop_drop]; exact q3)
    have q1 := Piece.cat (n := 1) (cs := cs.drop 1) p1 (by simp; omega) (by rw [List.drop_drop]; exact q2)
    have q0 := Piece.cat (n := 1) (cs := cs) p0 (by omega) q1
    simp only [List.length_drop, hl] at q0
    exact ⟨k, b, f, m, g, q0⟩
theorem op_row {f : Nat → V} (h : ∀ j, isOp (f j)) : ∃ z : Nat → OpP, f = opV apf z := by
  have h : ∀ j, ∃ z : OpP, f j = opC z.k z.b z.c z.n z.g := fun j => by
    obtain ⟨k, b, c, n, g, e⟩ := h j
    exact ⟨⟨k, b, c, n, g⟩, e⟩
  obtain ⟨z, hz⟩ := Classical.skolem.1 h
  exact ⟨z, funext hz⟩
set_option maxRecDepth 100000 in
theorem law_ops {H : Type} {enc : TypeId × Value → H} {W : World} {base : Nat} {v : Value} {d : DataW H} {p : List MemPlace} (hval : Value.okWide Try.prog W .any base 22 v) (h : DataW.Trod enc Try.prog W 0 (fun _ => true) true 22 v d p) :
    ∃ m z lo, LArg W (.v (.dsl m 5 (.rows 5 m (opV apf z)))) v lo none ∧ m ≤ 9223372036854775807 := by
  obtain ⟨m, f, lo, h1, h2, h3⟩ := @law_objs H enc Try.prog W 22 36 5 Try.underlying22 cells36 base v d p hval h isOp (opC 0 0 0 0 false) ⟨⟨0, 0, 0, 0, false, rfl⟩, rfl⟩ (fun fuel cs x hx => by
    obtain ⟨k, b, f, n, g, hp⟩ := piece_op hx
    exact ⟨_, ⟨k, b, f, n, g, rfl⟩, rfl, hp⟩)
  obtain ⟨z, rfl⟩ := op_row h1
  exact ⟨m, z, lo, h2, h3⟩
end Go.Proofs.Ytojllgpnhaaagaa.Law
/- CxdSG -/
namespace Go.Cx.Rd
open Go Go.Cx Go.Proofs
def swV (ap : AP) (W : Nat → List Int) (j : Nat) : V := .str (ap _ _ W j)
/-- a number brought into range -/
def blk (n x : Int) : Int := wcv .i64 (arF .rem .u64 (wcv .u64 x) n)
theorem blk_e {n x : Int} : wcv .i64 (arF .rem .u64 (wcv .u64 x) n) = blk n x := rfl
theorem wcv_u64_r (x : Int) : 0 ≤ wcv .u64 x ∧ wcv .u64 x ≤ 18446744073709551615 := inR_u64.1 (inR_wrap .u64 x)
theorem blk_lt {x : Int} {n : Nat} (hn : 0 < n) (hs : n ≤ 1000000) : 0 ≤ blk n x ∧ blk n x < n := by
  have h := wcv_u64_r x
  show 0 ≤ wcv .i64 ((wcv .u64 x).tmod n) ∧ wcv .i64 ((wcv .u64 x).tmod n) < n
  have h1 : 0 ≤ (wcv .u64 x).tmod n := Int.tmod_nonneg _ h.1
  have h2 : (wcv .u64 x).tmod n < n := Int.tmod_lt_of_pos _ (by omega)
  rw [wcv_i64 (by omega)]
  exact ⟨h1, h2⟩
theorem contI_add {d : DvP} {b c : Int} {l : List Int} : ∀ i, i ≤ d.nt → contI (addD d b l) c i = contI d c i := by
  intro i
  induction i with
  | zero => intro _; rfl
  | succ i ih =>
    intro hi
    have e : (addD d b l).T i = d.T i := by show appW d.T d.nt (b, l) i = _; rw [appW, if_pos (by omega)]
    rw [contI, contI, e, ih (by omega)]
theorem cont_add {d : DvP} {b c : Int} {l : List Int} : contD (addD d b l) c = if b = c then l else contD d c := by
  show contI (addD d b l) c (d.nt + 1) = _
  have e : (addD d b l).T d.nt = (b, l) := by show appW d.T d.nt (b, l) d.nt = _; rw [appW, if_neg (Nat.lt_irrefl _)]
  rw [contI, e, contI_add _ (Nat.le_refl _)]
  rfl
theorem contI_st {d : DvP} {c : Int} : ∀ i, contI (stD d) c i = contI d c i := by
  intro i
  induction i with
  | zero => rfl
  | succ i ih => rw [contI, contI, ih]; rfl
theorem cont_st {d : DvP} {c : Int} : contD (stD d) c = contD d c := contI_st _
theorem contI_fault {d : DvP} {b c : Int} {r w : Bool} : ∀ i, contI (faultD d b r w) c i = contI d c i := by
  intro i
  have hL : (faultD d b r w).L = d.L := by unfold faultD; split <;> rfl
  have hT : (faultD d b r w).T = d.T := by unfold faultD; split <;> rfl
  induction i with
  | zero => rw [contI, contI, hL]
  | succ i ih => rw [contI, contI, ih, hT]
theorem cont_fault {d : DvP} {b c : Int} {r w : Bool} : contD (faultD d b r w) c = contD d c := by
  have h : (faultD d b r w).nt = d.nt := by unfold faultD; split <;> rfl
  rw [contD, h, contI_fault]; rfl
theorem wf_add {d : DvP} {b : Int} {l : List Int} (h : wfD d) (hb : hasB d b = true) (hr : roomD d) : wfD (addD d b l) := by
  obtain ⟨h1, h2, h3, h4, h5, h6⟩ := h
  have ⟨q1, q2⟩ := hasB_t.1 hb
  refine ⟨h1, h2, fun j hj => ?_, h4, hr.1, hr.2⟩
  show 0 ≤ (appW d.T d.nt (b, l) j).1 ∧ (appW d.T d.nt (b, l) j).1 < d.nb
  rw [appW]
  split
  · exact h3 j (by omega)
  · exact ⟨q1, q2⟩
theorem wf_fault {d : DvP} {b : Int} {r w : Bool} (h : wfD d) : wfD (faultD d b r w) := by
  unfold faultD
  split
  · exact h
  · exact h
theorem wr_plain {d : DvP} {b : Int} {l : List Int} (h0 : d.off = false) (h1 : d.ps = false) (hb : hasB d b = true) (hw : d.wr b.toNat = false) : wrtE d b 512 = 0 ∧ wrtD d b 512 l = addD (stD d) b l := by
  obtain ⟨e1, e2⟩ := st_no h1
  have h := wr_ok (d := d) (b := b) (n := 512) (l := l) h0 hb rfl (by rw [e2]; rfl) (by rw [e1]; exact hw)
  rw [e1] at h
  exact h
theorem wr_refused {d : DvP} {b : Int} {l : List Int} (h0 : d.off = false) (h1 : d.ps = false) (hb : hasB d b = true) (hw : d.wr b.toNat = true) : wrtE d b 512 = 11 ∧ wrtD d b 512 l = stD d := by
  obtain ⟨e1, e2⟩ := st_no h1
  have h := wr_flt (d := d) (b := b) (n := 512) (l := l) h0 hb rfl (by rw [e2]; rfl) (by rw [e1]; exact hw)
  rw [e1] at h
  exact h
structure FSt where
  i : Nat
  d : DvP
  W : Nat → List Int
def filL (c : Int) : List Int := filI c 512
/-- how the script goes on -/
def fNx (bad : Int) (z : Nat → OpP) (s : FSt) : FSt :=
  ⟨s.i + 1, wrtD s.d (blk 5 (z s.i).b) 512 (filL (z s.i).c), if blk 5 (z s.i).b = bad then s.W else upd s.W (blk 5 (z s.i).b).toNat (filL (z s.i).c)⟩
def InvF (bad : Int) (s : FSt) : Prop := wfD s.d ∧ s.d.off = false ∧ s.d.ps = false ∧ s.d.nb = 5 ∧ s.d.nt ≤ s.i + 1 ∧ s.d.ng ≤ s.i + 1 ∧ s.i ≤ 60 ∧
  (∀ j : Nat, j < 5 → s.d.rd j = decide ((j : Int) = bad) ∧ s.d.wr j = decide ((j : Int) = bad)) ∧ ∀ j : Nat, j < 5 → contD s.d j = s.W j
theorem invF_has {bad : Int} {s : FSt} (h : InvF bad s) {b : Int} (hb : 0 ≤ b ∧ b < 5) : hasB s.d b = true := hasB_t.2 ⟨hb.1, by rw [h.2.2.2.1]; exact hb.2⟩
theorem invF_room {bad : Int} {s : FSt} (h : InvF bad s) : roomD s.d := by
  obtain ⟨_, _, _, _, h1, h2, h3, _⟩ := h
  exact ⟨by omega, by omega⟩
theorem toN {b : Int} (hb : 0 ≤ b ∧ b < 5) : ((b.toNat : Nat) : Int) = b ∧ b.toNat < 5 := by omega
theorem fBad {bad : Int} {s : FSt} (h : InvF bad s) {b : Int} {l : List Int} (hb : 0 ≤ b ∧ b < 5) (e : b = bad) :
    wrtE s.d b 512 = 11 ∧ wrtD s.d b 512 l = stD s.d ∧ readE (stD s.d) b = 11 ∧ readB (stD s.d) b = [] := by
  have hh := invF_has h hb
  obtain ⟨_, h0, h1, _, _, _, _, hr, _⟩ := h
  obtain ⟨t1, t2⟩ := toN hb
  have ⟨k1, k2⟩ := hr _ t2
  rw [t1, e] at k1 k2
  have w := wr_refused (d := s.d) (b := b) (l := l) h0 h1 hh (by rw [e, k2]; simp)
  have r := rd_flt (d := stD s.d) (b := b) h0 hh (by show s.d.rd _ = true; rw [e, k1]; simp)
  exact ⟨w.1, w.2, r.1, r.2⟩
theorem fGood {bad : Int} {s : FSt} (h : InvF bad s) {b : Int} {l : List Int} (hb : 0 ≤ b ∧ b < 5) (e : b ≠ bad) :
    wrtE s.d b 512 = 0 ∧ wrtD s.d b 512 l = addD (stD s.d) b l ∧ readE (addD (stD s.d) b l) b = 0 ∧ readB (addD (stD s.d) b l) b = l := by
  have hh := invF_has h hb
  obtain ⟨_, h0, h1, _, _, _, _, hr, _⟩ := h
  obtain ⟨t1, t2⟩ := toN hb
  have ⟨k1, k2⟩ := hr _ t2
  rw [t1] at k1 k2
  have w := wr_plain (d := s.d) (b := b) (l := l) h0 h1 hh (by rw [k2]; simp [e])
  have r := rd_ok (d := addD (stD s.d) b l) (b := b) h0 hh (by show s.d.rd _ = false; rw [k1]; simp [e])
  refine ⟨w.1, w.2, r.1, r.2.trans ?_⟩
  rw [cont_add, if_pos rfl]
theorem invF_next {bad : Int} {z : Nat → OpP} {s : FSt} (h : InvF bad s) (hi : s.i < 60) : InvF bad (fNx bad z s) := by
  have hb : 0 ≤ blk 5 (z s.i).b ∧ blk 5 (z s.i).b < 5 := blk_lt (n := 5) (by decide) (by decide)
  have hh := invF_has h hb
  have hrm := invF_room h
  by_cases e : blk 5 (z s.i).b = bad
  · obtain ⟨_, w, _⟩ := fBad (l := filL (z s.i).c) h hb e
    unfold fNx
    rw [w, if_pos e]
    obtain ⟨k1, k2, k3, k4, k5, k6, k7, k8, k9⟩ := h
    refine ⟨k1, k2, k3, k4, ?_, ?_, hi, k8, fun j hj => cont_st.trans (k9 j hj)⟩
    · show s.d.nt ≤ s.i + 1 + 1
      omega
    · show s.d.ng ≤ s.i + 1 + 1
      omega
  · obtain ⟨_, w, _⟩ := fGood (l := filL (z s.i).c) h hb e
    unfold fNx
    rw [w, if_neg e]
    obtain ⟨k1, k2, k3, k4, k5, k6, k7, k8, k9⟩ := h
    refine ⟨wf_add k1 hh hrm, k2, k3, k4, Nat.succ_le_succ k5, Nat.succ_le_succ k6, hi, k8, fun j hj => ?_⟩
    rw [cont_add]
    obtain ⟨t1, t2⟩ := toN hb
    show _ = upd s.W (blk 5 (z s.i).b).toNat (filL (z s.i).c) j
    by_cases e2 : blk 5 (z s.i).b = (j : Int)
    · have e3 : j = (blk 5 (z s.i).b).toNat := by omega
      rw [if_pos e2, e3, upd, if_pos rfl]
    · rw [if_neg e2, upd, if_neg (by omega), cont_st]
      exact k9 j hj
/-- the device ahead of the script -/
def dFa (bad : Int) : DvP := faultD (wrtD (newD 5 0 0) bad 512 (filL 7)) bad true true
def w0F (i j : Nat) : List Int := if j < i then zerosI 512 else []
def sF0 (bad : Int) : FSt := ⟨0, dFa bad, upd (w0F 5) bad.toNat (filL 7)⟩
theorem new5 {b : Int} {l : List Int} (hb : 0 ≤ b ∧ b < 5) : wrtE (newD 5 0 0) b 512 = 0 ∧ wrtD (newD 5 0 0) b 512 l = addD (stD (newD 5 0 0)) b l ∧ hasB (wrtD (newD 5 0 0) b 512 l) b = true := by
  have hh : hasB (newD 5 0 0) b = true := hasB_t.2 hb
  have w := wr_plain (d := newD 5 0 0) (b := b) (l := l) rfl rfl hh rfl
  exact ⟨w.1, w.2, by rw [w.2]; exact hh⟩
theorem new5_wf : wfD (newD 5 0 0) := ⟨rfl, rfl, fun _ h => absurd h (Nat.not_lt_zero _), by decide, by decide, by decide⟩
theorem invF_0 {bad : Int} (hb : 0 ≤ bad ∧ bad < 5) : InvF bad (sF0 bad) := by
  obtain ⟨w1, w2, w3⟩ := new5 (l := filL 7) hb
  have hh : hasB (newD 5 0 0) bad = true := hasB_t.2 hb
  obtain ⟨t1, t2⟩ := toN hb
  have e : dFa bad = { addD (stD (newD 5 0 0)) bad (filL 7) with rd := upd noB bad.toNat true, wr := upd noB bad.toNat true } := by
    show faultD (wrtD (newD 5 0 0) bad 512 (filL 7)) bad true true = _
    rw [w2, faultD, if_pos (by exact hh)]
    rfl
  have hc : ∀ c, contD (dFa bad) c = if bad = c then filL 7 else contD (newD 5 0 0) c := fun c => by
    show contD (faultD (wrtD (newD 5 0 0) bad 512 (filL 7)) bad true true) c = _
    rw [cont_fault, w2, cont_add, cont_st]
  have hwf : wfD (dFa bad) := by
    show wfD (faultD (wrtD (newD 5 0 0) bad 512 (filL 7)) bad true true)
    rw [w2]
    exact wf_fault (wf_add new5_wf hh ⟨by decide, by decide⟩)
  refine ⟨hwf, by show (dFa bad).off = false; rw [e]; rfl, by show (dFa bad).ps = false; rw [e]; rfl, by show (dFa bad).nb = 5; rw [e]; rfl, by show (dFa bad).nt ≤ _; rw [e]; exact Nat.le_refl 1, by show (dFa bad).ng ≤ _; rw [e]; exact Nat.le_refl 1, Nat.zero_le _, fun j hj => ?_, fun j hj => ?_⟩
  · show (dFa bad).rd j = _ ∧ (dFa bad).wr j = _
    rw [e]
    show upd noB bad.toNat true j = _ ∧ upd noB bad.toNat true j = _
    by_cases e2 : j = bad.toNat
    · rw [upd, if_pos e2]
      have : (j : Int) = bad := by omega
      simp [this]
    · rw [upd, if_neg e2]
      have : ¬ (j : Int) = bad := by omega
      simp [this, noB]
  · show contD (dFa bad) j = upd (w0F 5) bad.toNat (filL 7) j
    rw [hc]
    by_cases e2 : bad = (j : Int)
    · have e3 : j = bad.toNat := by omega
      rw [if_pos e2, upd, if_pos e3]
    · rw [if_neg e2, upd, if_neg (by omega), w0F, if_pos hj]
      rfl
/-- the device behind the script -/
def dFe (bad : Int) (s : FSt) : DvP := faultD s.d bad false false
theorem fEnd {bad : Int} {s : FSt} (h : InvF bad s) (hb : 0 ≤ bad ∧ bad < 5) {j : Nat} (hj : j < 5) : wfD (dFe bad s) ∧ readE (dFe bad s) j = 0 ∧ readB (dFe bad s) j = s.W j := by
  have hh := invF_has h hb
  have hj' : 0 ≤ (j : Int) ∧ (j : Int) < 5 := by omega
  have hhj := invF_has h hj'
  have e : dFe bad s = { s.d with rd := upd s.d.rd bad.toNat false, wr := upd s.d.wr bad.toNat false } := by
    show faultD s.d bad false false = _
    rw [faultD, if_pos hh]
  have hrd : (dFe bad s).rd j = false := by
    rw [e]
    show upd s.d.rd bad.toNat false j = false
    by_cases e2 : j = bad.toNat
    · rw [upd, if_pos e2]
    · rw [upd, if_neg e2, (h.2.2.2.2.2.2.2.1 j hj).1]
      have : ¬ (j : Int) = bad := by omega
      simp [this]
  have r := rd_ok (d := dFe bad s) (b := (j : Int)) (by rw [e]; exact h.2.1) (by rw [e]; exact hhj) hrd
  refine ⟨wf_fault h.1, r.1, r.2.trans ?_⟩
  show contD (faultD s.d bad false false) j = _
  rw [cont_fault]
  exact h.2.2.2.2.2.2.2.2 j hj
end Go.Cx.Rd
/- CxdN -/
namespace Go.Cx.Rd
open Go Go.Cx Go.Proofs
/-- what is read of a device's content -/
structure DvT where
  n1 : Nat
  m1 : Nat
  f1 : Nat → V
  n2 : Nat
  m2 : Nat
  f2 : Nat → V
  n3 : Nat
  m3 : Nat
  f3 : Nat → V
  n4 : Nat
  m4 : Nat
  f4 : Nat → V
  n5 : Nat
  m5 : Nat
  f5 : Nat → V
  cm : Int
  bt : Int
  off : Bool
  ps : Bool
  pa : Int
  pk : Int
  st : Int
def dvOk (t : DvT) : Prop := t.n1 = t.m1 ∧ t.n2 = t.m2 ∧ t.n3 = t.m3 ∧ t.n4 = t.m4 ∧ t.n5 = t.m5 ∧ isBk t.f1 ∧ isWr t.f2 ∧ isWr t.f3 ∧ isBl t.f4 ∧ isBl t.f5
def dvMk (t : DvT) : DvP := ⟨t.n1, unbks t.f1, t.n2, unwrs t.f2, t.n3, unwrs t.f3, t.cm, t.bt, t.off, t.ps, t.pa, t.pk, t.n4, unbls t.f4, t.n5, unbls t.f5, t.st⟩
theorem dvOk_s (d : DvP) : dvOk ⟨d.nb, d.nb, bkV apf d.L, d.nt, d.nt, wrV apf d.T, d.ng, d.ng, wrV apf d.G, d.nr, d.nr, blV apf d.rd, d.nw, d.nw, blV apf d.wr, d.cm, d.bt, d.off, d.ps, d.pa, d.pk, d.st⟩ := ⟨rfl, rfl, rfl, rfl, rfl, rfl, rfl, rfl, rfl, rfl⟩
theorem dvMk_s (d : DvP) : dvMk ⟨d.nb, d.nb, bkV apf d.L, d.nt, d.nt, wrV apf d.T, d.ng, d.ng, wrV apf d.G, d.nr, d.nr, blV apf d.rd, d.nw, d.nw, blV apf d.wr, d.cm, d.bt, d.off, d.ps, d.pa, d.pk, d.st⟩ = d := rfl
/-- content read as a device's, which gets a name -/
def dvN (ap : AP) : V → R DvP
  | .cat 1 11 (.osl n1 1 (.rows 1 m1 f1)) (.cat 1 10 (.osl n2 2 (.rows 2 m2 f2)) (.cat 1 9 (.osl n3 2 (.rows 2 m3 f3)) (.cat 1 8 (.int .u64 cm) (.cat 1 7 (.int .u64 bt) (.cat 1 6 (.bool off)
      (.cat 3 3 (.cat 1 2 (.bool ps) (.cat 1 1 (.int .i64 pa) (.int .u64 pk))) (.cat 1 2 (.osl n4 1 (.rows 1 m4 f4)) (.cat 1 1 (.osl n5 1 (.rows 1 m5 f5)) (.int .i64 st))))))))) =>
      .chk (ap _ _ dvOk ⟨n1, m1, f1, n2, m2, f2, n3, m3, f3, n4, m4, f4, n5, m5, f5, cm, bt, off, ps, pa, pk, st⟩) <|
      .nam (ap _ _ dvMk ⟨n1, m1, f1, n2, m2, f2, n3, m3, f3, n4, m4, f4, n5, m5, f5, cm, bt, off, ps, pa, pk, st⟩) fun d => .ok d
  | _ => .fail 400
theorem dvN_to {c : V} {d : DvP} (h : (dvN apf c).to d) : (dvR apf c).to d := by
  unfold dvN at h
  split at h
  · obtain ⟨⟨h1, h2, h3, h4, h5, h6, h7, h8, h9, h10⟩, h⟩ := h
    cases h
    exact ⟨h1, h2, h3, h4, h5, h6, h7, h8, h9, h10, rfl⟩
  · exact h.elim
theorem dvN_sub {c : V} {K : DvP → R Out} {out : Out} (h : ((dvN apf c).bind K).to out) : ((dvR apf c).bind K).to out := by
  obtain ⟨d, h1, h2⟩ := bind_to h
  exact to_bind (dvN_to h1) h2
def nOn (ap : AP) : Ctr
  | [.v .nilp] => .ok ⟨.int .i64 1, [], []⟩
  | [.o c none] => (dvN ap c).bind fun d => .ok ⟨.int .i64 0, [dvA ap (ap _ _ onD d)], []⟩
  | _ => .fail 401
theorem n16 : Sound Try.prog [] 16 (pu 16) (fun args => nOn apf (args.map litA)) := s16.sub fun args out h => by
  revert h
  show (nOn apf (args.map litA)).to out → (cOn apf (args.map litA)).to out
  generalize args.map litA = az
  intro h
  unfold nOn at h
  unfold cOn
  split at h
  all_goals first
    | exact h
    | exact dvN_sub h
    | exact h.elim
def nFail (ap : AP) : Ctr
  | [.v .nilp, .v (.int .i64 _), .v (.int .u64 _)] => .ok ⟨.int .i64 1, [], []⟩
  | [.o c none, .v (.int .i64 a), .v (.int .u64 k)] => (dvN ap c).bind fun d => .ok ⟨.int .i64 0, [dvA ap (ap _ _ (ap _ _ (ap _ _ failD d) a) k)], []⟩
  | _ => .fail 404
theorem n14 : Sound Try.prog [] 14 (pu 14) (fun args => nFail apf (args.map litA)) := s14.sub fun args out h => by
  revert h
  show (nFail apf (args.map litA)).to out → (cFail apf (args.map litA)).to out
  generalize args.map litA = az
  intro h
  unfold nFail at h
  unfold cFail
  split at h
  all_goals first
    | exact h
    | exact dvN_sub h
    | exact h.elim
def nFault (ap : AP) : Ctr
  | [.v .nilp, .v (.int .i64 _), .v (.bool _), .v (.bool _)] => .ok ⟨.int .i64 1, [], []⟩
  | [.o c none, .v (.int .i64 b), .v (.bool r), .v (.bool w)] => (dvN ap c).bind fun d => .chk (ap _ _ wfD d) <| .ok ⟨.int .i64 (ap _ _ (ap _ _ hasE d) b), [dvA ap (ap _ _ (ap _ _ (ap _ _ (ap _ _ faultD d) b) r) w)], []⟩
  | _ => .fail 411
theorem n12 : Sound Try.prog [] 12 (pu 12) (fun args => nFault apf (args.map litA)) := s12.sub fun args out h => by
  revert h
  show (nFault apf (args.map litA)).to out → (cFault apf (args.map litA)).to out
  generalize args.map litA = az
  intro h
  unfold nFault at h
  unfold cFault
  split at h
  all_goals first
    | exact h
    | exact dvN_sub h
    | exact h.elim
def nOff (ap : AP) : Ctr
  | [.v .nilp, .v (.int .u64 _)] => .ok ⟨.int .i64 1, [], []⟩
  | [.o c none, .v (.int .u64 k)] => (dvN ap c).bind fun d => .chk (ap _ _ wfD d) <| .ok ⟨.int .i64 0, [dvA ap (ap _ _ (ap _ _ offD d) k)], []⟩
  | _ => .fail 440
theorem n15 : Sound Try.prog [] 15 (pu 15) (fun args => nOff apf (args.map litA)) := s15.sub fun args out h => by
  revert h
  show (nOff apf (args.map litA)).to out → (cOff apf (args.map litA)).to out
  generalize args.map litA = az
  intro h
  unfold nOff at h
  unfold cOff
  split at h
  all_goals first
    | exact h
    | exact dvN_sub h
    | exact h.elim
def nReadD (ap : AP) : Ctr
  | [.v .nilp, .v (.int .i64 _)] => .ok ⟨.tcons .nsl (.tcons (.int .i64 1) .tnil), [], []⟩
  | [.o c none, .v (.int .i64 b)] => (dvN ap c).bind fun d => .chk (ap _ _ wfD d) <| .ok ⟨.tcons (dslA ap (ap _ _ (ap _ _ readB d) b)) (.tcons (.int .i64 (ap _ _ (ap _ _ readE d) b)) .tnil), [dvA ap d], []⟩
  | _ => .fail 450
theorem n13 : Sound Try.prog [] 13 (pu 13) (fun args => nReadD apf (args.map litA)) := s13.sub fun args out h => by
  revert h
  show (nReadD apf (args.map litA)).to out → (cReadD apf (args.map litA)).to out
  generalize args.map litA = az
  intro h
  unfold nReadD at h
  unfold cReadD
  split at h
  all_goals first
    | exact h
    | exact dvN_sub h
    | exact h.elim
def nWrite (ap : AP) : Ctr
  | [.v .nilp, .v (.int .i64 _), .b _ 1 (.ints .u8 _ _)] => .ok ⟨.int .i64 1, [], []⟩
  | [.o c none, .v (.int .i64 b), .b n 1 (.ints .u8 _ l)] => (dvN ap c).bind fun d => .chk (ap _ _ wfD d) <| .chk (ap _ _ roomD d) <|
      .ok ⟨.int .i64 (ap _ _ (ap _ _ (ap _ _ wrtE d) b) n), [dvA ap (ap _ _ (ap _ _ (ap _ _ (ap _ _ wrtD d) b) n) l)], []⟩
  | _ => .fail 460
theorem n10 : Sound Try.prog [] 10 (pu 10) (fun args => nWrite apf (args.map litA)) := s10.sub fun args out h => by
  revert h
  show (nWrite apf (args.map litA)).to out → (cWrite apf (args.map litA)).to out
  generalize args.map litA = az
  intro h
  unfold nWrite at h
  unfold cWrite
  split at h
  all_goals first
    | exact h
    | exact dvN_sub h
    | exact h.elim
def nFlush (ap : AP) : Ctr
  | [.v .nilp] => .ok ⟨.int .i64 1, [], []⟩
  | [.o c none] => (dvN ap c).bind fun d => .chk (ap _ _ wfD d) <| .ok ⟨.int .i64 (ap _ _ flE d), [dvA ap (ap _ _ flD d)], []⟩
  | _ => .fail 480
theorem n17 : Sound Try.prog [] 17 (pu 17) (fun args => nFlush apf (args.map litA)) := s17.sub fun args out h => by
  revert h
  show (nFlush apf (args.map litA)).to out → (cFlush apf (args.map litA)).to out
  generalize args.map litA = az
  intro h
  unfold nFlush at h
  unfold cFlush
  split at h
  all_goals first
    | exact h
    | exact dvN_sub h
    | exact h.elim
end Go.Cx.Rd
/- CxL2 -/
namespace Go.Cx
open Go
theorem eq_t {x y : Int} : (eqI x y = true) ↔ x = y := by simp [eqI]
theorem eq_f {x y : Int} : (eqI x y = false) ↔ x ≠ y := by simp [eqI]
theorem eqL_f {x y : List Int} : (eqL x y = false) ↔ x ≠ y := by simp [eqL]
theorem notB_t {x : Bool} : (notB x = true) ↔ x = false := by simp [notB]
end Go.Cx
