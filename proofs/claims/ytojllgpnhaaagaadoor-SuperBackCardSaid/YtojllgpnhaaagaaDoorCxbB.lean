/-
  The small code of this seat's functions (wire,slots),and that it is the program's.
-/
import Derived.Test.YtojllgpnhaaagaaDoorCxbA
import Derived.Test.YtojllgpnhaaagaaDoorCxF
import Derived.KernelRfl
namespace Go.Cx.Rb
open Go Go.Cx Go.Proofs

/- 8 cloister/cloisterlaw08.SlotsWrap -/
def ic8 : IFn := ⟨5,44,[.t 10],
  (.seq (.reg [1,3,0,6,2,8,4,11,13,12,14,10] [⟨some 6,none,.box (.t 1)⟩,⟨some 8,none,.box (.t 3)⟩,⟨some 10,none,.mv (.c .ff)⟩])
  (.seq (.reg [1,3,0,6,2,8,4,11,13,12,14,10] [⟨some 16,none,.mv (.t 0)⟩,⟨some 17,none,.ld 16 true (.t 6)⟩,⟨some 18,none,.mv (.t 2)⟩,⟨some 19,none,.ld 32 true (.t 8)⟩,⟨some 20,none,.mv (.t 4)⟩,⟨some 21,none,.call 35 true [((.t 16),.v),((.t 17),.v),((.t 18),.v),((.t 19),.v),((.t 20),.v)]⟩,⟨some 15,none,.mv (.t 21)⟩,⟨some 22,none,.ext 0 (.t 15)⟩,⟨some 23,none,.ext 1 (.t 15)⟩,⟨some 11,none,.alloc (.cat 1 74 (.v .ff) (.cat 1 73 (.v (.lit .i64 0)) (.cat 1 72 (.v (.lit .i64 0)) (.cat 16 56 (.ints .u8 16) (.cat 32 24 (.ints .u8 32) (.ints .u8 24))))))⟩,⟨none,none,.st 75 (.t 11) (.t 22)⟩,⟨some 12,none,.mv (.t 23)⟩])
  (.seq (.reg [1,3,0,6,2,8,4,11,13,12,14,10] [⟨some 25,none,.mv (.t 0)⟩,⟨some 26,none,.ld 16 true (.t 6)⟩,⟨some 27,none,.mv (.t 2)⟩,⟨some 28,none,.ld 32 true (.t 8)⟩,⟨some 29,none,.mv (.t 4)⟩,⟨some 30,none,.call 36 true [((.t 25),.v),((.t 26),.v),((.t 27),.v),((.t 28),.v),((.t 29),.v)]⟩,⟨some 24,none,.mv (.t 30)⟩,⟨some 31,none,.ext 0 (.t 24)⟩,⟨some 32,none,.ext 1 (.t 24)⟩,⟨some 13,none,.alloc (.cat 1 74 (.v .ff) (.cat 1 73 (.v (.lit .i64 0)) (.cat 1 72 (.v (.lit .i64 0)) (.cat 16 56 (.ints .u8 16) (.cat 32 24 (.ints .u8 32) (.ints .u8 24))))))⟩,⟨none,none,.st 75 (.t 13) (.t 31)⟩,⟨some 14,none,.mv (.t 32)⟩])
  (.seq (.reg [1,3,0,6,2,8,4,11,13,12,14,10] [⟨some 33,none,.call 37 true []⟩,⟨some 34,none,.mv (.t 33)⟩,⟨some 35,some (34,true),.ld 75 true (.t 11)⟩,⟨some 36,some (34,true),.ld 75 true (.t 13)⟩,⟨some 37,some (34,true),.eq (.z [.b,.i .i64,.i .i64,.i .u8,.i .u8,.i .u8,.i .u8,.i .u8,.i .u8,.i .u8,.i .u8,.i .u8,.i .u8,.i .u8,.i .u8,.i .u8,.i .u8,.i .u8,.i .u8,.i .u8,.i .u8,.i .u8,.i .u8,.i .u8,.i .u8,.i .u8,.i .u8,.i .u8,.i .u8,.i .u8,.i .u8,.i .u8,.i .u8,.i .u8,.i .u8,.i .u8,.i .u8,.i .u8,.i .u8,.i .u8,.i .u8,.i .u8,.i .u8,.i .u8,.i .u8,.i .u8,.i .u8,.i .u8,.i .u8,.i .u8,.i .u8,.i .u8,.i .u8,.i .u8,.i .u8,.i .u8,.i .u8,.i .u8,.i .u8,.i .u8,.i .u8,.i .u8,.i .u8,.i .u8,.i .u8,.i .u8,.i .u8,.i .u8,.i .u8,.i .u8,.i .u8,.i .u8,.i .u8,.i .u8,.i .u8]) false (.t 35) (.t 36)⟩,⟨some 38,none,.pick (.t 34) (.t 37) (.c .ff)⟩,⟨some 39,none,.mv (.t 38)⟩,⟨some 40,some (39,true),.mv (.t 12)⟩,⟨some 41,some (39,true),.mv (.t 14)⟩,⟨some 42,some (39,true),.cmp .eql (.t 40) (.t 41)⟩,⟨some 43,none,.pick (.t 39) (.t 42) (.c .ff)⟩,⟨some 10,none,.mv (.t 43)⟩])
  .ret))))⟩
/- 9 cloister/cloisterlaw08.SlotsUnwrap -/
def ic9 : IFn := ⟨2,58,[.t 4],
  (.seq (.reg [1,0,3,5,7,6,8,9,11,10,12,4] [⟨some 3,none,.box (.t 1)⟩,⟨some 4,none,.mv (.c .ff)⟩])
  (.seq (.reg [1,0,3,5,7,6,8,9,11,10,12,4] [⟨some 14,none,.mv (.t 0)⟩,⟨some 15,none,.ld 75 true (.t 3)⟩,⟨some 16,none,.call 38 true [((.t 14),.v),((.t 15),.v)]⟩,⟨some 13,none,.mv (.t 16)⟩,⟨some 17,none,.ext 0 (.t 13)⟩,⟨some 18,none,.ext 1 (.t 13)⟩,⟨some 5,none,.alloc (.ints .u8 32)⟩,⟨none,none,.st 32 (.t 5) (.t 17)⟩,⟨some 6,none,.mv (.t 18)⟩])
  (.seq (.reg [1,0,3,5,7,6,8,9,11,10,12,4] [⟨some 20,none,.mv (.t 0)⟩,⟨some 21,none,.ld 75 true (.t 3)⟩,⟨some 22,none,.call 39 true [((.t 20),.v),((.t 21),.v)]⟩,⟨some 19,none,.mv (.t 22)⟩,⟨some 23,none,.ext 0 (.t 19)⟩,⟨some 24,none,.ext 1 (.t 19)⟩,⟨some 7,none,.alloc (.ints .u8 32)⟩,⟨none,none,.st 32 (.t 7) (.t 23)⟩,⟨some 8,none,.mv (.t 24)⟩])
  (.seq (.reg [1,0,3,5,7,6,8,9,11,10,12,4] [⟨some 26,none,.ld 75 true (.t 3)⟩,⟨some 27,none,.call 40 true [((.t 26),.v)]⟩,⟨some 25,none,.mv (.t 27)⟩,⟨some 28,none,.ext 0 (.t 25)⟩,⟨some 29,none,.ext 1 (.t 25)⟩,⟨some 9,none,.mv (.t 28)⟩,⟨some 10,none,.mv (.t 29)⟩])
  (.seq (.reg [1,0,3,5,7,6,8,9,11,10,12,4] [⟨some 31,none,.ld 75 true (.t 3)⟩,⟨some 32,none,.call 41 true [((.t 31),.v)]⟩,⟨some 30,none,.mv (.t 32)⟩,⟨some 33,none,.ext 0 (.t 30)⟩,⟨some 34,none,.ext 1 (.t 30)⟩,⟨some 11,none,.mv (.t 33)⟩,⟨some 12,none,.mv (.t 34)⟩])
  (.seq (.reg [1,0,3,5,7,6,8,9,11,10,12,4] [⟨some 35,none,.call 37 true []⟩,⟨some 36,none,.mv (.t 35)⟩,⟨some 37,some (36,true),.ld 32 true (.t 5)⟩,⟨some 38,some (36,true),.ld 32 true (.t 7)⟩,⟨some 39,some (36,true),.eq (.a .u8 32) false (.t 37) (.t 38)⟩,⟨some 40,none,.pick (.t 36) (.t 39) (.c .ff)⟩,⟨some 41,none,.mv (.t 40)⟩,⟨some 42,some (41,true),.mv (.t 6)⟩,⟨some 43,some (41,true),.mv (.t 8)⟩,⟨some 44,some (41,true),.cmp .eql (.t 42) (.t 43)⟩,⟨some 45,none,.pick (.t 41) (.t 44) (.c .ff)⟩,⟨some 46,none,.mv (.t 45)⟩,⟨some 47,some (46,true),.mv (.t 9)⟩,⟨some 48,some (46,true),.b2s (.t 47)⟩,⟨some 49,some (46,true),.mv (.t 11)⟩,⟨some 50,some (46,true),.b2s (.t 49)⟩,⟨some 51,some (46,true),.eq .s false (.t 48) (.t 50)⟩,⟨some 52,none,.pick (.t 46) (.t 51) (.c .ff)⟩,⟨some 53,none,.mv (.t 52)⟩,⟨some 54,some (53,true),.mv (.t 10)⟩,⟨some 55,some (53,true),.mv (.t 12)⟩,⟨some 56,some (53,true),.cmp .eql (.t 54) (.t 55)⟩,⟨some 57,none,.pick (.t 53) (.t 56) (.c .ff)⟩,⟨some 4,none,.mv (.t 57)⟩])
  .ret))))))⟩
/- 10 cloister/cloisterlaw08.SlotsDecode -/
def ic10 : IFn := ⟨1,60,[.t 2],
  (.seq (.reg [0,3,4,6,5,7,41,9,8,2] [⟨some 2,none,.mv (.c .ff)⟩])
  (.seq (.reg [0,3,4,6,5,7,41,9,8,2] [⟨some 10,none,.bsl (.i .u8) 0 []⟩,⟨some 11,none,.mv (.t 0)⟩,⟨some 12,none,.app0 (.i .u8) 1 (.t 10) (.t 11)⟩,⟨some 3,none,.mv (.t 12)⟩])
  (.seq (.reg [0,3,4,6,5,7,41,9,8,2] [⟨some 14,none,.mv (.t 3)⟩,⟨some 15,none,.call 42 true [((.t 14),.b (.i .u8))]⟩,⟨some 13,none,.mv (.t 15)⟩,⟨some 16,none,.ext 0 (.t 13)⟩,⟨some 17,none,.ext 1 (.t 13)⟩,⟨some 4,none,.alloc (.cat 1 74 (.v .ff) (.cat 1 73 (.v (.lit .i64 0)) (.cat 1 72 (.v (.lit .i64 0)) (.cat 16 56 (.ints .u8 16) (.cat 32 24 (.ints .u8 32) (.ints .u8 24))))))⟩,⟨none,none,.st 75 (.t 4) (.t 16)⟩,⟨some 5,none,.mv (.t 17)⟩])
  (.seq (.reg [0,3,4,6,5,7,41,9,8,2] [⟨some 19,none,.mv (.t 0)⟩,⟨some 20,none,.call 43 true [((.t 19),.v)]⟩,⟨some 18,none,.mv (.t 20)⟩,⟨some 21,none,.ext 0 (.t 18)⟩,⟨some 22,none,.ext 1 (.t 18)⟩,⟨some 6,none,.alloc (.cat 1 74 (.v .ff) (.cat 1 73 (.v (.lit .i64 0)) (.cat 1 72 (.v (.lit .i64 0)) (.cat 16 56 (.ints .u8 16) (.cat 32 24 (.ints .u8 32) (.ints .u8 24))))))⟩,⟨none,none,.st 75 (.t 6) (.t 21)⟩,⟨some 7,none,.mv (.t 22)⟩])
  (.seq (.seq (.reg [0,3,4,6,5,7,41,9,8,2] [⟨some 23,none,.call 37 true []⟩,⟨some 24,none,.not (.t 23)⟩,⟨some 25,none,.mv (.t 24)⟩,⟨some 26,some (25,false),.ld 75 true (.t 4)⟩,⟨some 27,some (25,false),.ld 75 true (.t 6)⟩,⟨some 28,some (25,false),.eq (.z [.b,.i .i64,.i .i64,.i .u8,.i .u8,.i .u8,.i .u8,.i .u8,.i .u8,.i .u8,.i .u8,.i .u8,.i .u8,.i .u8,.i .u8,.i .u8,.i .u8,.i .u8,.i .u8,.i .u8,.i .u8,.i .u8,.i .u8,.i .u8,.i .u8,.i .u8,.i .u8,.i .u8,.i .u8,.i .u8,.i .u8,.i .u8,.i .u8,.i .u8,.i .u8,.i .u8,.i .u8,.i .u8,.i .u8,.i .u8,.i .u8,.i .u8,.i .u8,.i .u8,.i .u8,.i .u8,.i .u8,.i .u8,.i .u8,.i .u8,.i .u8,.i .u8,.i .u8,.i .u8,.i .u8,.i .u8,.i .u8,.i .u8,.i .u8,.i .u8,.i .u8,.i .u8,.i .u8,.i .u8,.i .u8,.i .u8,.i .u8,.i .u8,.i .u8,.i .u8,.i .u8,.i .u8,.i .u8,.i .u8,.i .u8]) true (.t 26) (.t 27)⟩,⟨some 29,none,.pick (.t 25) (.c .tt) (.t 28)⟩,⟨some 30,none,.mv (.t 29)⟩,⟨some 31,some (30,false),.mv (.t 5)⟩,⟨some 32,some (30,false),.mv (.t 7)⟩,⟨some 33,some (30,false),.cmp .neq (.t 31) (.t 32)⟩,⟨some 34,none,.pick (.t 30) (.c .tt) (.t 33)⟩,⟨some 35,none,.mv (.t 34)⟩,⟨some 36,some (35,false),.mv (.t 3)⟩,⟨some 37,some (35,false),.b2s (.t 36)⟩,⟨some 38,some (35,false),.mv (.t 0)⟩,⟨some 39,some (35,false),.b2s (.t 38)⟩,⟨some 40,some (35,false),.eq .s true (.t 37) (.t 39)⟩,⟨some 41,none,.pick (.t 35) (.c .tt) (.t 40)⟩])
  (.cond (.t 41)
    (.seq (.reg [0,3,4,6,5,7,41,9,8,2] [⟨some 2,none,.mv (.c .ff)⟩])
    .ret)
    .skip))
  (.seq (.reg [0,3,4,6,5,7,41,9,8,2] [⟨some 43,none,.ld 75 true (.t 4)⟩,⟨some 44,none,.call 40 true [((.t 43),.v)]⟩,⟨some 42,none,.mv (.t 44)⟩,⟨some 45,none,.ext 0 (.t 42)⟩,⟨some 46,none,.ext 1 (.t 42)⟩,⟨some 8,none,.mv (.t 45)⟩,⟨some 9,none,.mv (.t 46)⟩])
  (.seq (.reg [0,3,4,6,5,7,41,9,8,2] [⟨some 47,none,.mv (.t 5)⟩,⟨some 48,none,.cmp .neq (.t 47) (.c (.lit .i64 0))⟩,⟨some 49,none,.mv (.t 48)⟩,⟨some 50,some (49,false),.mv (.t 9)⟩,⟨some 51,some (49,false),.cmp .eql (.t 50) (.c (.lit .i64 0))⟩,⟨some 52,some (49,false),.mv (.t 51)⟩,⟨some 53,some (52,true),.mv (.t 8)⟩,⟨some 54,some (52,true),.b2s (.t 53)⟩,⟨some 55,some (52,true),.mv (.t 0)⟩,⟨some 56,some (52,true),.b2s (.t 55)⟩,⟨some 57,some (52,true),.eq .s false (.t 54) (.t 56)⟩,⟨some 58,some (49,false),.pick (.t 52) (.t 57) (.c .ff)⟩,⟨some 59,none,.pick (.t 49) (.c .tt) (.t 58)⟩,⟨some 2,none,.mv (.t 59)⟩])
  .ret)))))))⟩
/- 11 cloister/cloisterlaw08.SlotsBack -/
def ic11 : IFn := ⟨6,97,[.t 12],
  (.seq (.reg [2,4,25,0,8,3,10,5,13,14,36,15,16,18,1,17,19,21,23,12] [⟨some 8,none,.box (.t 2)⟩,⟨some 10,none,.box (.t 4)⟩,⟨some 12,none,.mv (.c .ff)⟩])
  (.seq (.seq (.reg [2,4,25,0,8,3,10,5,13,14,36,15,16,18,1,17,19,21,23,12] [⟨some 24,none,.call 37 true []⟩,⟨some 25,none,.not (.t 24)⟩])
  (.cond (.t 25)
    (.seq (.reg [2,4,25,0,8,3,10,5,13,14,36,15,16,18,1,17,19,21,23,12] [⟨some 12,none,.mv (.c .ff)⟩])
    .ret)
    .skip))
  (.seq (.reg [2,4,25,0,8,3,10,5,13,14,36,15,16,18,1,17,19,21,23,12] [⟨some 27,none,.mv (.t 0)⟩,⟨some 28,none,.ld 16 true (.t 8)⟩,⟨some 29,none,.mv (.t 3)⟩,⟨some 30,none,.ld 32 true (.t 10)⟩,⟨some 31,none,.mv (.t 5)⟩,⟨some 32,none,.call 35 true [((.t 27),.v),((.t 28),.v),((.t 29),.v),((.t 30),.v),((.t 31),.v)]⟩,⟨some 26,none,.mv (.t 32)⟩,⟨some 33,none,.ext 0 (.t 26)⟩,⟨some 34,none,.ext 1 (.t 26)⟩,⟨some 13,none,.alloc (.cat 1 74 (.v .ff) (.cat 1 73 (.v (.lit .i64 0)) (.cat 1 72 (.v (.lit .i64 0)) (.cat 16 56 (.ints .u8 16) (.cat 32 24 (.ints .u8 32) (.ints .u8 24))))))⟩,⟨none,none,.st 75 (.t 13) (.t 33)⟩,⟨some 14,none,.mv (.t 34)⟩])
  (.seq (.seq (.reg [2,4,25,0,8,3,10,5,13,14,36,15,16,18,1,17,19,21,23,12] [⟨some 35,none,.mv (.t 14)⟩,⟨some 36,none,.cmp .neq (.t 35) (.c (.lit .i64 0))⟩])
  (.cond (.t 36)
    (.seq (.reg [2,4,25,0,8,3,10,5,13,14,36,15,16,18,1,17,19,21,23,12] [⟨some 37,none,.mv (.t 14)⟩,⟨some 38,none,.cmp .eql (.t 37) (.c (.lit .i64 2))⟩,⟨some 39,none,.mv (.t 38)⟩,⟨some 40,some (39,true),.ld 75 true (.t 13)⟩,⟨some 41,some (39,true),.bldS (.cat 1 74 (.v .ff) (.cat 1 73 (.v (.lit .i64 0)) (.cat 1 72 (.v (.lit .i64 0)) (.cat 16 56 (.ints .u8 16) (.cat 32 24 (.ints .u8 32) (.ints .u8 24)))))) []⟩,⟨some 42,some (39,true),.eq (.z [.b,.i .i64,.i .i64,.i .u8,.i .u8,.i .u8,.i .u8,.i .u8,.i .u8,.i .u8,.i .u8,.i .u8,.i .u8,.i .u8,.i .u8,.i .u8,.i .u8,.i .u8,.i .u8,.i .u8,.i .u8,.i .u8,.i .u8,.i .u8,.i .u8,.i .u8,.i .u8,.i .u8,.i .u8,.i .u8,.i .u8,.i .u8,.i .u8,.i .u8,.i .u8,.i .u8,.i .u8,.i .u8,.i .u8,.i .u8,.i .u8,.i .u8,.i .u8,.i .u8,.i .u8,.i .u8,.i .u8,.i .u8,.i .u8,.i .u8,.i .u8,.i .u8,.i .u8,.i .u8,.i .u8,.i .u8,.i .u8,.i .u8,.i .u8,.i .u8,.i .u8,.i .u8,.i .u8,.i .u8,.i .u8,.i .u8,.i .u8,.i .u8,.i .u8,.i .u8,.i .u8,.i .u8,.i .u8,.i .u8,.i .u8]) false (.t 40) (.t 41)⟩,⟨some 43,none,.pick (.t 39) (.t 42) (.c .ff)⟩,⟨some 12,none,.mv (.t 43)⟩])
    .ret)
    .skip))
  (.seq (.reg [2,4,25,0,8,3,10,5,13,14,36,15,16,18,1,17,19,21,23,12] [⟨some 45,none,.mv (.t 0)⟩,⟨some 46,none,.ld 75 true (.t 13)⟩,⟨some 47,none,.call 38 true [((.t 45),.v),((.t 46),.v)]⟩,⟨some 44,none,.mv (.t 47)⟩,⟨some 48,none,.ext 0 (.t 44)⟩,⟨some 49,none,.ext 1 (.t 44)⟩,⟨some 15,none,.alloc (.ints .u8 32)⟩,⟨none,none,.st 32 (.t 15) (.t 48)⟩,⟨some 14,none,.mv (.t 49)⟩])
  (.seq (.reg [2,4,25,0,8,3,10,5,13,14,36,15,16,18,1,17,19,21,23,12] [⟨some 51,none,.ld 75 true (.t 13)⟩,⟨some 52,none,.call 40 true [((.t 51),.v)]⟩,⟨some 50,none,.mv (.t 52)⟩,⟨some 53,none,.ext 0 (.t 50)⟩,⟨some 54,none,.ext 1 (.t 50)⟩,⟨some 16,none,.mv (.t 53)⟩,⟨some 17,none,.mv (.t 54)⟩])
  (.seq (.reg [2,4,25,0,8,3,10,5,13,14,36,15,16,18,1,17,19,21,23,12] [⟨some 56,none,.mv (.t 16)⟩,⟨some 57,none,.call 42 true [((.t 56),.b (.i .u8))]⟩,⟨some 55,none,.mv (.t 57)⟩,⟨some 58,none,.ext 0 (.t 55)⟩,⟨some 59,none,.ext 1 (.t 55)⟩,⟨some 18,none,.alloc (.cat 1 74 (.v .ff) (.cat 1 73 (.v (.lit .i64 0)) (.cat 1 72 (.v (.lit .i64 0)) (.cat 16 56 (.ints .u8 16) (.cat 32 24 (.ints .u8 32) (.ints .u8 24))))))⟩,⟨none,none,.st 75 (.t 18) (.t 58)⟩,⟨some 19,none,.mv (.t 59)⟩])
  (.seq (.reg [2,4,25,0,8,3,10,5,13,14,36,15,16,18,1,17,19,21,23,12] [⟨some 61,none,.mv (.t 1)⟩,⟨some 62,none,.ld 75 true (.t 13)⟩,⟨some 63,none,.call 38 true [((.t 61),.v),((.t 62),.v)]⟩,⟨some 60,none,.mv (.t 63)⟩,⟨some 64,none,.ext 0 (.t 60)⟩,⟨some 65,none,.ext 1 (.t 60)⟩,⟨some 20,none,.alloc (.ints .u8 32)⟩,⟨none,none,.st 32 (.t 20) (.t 64)⟩,⟨some 21,none,.mv (.t 65)⟩])
  (.seq (.reg [2,4,25,0,8,3,10,5,13,14,36,15,16,18,1,17,19,21,23,12] [⟨some 67,none,.mv (.t 1)⟩,⟨some 68,none,.ld 75 true (.t 13)⟩,⟨some 69,none,.call 39 true [((.t 67),.v),((.t 68),.v)]⟩,⟨some 66,none,.mv (.t 69)⟩,⟨some 70,none,.ext 0 (.t 66)⟩,⟨some 71,none,.ext 1 (.t 66)⟩,⟨some 22,none,.alloc (.ints .u8 32)⟩,⟨none,none,.st 32 (.t 22) (.t 70)⟩,⟨some 23,none,.mv (.t 71)⟩])
  (.seq (.reg [2,4,25,0,8,3,10,5,13,14,36,15,16,18,1,17,19,21,23,12] [⟨some 72,none,.mv (.t 14)⟩,⟨some 73,none,.cmp .eql (.t 72) (.c (.lit .i64 0))⟩,⟨some 74,none,.mv (.t 73)⟩,⟨some 75,some (74,true),.ld 32 true (.t 15)⟩,⟨some 76,some (74,true),.ld 32 true (.t 10)⟩,⟨some 77,some (74,true),.eq (.a .u8 32) false (.t 75) (.t 76)⟩,⟨some 78,none,.pick (.t 74) (.t 77) (.c .ff)⟩,⟨some 79,none,.mv (.t 78)⟩,⟨some 80,some (79,true),.mv (.t 17)⟩,⟨some 81,some (79,true),.cmp .eql (.t 80) (.c (.lit .i64 0))⟩,⟨some 82,none,.pick (.t 79) (.t 81) (.c .ff)⟩,⟨some 83,none,.mv (.t 82)⟩,⟨some 84,some (83,true),.mv (.t 19)⟩,⟨some 85,some (83,true),.cmp .eql (.t 84) (.c (.lit .i64 0))⟩,⟨some 86,none,.pick (.t 83) (.t 85) (.c .ff)⟩,⟨some 87,none,.mv (.t 86)⟩,⟨some 88,some (87,true),.ld 75 true (.t 18)⟩,⟨some 89,some (87,true),.ld 75 true (.t 13)⟩,⟨some 90,some (87,true),.eq (.z [.b,.i .i64,.i .i64,.i .u8,.i .u8,.i .u8,.i .u8,.i .u8,.i .u8,.i .u8,.i .u8,.i .u8,.i .u8,.i .u8,.i .u8,.i .u8,.i .u8,.i .u8,.i .u8,.i .u8,.i .u8,.i .u8,.i .u8,.i .u8,.i .u8,.i .u8,.i .u8,.i .u8,.i .u8,.i .u8,.i .u8,.i .u8,.i .u8,.i .u8,.i .u8,.i .u8,.i .u8,.i .u8,.i .u8,.i .u8,.i .u8,.i .u8,.i .u8,.i .u8,.i .u8,.i .u8,.i .u8,.i .u8,.i .u8,.i .u8,.i .u8,.i .u8,.i .u8,.i .u8,.i .u8,.i .u8,.i .u8,.i .u8,.i .u8,.i .u8,.i .u8,.i .u8,.i .u8,.i .u8,.i .u8,.i .u8,.i .u8,.i .u8,.i .u8,.i .u8,.i .u8,.i .u8,.i .u8,.i .u8,.i .u8]) false (.t 88) (.t 89)⟩,⟨some 91,none,.pick (.t 87) (.t 90) (.c .ff)⟩,⟨some 92,none,.mv (.t 91)⟩,⟨some 93,some (92,true),.mv (.t 21)⟩,⟨some 94,some (92,true),.mv (.t 23)⟩,⟨some 95,some (92,true),.cmp .eql (.t 93) (.t 94)⟩,⟨some 96,none,.pick (.t 92) (.t 95) (.c .ff)⟩,⟨some 12,none,.mv (.t 96)⟩])
  .ret))))))))))⟩
/- 35 cloister/slots.Wrap -/
def ic35 : IFn := ⟨5,45,[.cell 10 75 true,.t 11],
  (.seq (.reg [1,3,0,6,2,12,13,4,31,10,8,14,11] [⟨some 6,none,.box (.t 1)⟩,⟨some 8,none,.box (.t 3)⟩,⟨some 10,none,.alloc (.cat 1 74 (.v .ff) (.cat 1 73 (.v (.lit .i64 0)) (.cat 1 72 (.v (.lit .i64 0)) (.cat 16 56 (.ints .u8 16) (.cat 32 24 (.ints .u8 32) (.ints .u8 24))))))⟩,⟨some 11,none,.mv (.c (.lit .i64 0))⟩])
  (.seq (.reg [1,3,0,6,2,12,13,4,31,10,8,14,11] [⟨some 16,none,.mv (.t 0)⟩,⟨some 17,none,.ld 16 true (.t 6)⟩,⟨some 18,none,.mv (.t 2)⟩,⟨some 19,none,.call 83 true [((.t 16),.v),((.t 17),.v),((.t 18),.v)]⟩,⟨some 15,none,.mv (.t 19)⟩,⟨some 20,none,.ext 0 (.t 15)⟩,⟨some 21,none,.ext 1 (.t 15)⟩,⟨some 12,none,.alloc (.ints .u8 32)⟩,⟨none,none,.st 32 (.t 12) (.t 20)⟩,⟨some 13,none,.mv (.t 21)⟩])
  (.seq (.seq (.reg [1,3,0,6,2,12,13,4,31,10,8,14,11] [⟨some 22,none,.mv (.t 13)⟩,⟨some 23,none,.cmp .neq (.t 22) (.c (.lit .i64 0))⟩,⟨some 24,none,.mv (.t 23)⟩,⟨some 25,some (24,false),.mv (.t 4)⟩,⟨some 26,some (24,false),.cmp .lss (.t 25) (.c (.lit .i64 1))⟩,⟨some 27,none,.pick (.t 24) (.c .tt) (.t 26)⟩,⟨some 28,none,.mv (.t 27)⟩,⟨some 29,some (28,false),.mv (.t 4)⟩,⟨some 30,some (28,false),.cmp .gtr (.t 29) (.c (.lit .i64 255))⟩,⟨some 31,none,.pick (.t 28) (.c .tt) (.t 30)⟩])
  (.cond (.t 31)
    (.seq (.reg [1,3,0,6,2,12,13,4,31,10,8,14,11] [⟨some 32,none,.bldS (.cat 1 74 (.v .ff) (.cat 1 73 (.v (.lit .i64 0)) (.cat 1 72 (.v (.lit .i64 0)) (.cat 16 56 (.ints .u8 16) (.cat 32 24 (.ints .u8 32) (.ints .u8 24)))))) []⟩,⟨none,none,.st 75 (.t 10) (.t 32)⟩,⟨some 11,none,.mv (.c (.lit .i64 2))⟩])
    .ret)
    .skip))
  (.seq (.dreg [1,3,0,6,2,12,13,4,31,10,8,14,11] [⟨⟨some 33,none,.mv (.t 4)⟩,[38,10038,20038,30038,40038,50038,60038,70038,80038,90038,14],[],none⟩,⟨⟨some 34,none,.mv (.t 2)⟩,[38,10038,20038,30038,40038,50038,60038,70038,80038,90038,14],[],none⟩,⟨⟨some 35,none,.ld 16 true (.t 6)⟩,[38,10038,20038,30038,40038,50038,60038,70038,80038,90038,14],[],none⟩,⟨⟨some 36,none,.ld 32 true (.t 12)⟩,[14],[],none⟩,⟨⟨some 37,none,.ld 32 true (.t 8)⟩,[14],[],none⟩,⟨⟨some 38,none,.call 84 true [((.t 36),.v),((.t 37),.v)]⟩,[14],[],none⟩,⟨⟨some 39,none,.bldS (.cat 1 74 (.v .ff) (.cat 1 73 (.v (.lit .i64 0)) (.cat 1 72 (.v (.lit .i64 0)) (.cat 16 56 (.ints .u8 16) (.cat 32 24 (.ints .u8 32) (.ints .u8 24)))))) [(0,1,(.c .tt)),(1,1,(.t 33)),(2,1,(.t 34)),(3,16,(.t 35)),(19,32,(.t 38))]⟩,[14],[],none⟩,⟨⟨some 14,none,.alloc (.cat 1 74 (.v .ff) (.cat 1 73 (.v (.lit .i64 0)) (.cat 1 72 (.v (.lit .i64 0)) (.cat 16 56 (.ints .u8 16) (.cat 32 24 (.ints .u8 32) (.ints .u8 24))))))⟩,[38,10038,20038,30038,40038,50038,60038,70038,80038,90038],[],none⟩,⟨⟨none,none,.st 75 (.t 14) (.t 39)⟩,[],[],none⟩])
  (.seq (.reg [1,3,0,6,2,12,13,4,31,10,8,14,11] [⟨some 40,none,.ld 32 true (.t 12)⟩,⟨some 41,none,.ld 75 true (.t 14)⟩,⟨some 42,none,.call 85 true [((.t 40),.v),((.t 41),.v)]⟩,⟨some 43,none,.fa 51 24 (.t 14)⟩,⟨none,none,.st 24 (.t 43) (.t 42)⟩])
  (.seq (.reg [1,3,0,6,2,12,13,4,31,10,8,14,11] [⟨some 44,none,.ld 75 true (.t 14)⟩,⟨none,none,.st 75 (.t 10) (.t 44)⟩,⟨some 11,none,.mv (.c (.lit .i64 0))⟩])
  .ret))))))⟩
/- 36 cloister/cloisterref08.Wrap -/
def ic36 : IFn := ⟨5,45,[.cell 10 75 true,.t 11],
  (.seq (.reg [1,3,0,6,2,12,13,4,31,10,8,14,11] [⟨some 6,none,.box (.t 1)⟩,⟨some 8,none,.box (.t 3)⟩,⟨some 10,none,.alloc (.cat 1 74 (.v .ff) (.cat 1 73 (.v (.lit .i64 0)) (.cat 1 72 (.v (.lit .i64 0)) (.cat 16 56 (.ints .u8 16) (.cat 32 24 (.ints .u8 32) (.ints .u8 24))))))⟩,⟨some 11,none,.mv (.c (.lit .i64 0))⟩])
  (.seq (.reg [1,3,0,6,2,12,13,4,31,10,8,14,11] [⟨some 16,none,.mv (.t 0)⟩,⟨some 17,none,.ld 16 true (.t 6)⟩,⟨some 18,none,.mv (.t 2)⟩,⟨some 19,none,.call 86 true [((.t 16),.v),((.t 17),.v),((.t 18),.v)]⟩,⟨some 15,none,.mv (.t 19)⟩,⟨some 20,none,.ext 0 (.t 15)⟩,⟨some 21,none,.ext 1 (.t 15)⟩,⟨some 12,none,.alloc (.ints .u8 32)⟩,⟨none,none,.st 32 (.t 12) (.t 20)⟩,⟨some 13,none,.mv (.t 21)⟩])
  (.seq (.seq (.reg [1,3,0,6,2,12,13,4,31,10,8,14,11] [⟨some 22,none,.mv (.t 13)⟩,⟨some 23,none,.cmp .neq (.t 22) (.c (.lit .i64 0))⟩,⟨some 24,none,.mv (.t 23)⟩,⟨some 25,some (24,false),.mv (.t 4)⟩,⟨some 26,some (24,false),.cmp .lss (.t 25) (.c (.lit .i64 1))⟩,⟨some 27,none,.pick (.t 24) (.c .tt) (.t 26)⟩,⟨some 28,none,.mv (.t 27)⟩,⟨some 29,some (28,false),.mv (.t 4)⟩,⟨some 30,some (28,false),.cmp .gtr (.t 29) (.c (.lit .i64 255))⟩,⟨some 31,none,.pick (.t 28) (.c .tt) (.t 30)⟩])
  (.cond (.t 31)
    (.seq (.reg [1,3,0,6,2,12,13,4,31,10,8,14,11] [⟨some 32,none,.bldS (.cat 1 74 (.v .ff) (.cat 1 73 (.v (.lit .i64 0)) (.cat 1 72 (.v (.lit .i64 0)) (.cat 16 56 (.ints .u8 16) (.cat 32 24 (.ints .u8 32) (.ints .u8 24)))))) []⟩,⟨none,none,.st 75 (.t 10) (.t 32)⟩,⟨some 11,none,.mv (.c (.lit .i64 2))⟩])
    .ret)
    .skip))
  (.seq (.dreg [1,3,0,6,2,12,13,4,31,10,8,14,11] [⟨⟨some 33,none,.mv (.t 4)⟩,[38,10038,20038,30038,40038,50038,60038,70038,80038,90038,14],[],none⟩,⟨⟨some 34,none,.mv (.t 2)⟩,[38,10038,20038,30038,40038,50038,60038,70038,80038,90038,14],[],none⟩,⟨⟨some 35,none,.ld 16 true (.t 6)⟩,[38,10038,20038,30038,40038,50038,60038,70038,80038,90038,14],[],none⟩,⟨⟨some 36,none,.ld 32 true (.t 12)⟩,[14],[],none⟩,⟨⟨some 37,none,.ld 32 true (.t 8)⟩,[14],[],none⟩,⟨⟨some 38,none,.call 87 true [((.t 36),.v),((.t 37),.v)]⟩,[14],[],none⟩,⟨⟨some 39,none,.bldS (.cat 1 74 (.v .ff) (.cat 1 73 (.v (.lit .i64 0)) (.cat 1 72 (.v (.lit .i64 0)) (.cat 16 56 (.ints .u8 16) (.cat 32 24 (.ints .u8 32) (.ints .u8 24)))))) [(0,1,(.c .tt)),(1,1,(.t 33)),(2,1,(.t 34)),(3,16,(.t 35)),(19,32,(.t 38))]⟩,[14],[],none⟩,⟨⟨some 14,none,.alloc (.cat 1 74 (.v .ff) (.cat 1 73 (.v (.lit .i64 0)) (.cat 1 72 (.v (.lit .i64 0)) (.cat 16 56 (.ints .u8 16) (.cat 32 24 (.ints .u8 32) (.ints .u8 24))))))⟩,[38,10038,20038,30038,40038,50038,60038,70038,80038,90038],[],none⟩,⟨⟨none,none,.st 75 (.t 14) (.t 39)⟩,[],[],none⟩])
  (.seq (.reg [1,3,0,6,2,12,13,4,31,10,8,14,11] [⟨some 40,none,.ld 32 true (.t 12)⟩,⟨some 41,none,.ld 75 true (.t 14)⟩,⟨some 42,none,.call 88 true [((.t 40),.v),((.t 41),.v)]⟩,⟨some 43,none,.fa 51 24 (.t 14)⟩,⟨none,none,.st 24 (.t 43) (.t 42)⟩])
  (.seq (.reg [1,3,0,6,2,12,13,4,31,10,8,14,11] [⟨some 44,none,.ld 75 true (.t 14)⟩,⟨none,none,.st 75 (.t 10) (.t 44)⟩,⟨some 11,none,.mv (.c (.lit .i64 0))⟩])
  .ret))))))⟩
/- 37 cloister/cloisterlaw08.fixed -/
def ic37 : IFn := ⟨0,48,[.t 0],
  (.seq (.reg [1,3,2,4,6,0] [⟨some 0,none,.mv (.c .ff)⟩])
  (.seq (.reg [1,3,2,4,6,0] [⟨some 8,none,.bldA (.i .u8) 16 [(0,(.c (.lit .u8 1)))]⟩,⟨some 9,none,.bldA (.i .u8) 32 [(0,(.c (.lit .u8 7)))]⟩,⟨some 10,none,.call 35 true [((.c (.str [112])),.v),((.t 8),.v),((.c (.lit .i64 2)),.v),((.t 9),.v),((.c (.lit .i64 1)),.v)]⟩,⟨some 7,none,.mv (.t 10)⟩,⟨some 11,none,.ext 0 (.t 7)⟩,⟨some 12,none,.ext 1 (.t 7)⟩,⟨some 1,none,.alloc (.cat 1 74 (.v .ff) (.cat 1 73 (.v (.lit .i64 0)) (.cat 1 72 (.v (.lit .i64 0)) (.cat 16 56 (.ints .u8 16) (.cat 32 24 (.ints .u8 32) (.ints .u8 24))))))⟩,⟨none,none,.st 75 (.t 1) (.t 11)⟩,⟨some 2,none,.mv (.t 12)⟩])
  (.seq (.reg [1,3,2,4,6,0] [⟨some 14,none,.ld 75 true (.t 1)⟩,⟨some 15,none,.call 38 true [((.c (.str [112])),.v),((.t 14),.v)]⟩,⟨some 13,none,.mv (.t 15)⟩,⟨some 16,none,.ext 0 (.t 13)⟩,⟨some 17,none,.ext 1 (.t 13)⟩,⟨some 3,none,.alloc (.ints .u8 32)⟩,⟨none,none,.st 32 (.t 3) (.t 16)⟩,⟨some 4,none,.mv (.t 17)⟩])
  (.seq (.reg [1,3,2,4,6,0] [⟨some 19,none,.ld 75 true (.t 1)⟩,⟨some 20,none,.call 38 true [((.c (.str [113])),.v),((.t 19),.v)]⟩,⟨some 18,none,.mv (.t 20)⟩,⟨some 21,none,.ext 0 (.t 18)⟩,⟨some 22,none,.ext 1 (.t 18)⟩,⟨some 5,none,.alloc (.ints .u8 32)⟩,⟨none,none,.st 32 (.t 5) (.t 21)⟩,⟨some 6,none,.mv (.t 22)⟩])
  (.seq (.reg [1,3,2,4,6,0] [⟨some 23,none,.mv (.t 2)⟩,⟨some 24,none,.cmp .eql (.t 23) (.c (.lit .i64 0))⟩,⟨some 25,none,.mv (.t 24)⟩,⟨some 26,some (25,true),.mv (.t 4)⟩,⟨some 27,some (25,true),.cmp .eql (.t 26) (.c (.lit .i64 0))⟩,⟨some 28,none,.pick (.t 25) (.t 27) (.c .ff)⟩,⟨some 29,none,.mv (.t 28)⟩,⟨some 30,some (29,true),.ld 32 true (.t 3)⟩,⟨some 31,some (29,true),.bldA (.i .u8) 32 [(0,(.c (.lit .u8 7)))]⟩,⟨some 32,some (29,true),.eq (.a .u8 32) false (.t 30) (.t 31)⟩,⟨some 33,none,.pick (.t 29) (.t 32) (.c .ff)⟩,⟨some 34,none,.mv (.t 33)⟩,⟨some 35,some (34,true),.mv (.t 6)⟩,⟨some 36,some (34,true),.cmp .eql (.t 35) (.c (.lit .i64 14))⟩,⟨some 37,none,.pick (.t 34) (.t 36) (.c .ff)⟩,⟨some 38,none,.mv (.t 37)⟩,⟨some 39,some (38,true),.fa 0 1 (.t 1)⟩,⟨some 40,some (38,true),.ld 1 false (.t 39)⟩,⟨some 41,none,.pick (.t 38) (.t 40) (.c .ff)⟩,⟨some 42,none,.mv (.t 41)⟩,⟨some 43,none,.pick (.t 42) (.c .tt) (.c .ff)⟩,⟨some 44,none,.mv (.t 43)⟩,⟨some 45,none,.pick (.t 44) (.c .tt) (.c .ff)⟩,⟨some 46,none,.mv (.t 45)⟩,⟨some 47,none,.pick (.t 46) (.c .tt) (.c .ff)⟩,⟨some 0,none,.mv (.t 47)⟩])
  .ret)))))⟩
/- 38 cloister/slots.Unwrap -/
def ic38 : IFn := ⟨2,45,[.cell 4 32 true,.t 5],
  (.seq (.reg [1,3,9,4,14,0,6,8,7,39,5] [⟨some 3,none,.box (.t 1)⟩,⟨some 4,none,.alloc (.ints .u8 32)⟩,⟨some 5,none,.mv (.c (.lit .i64 0))⟩])
  (.seq (.block 0 (.seq (.reg [1,3,9,4,14,0,6,8,7,39,5] [⟨some 10,none,.ld 75 true (.t 3)⟩,⟨some 11,none,.call 89 true [((.t 10),.v)]⟩,⟨some 12,none,.not (.t 11)⟩,⟨some 9,none,.mv (.t 12)⟩])
  (.cond (.t 9)
    (.seq (.reg [1,3,9,4,14,0,6,8,7,39,5] [⟨some 13,none,.bldA (.i .u8) 32 []⟩,⟨none,none,.st 32 (.t 4) (.t 13)⟩,⟨some 5,none,.mv (.c (.lit .i64 3))⟩])
    .ret)
    (.seq (.reg [1,3,9,4,14,0,6,8,7,39,5] [⟨some 15,none,.fa 0 1 (.t 3)⟩,⟨some 16,none,.ld 1 false (.t 15)⟩,⟨some 17,none,.not (.t 16)⟩,⟨some 14,none,.mv (.t 17)⟩])
    (.cond (.t 14)
      (.seq (.reg [1,3,9,4,14,0,6,8,7,39,5] [⟨some 18,none,.bldA (.i .u8) 32 []⟩,⟨none,none,.st 32 (.t 4) (.t 18)⟩,⟨some 5,none,.mv (.c (.lit .i64 4))⟩])
      .ret)
      .skip)))))
  (.seq (.reg [1,3,9,4,14,0,6,8,7,39,5] [⟨some 20,none,.mv (.t 0)⟩,⟨some 21,none,.fa 3 16 (.t 3)⟩,⟨some 22,none,.ld 16 true (.t 21)⟩,⟨some 23,none,.fa 2 1 (.t 3)⟩,⟨some 24,none,.ld 1 false (.t 23)⟩,⟨some 25,none,.call 83 true [((.t 20),.v),((.t 22),.v),((.t 24),.v)]⟩,⟨some 19,none,.mv (.t 25)⟩,⟨some 26,none,.ext 0 (.t 19)⟩,⟨some 27,none,.ext 1 (.t 19)⟩,⟨some 6,none,.alloc (.ints .u8 32)⟩,⟨none,none,.st 32 (.t 6) (.t 26)⟩,⟨some 7,none,.mv (.t 27)⟩])
  (.seq (.reg [1,3,9,4,14,0,6,8,7,39,5] [⟨some 28,none,.ld 32 true (.t 6)⟩,⟨some 29,none,.ld 75 true (.t 3)⟩,⟨some 30,none,.call 85 true [((.t 28),.v),((.t 29),.v)]⟩,⟨some 8,none,.alloc (.ints .u8 24)⟩,⟨none,none,.st 24 (.t 8) (.t 30)⟩])
  (.seq (.seq (.dreg [1,3,9,4,14,0,6,8,7,39,5] [⟨⟨some 31,none,.mv (.t 7)⟩,[],[],none⟩,⟨⟨some 32,none,.cmp .neq (.t 31) (.c (.lit .i64 0))⟩,[],[],none⟩,⟨⟨some 33,none,.mv (.t 32)⟩,[],[],none⟩,⟨⟨some 34,some (33,false),.slA 24 1 (.t 8) none none⟩,[],[],none⟩,⟨⟨some 35,some (33,false),.fa 51 24 (.t 3)⟩,[],[],none⟩,⟨⟨some 36,some (33,false),.slA 24 1 (.t 35) none none⟩,[],[],none⟩,⟨⟨some 37,some (33,false),.call 90 true [((.t 34),.b (.i .u8)),((.t 36),.b (.i .u8))]⟩,[],[],none⟩,⟨⟨some 38,some (33,false),.not (.t 37)⟩,[],[],none⟩,⟨⟨some 39,none,.pick (.t 33) (.c .tt) (.t 38)⟩,[],[],none⟩])
  (.cond (.t 39)
    (.seq (.reg [1,3,9,4,14,0,6,8,7,39,5] [⟨some 40,none,.bldA (.i .u8) 32 []⟩,⟨none,none,.st 32 (.t 4) (.t 40)⟩,⟨some 5,none,.mv (.c (.lit .i64 14))⟩])
    .ret)
    .skip))
  (.seq (.reg [1,3,9,4,14,0,6,8,7,39,5] [⟨some 41,none,.ld 32 true (.t 6)⟩,⟨some 42,none,.fa 19 32 (.t 3)⟩,⟨some 43,none,.ld 32 true (.t 42)⟩,⟨some 44,none,.call 84 true [((.t 41),.v),((.t 43),.v)]⟩,⟨none,none,.st 32 (.t 4) (.t 44)⟩,⟨some 5,none,.mv (.c (.lit .i64 0))⟩])
  .ret))))))⟩
/- 39 cloister/cloisterref08.Unwrap -/
def ic39 : IFn := ⟨2,40,[.cell 4 32 true,.t 5],
  (.seq (.reg [1,3,10,4,14,0,6,7,34,5] [⟨some 3,none,.box (.t 1)⟩,⟨some 4,none,.alloc (.ints .u8 32)⟩,⟨some 5,none,.mv (.c (.lit .i64 0))⟩])
  (.seq (.seq (.reg [1,3,10,4,14,0,6,7,34,5] [⟨some 8,none,.ld 75 true (.t 3)⟩,⟨some 9,none,.call 91 true [((.t 8),.v)]⟩,⟨some 10,none,.not (.t 9)⟩])
  (.cond (.t 10)
    (.seq (.reg [1,3,10,4,14,0,6,7,34,5] [⟨some 11,none,.bldA (.i .u8) 32 []⟩,⟨none,none,.st 32 (.t 4) (.t 11)⟩,⟨some 5,none,.mv (.c (.lit .i64 3))⟩])
    .ret)
    .skip))
  (.seq (.seq (.reg [1,3,10,4,14,0,6,7,34,5] [⟨some 12,none,.fa 0 1 (.t 3)⟩,⟨some 13,none,.ld 1 false (.t 12)⟩,⟨some 14,none,.not (.t 13)⟩])
  (.cond (.t 14)
    (.seq (.reg [1,3,10,4,14,0,6,7,34,5] [⟨some 15,none,.bldA (.i .u8) 32 []⟩,⟨none,none,.st 32 (.t 4) (.t 15)⟩,⟨some 5,none,.mv (.c (.lit .i64 4))⟩])
    .ret)
    .skip))
  (.seq (.reg [1,3,10,4,14,0,6,7,34,5] [⟨some 17,none,.mv (.t 0)⟩,⟨some 18,none,.fa 3 16 (.t 3)⟩,⟨some 19,none,.ld 16 true (.t 18)⟩,⟨some 20,none,.fa 2 1 (.t 3)⟩,⟨some 21,none,.ld 1 false (.t 20)⟩,⟨some 22,none,.call 86 true [((.t 17),.v),((.t 19),.v),((.t 21),.v)]⟩,⟨some 16,none,.mv (.t 22)⟩,⟨some 23,none,.ext 0 (.t 16)⟩,⟨some 24,none,.ext 1 (.t 16)⟩,⟨some 6,none,.alloc (.ints .u8 32)⟩,⟨none,none,.st 32 (.t 6) (.t 23)⟩,⟨some 7,none,.mv (.t 24)⟩])
  (.seq (.seq (.dreg [1,3,10,4,14,0,6,7,34,5] [⟨⟨some 25,none,.mv (.t 7)⟩,[],[],none⟩,⟨⟨some 26,none,.cmp .neq (.t 25) (.c (.lit .i64 0))⟩,[],[],none⟩,⟨⟨some 27,none,.mv (.t 26)⟩,[],[],none⟩,⟨⟨some 28,some (27,false),.ld 32 true (.t 6)⟩,[],[],none⟩,⟨⟨some 29,some (27,false),.ld 75 true (.t 3)⟩,[],[],none⟩,⟨⟨some 30,some (27,false),.call 88 true [((.t 28),.v),((.t 29),.v)]⟩,[],[],none⟩,⟨⟨some 31,some (27,false),.fa 51 24 (.t 3)⟩,[30,10030,20030,30030,40030,50030,60030,70030,80030,90030],[],none⟩,⟨⟨some 32,some (27,false),.ld 24 true (.t 31)⟩,[30,10030,20030,30030,40030,50030,60030,70030,80030,90030],[],none⟩,⟨⟨some 33,some (27,false),.eq (.a .u8 24) true (.t 30) (.t 32)⟩,[],[],none⟩,⟨⟨some 34,none,.pick (.t 27) (.c .tt) (.t 33)⟩,[],[],none⟩])
  (.cond (.t 34)
    (.seq (.reg [1,3,10,4,14,0,6,7,34,5] [⟨some 35,none,.bldA (.i .u8) 32 []⟩,⟨none,none,.st 32 (.t 4) (.t 35)⟩,⟨some 5,none,.mv (.c (.lit .i64 14))⟩])
    .ret)
    .skip))
  (.seq (.reg [1,3,10,4,14,0,6,7,34,5] [⟨some 36,none,.ld 32 true (.t 6)⟩,⟨some 37,none,.fa 19 32 (.t 3)⟩,⟨some 38,none,.ld 32 true (.t 37)⟩,⟨some 39,none,.call 87 true [((.t 36),.v),((.t 38),.v)]⟩,⟨none,none,.st 32 (.t 4) (.t 39)⟩,⟨some 5,none,.mv (.c (.lit .i64 0))⟩])
  .ret))))))⟩
/- 40 cloister/slots.Encode -/
def ic40 : IFn := ⟨1,18,[.t 2,.t 3],
  (.seq (.reg [0,1,4,8,2,3] [⟨some 1,none,.box (.t 0)⟩,⟨some 2,none,.mv (.c .nsl)⟩,⟨some 3,none,.mv (.c (.lit .i64 0))⟩])
  (.seq (.block 0 (.seq (.reg [0,1,4,8,2,3] [⟨some 5,none,.ld 75 true (.t 1)⟩,⟨some 6,none,.call 89 true [((.t 5),.v)]⟩,⟨some 7,none,.not (.t 6)⟩,⟨some 4,none,.mv (.t 7)⟩])
  (.cond (.t 4)
    (.seq (.reg [0,1,4,8,2,3] [⟨some 2,none,.mv (.c .nsl)⟩,⟨some 3,none,.mv (.c (.lit .i64 3))⟩])
    .ret)
    (.seq (.reg [0,1,4,8,2,3] [⟨some 9,none,.fa 0 1 (.t 1)⟩,⟨some 10,none,.ld 1 false (.t 9)⟩,⟨some 11,none,.not (.t 10)⟩,⟨some 8,none,.mv (.t 11)⟩])
    (.cond (.t 8)
      (.seq (.reg [0,1,4,8,2,3] [⟨some 12,none,.mks (.i .u8) 1 (.c (.lit .i64 80))⟩,⟨some 2,none,.mv (.t 12)⟩,⟨some 3,none,.mv (.c (.lit .i64 0))⟩])
      .ret)
      .skip)))))
  (.seq (.dreg [0,1,4,8,2,3] [⟨⟨some 13,none,.ld 75 true (.t 1)⟩,[],[],none⟩,⟨⟨some 14,none,.call 92 true [((.t 13),.v)]⟩,[],[],none⟩,⟨⟨some 15,none,.fa 51 24 (.t 1)⟩,[14,10014,20014,30014,40014,50014,60014,70014,80014,90014],[],none⟩,⟨⟨some 16,none,.slA 24 1 (.t 15) none none⟩,[14,10014,20014,30014,40014,50014,60014,70014,80014,90014],[],none⟩,⟨⟨some 17,none,.app (.i .u8) 1 (.t 14) (.t 16)⟩,[],[],none⟩,⟨⟨some 2,none,.mv (.t 17)⟩,[],[],none⟩,⟨⟨some 3,none,.mv (.c (.lit .i64 0))⟩,[],[],none⟩])
  .ret)))⟩
/- 41 cloister/cloisterref08.Encode -/
def ic41 : IFn := ⟨1,16,[.t 2,.t 3],
  (.seq (.reg [0,1,6,9,2,3] [⟨some 1,none,.box (.t 0)⟩,⟨some 2,none,.mv (.c .nsl)⟩,⟨some 3,none,.mv (.c (.lit .i64 0))⟩])
  (.seq (.seq (.reg [0,1,6,9,2,3] [⟨some 4,none,.ld 75 true (.t 1)⟩,⟨some 5,none,.call 91 true [((.t 4),.v)]⟩,⟨some 6,none,.not (.t 5)⟩])
  (.cond (.t 6)
    (.seq (.reg [0,1,6,9,2,3] [⟨some 2,none,.mv (.c .nsl)⟩,⟨some 3,none,.mv (.c (.lit .i64 3))⟩])
    .ret)
    .skip))
  (.seq (.seq (.reg [0,1,6,9,2,3] [⟨some 7,none,.fa 0 1 (.t 1)⟩,⟨some 8,none,.ld 1 false (.t 7)⟩,⟨some 9,none,.not (.t 8)⟩])
  (.cond (.t 9)
    (.seq (.reg [0,1,6,9,2,3] [⟨some 10,none,.mks (.i .u8) 1 (.c (.lit .i64 80))⟩,⟨some 2,none,.mv (.t 10)⟩,⟨some 3,none,.mv (.c (.lit .i64 0))⟩])
    .ret)
    .skip))
  (.seq (.dreg [0,1,6,9,2,3] [⟨⟨some 11,none,.ld 75 true (.t 1)⟩,[],[],none⟩,⟨⟨some 12,none,.call 93 true [((.t 11),.v)]⟩,[],[],none⟩,⟨⟨some 13,none,.fa 51 24 (.t 1)⟩,[12,10012,20012,30012,40012,50012,60012,70012,80012,90012],[],none⟩,⟨⟨some 14,none,.slA 24 1 (.t 13) none none⟩,[12,10012,20012,30012,40012,50012,60012,70012,80012,90012],[],none⟩,⟨⟨some 15,none,.app (.i .u8) 1 (.t 12) (.t 14)⟩,[],[],none⟩,⟨⟨some 2,none,.mv (.t 15)⟩,[],[],none⟩,⟨⟨some 3,none,.mv (.c (.lit .i64 0))⟩,[],[],none⟩])
  .ret))))⟩
/- 42 cloister/slots.Decode -/
def ic42 : IFn := ⟨1,57,[.cell 2 75 true,.t 3],
  (.seq (.reg [0,9,2,12,4,6,5,54,3] [⟨some 2,none,.alloc (.cat 1 74 (.v .ff) (.cat 1 73 (.v (.lit .i64 0)) (.cat 1 72 (.v (.lit .i64 0)) (.cat 16 56 (.ints .u8 16) (.cat 32 24 (.ints .u8 32) (.ints .u8 24))))))⟩,⟨some 3,none,.mv (.c (.lit .i64 0))⟩])
  (.seq (.seq (.reg [0,9,2,12,4,6,5,54,3] [⟨some 7,none,.mv (.t 0)⟩,⟨some 8,none,.lenS (.t 7)⟩,⟨some 9,none,.cmp .neq (.t 8) (.c (.lit .i64 80))⟩])
  (.cond (.t 9)
    (.seq (.reg [0,9,2,12,4,6,5,54,3] [⟨some 10,none,.bldS (.cat 1 74 (.v .ff) (.cat 1 73 (.v (.lit .i64 0)) (.cat 1 72 (.v (.lit .i64 0)) (.cat 16 56 (.ints .u8 16) (.cat 32 24 (.ints .u8 32) (.ints .u8 24)))))) []⟩,⟨none,none,.st 75 (.t 2) (.t 10)⟩,⟨some 3,none,.mv (.c (.lit .i64 12))⟩])
    .ret)
    .skip))
  (.seq (.seq (.reg [0,9,2,12,4,6,5,54,3] [⟨some 11,none,.mv (.t 0)⟩,⟨some 12,none,.call 94 true [((.t 11),.b (.i .u8))]⟩])
  (.cond (.t 12)
    (.seq (.reg [0,9,2,12,4,6,5,54,3] [⟨some 13,none,.bldS (.cat 1 74 (.v .ff) (.cat 1 73 (.v (.lit .i64 0)) (.cat 1 72 (.v (.lit .i64 0)) (.cat 16 56 (.ints .u8 16) (.cat 32 24 (.ints .u8 32) (.ints .u8 24)))))) []⟩,⟨none,none,.st 75 (.t 2) (.t 13)⟩,⟨some 3,none,.mv (.c (.lit .i64 0))⟩])
    .ret)
    .skip))
  (.seq (.reg [0,9,2,12,4,6,5,54,3] [⟨some 14,none,.mv (.t 0)⟩,⟨some 15,none,.call 95 true [((.t 14),.b (.i .u8))]⟩,⟨some 4,none,.mv (.t 15)⟩])
  (.seq (.reg [0,9,2,12,4,6,5,54,3] [⟨some 16,none,.mv (.t 4)⟩,⟨some 17,none,.call 96 false [((.t 16),.v),((.c (.lit .i64 1)),.v)]⟩,⟨some 5,none,.mv (.t 17)⟩])
  (.seq (.reg [0,9,2,12,4,6,5,54,3] [⟨some 18,none,.mv (.t 4)⟩,⟨some 19,none,.call 96 false [((.t 18),.v),((.c (.lit .i64 1)),.v)]⟩,⟨some 20,none,.cv .i64 (.t 19)⟩,⟨some 21,none,.bldS (.cat 1 74 (.v .ff) (.cat 1 73 (.v (.lit .i64 0)) (.cat 1 72 (.v (.lit .i64 0)) (.cat 16 56 (.ints .u8 16) (.cat 32 24 (.ints .u8 32) (.ints .u8 24)))))) [(0,1,(.c .tt)),(1,1,(.t 20))]⟩,⟨some 6,none,.alloc (.cat 1 74 (.v .ff) (.cat 1 73 (.v (.lit .i64 0)) (.cat 1 72 (.v (.lit .i64 0)) (.cat 16 56 (.ints .u8 16) (.cat 32 24 (.ints .u8 32) (.ints .u8 24))))))⟩,⟨none,none,.st 75 (.t 6) (.t 21)⟩])
  (.seq (.reg [0,9,2,12,4,6,5,54,3] [⟨some 22,none,.mv (.t 4)⟩,⟨some 23,none,.call 97 false [((.t 22),.v),((.c (.lit .i64 2)),.v)]⟩])
  (.seq (.reg [0,9,2,12,4,6,5,54,3] [⟨some 24,none,.mv (.t 4)⟩,⟨some 25,none,.call 96 false [((.t 24),.v),((.c (.lit .i64 4)),.v)]⟩,⟨some 26,none,.cv .i64 (.t 25)⟩,⟨some 27,none,.fa 2 1 (.t 6)⟩,⟨none,none,.st 1 (.t 27) (.t 26)⟩])
  (.seq (.dreg [0,9,2,12,4,6,5,54,3] [⟨⟨some 28,none,.fa 3 16 (.t 6)⟩,[31,10031,20031,30031,40031,50031,60031,70031,80031,90031],[],none⟩,⟨⟨some 29,none,.slA 16 1 (.t 28) none none⟩,[31,10031,20031,30031,40031,50031,60031,70031,80031,90031,31,10031,20031,30031,40031,50031,60031,70031,80031,90031],[4],none⟩,⟨⟨some 30,none,.mv (.t 4)⟩,[],[],none⟩,⟨⟨some 31,none,.call 98 false [((.t 30),.v),((.c (.lit .i64 16)),.v)]⟩,[],[],some ([31,10031,20031,30031,40031,50031,60031,70031,80031,90031],[4])⟩,⟨⟨some 32,none,.cpy (.i .u8) (.t 29) (.t 31)⟩,[],[],none⟩])
  (.seq (.dreg [0,9,2,12,4,6,5,54,3] [⟨⟨some 33,none,.fa 19 32 (.t 6)⟩,[36,10036,20036,30036,40036,50036,60036,70036,80036,90036],[],none⟩,⟨⟨some 34,none,.slA 32 1 (.t 33) none none⟩,[36,10036,20036,30036,40036,50036,60036,70036,80036,90036,36,10036,20036,30036,40036,50036,60036,70036,80036,90036],[4],none⟩,⟨⟨some 35,none,.mv (.t 4)⟩,[],[],none⟩,⟨⟨some 36,none,.call 98 false [((.t 35),.v),((.c (.lit .i64 32)),.v)]⟩,[],[],some ([36,10036,20036,30036,40036,50036,60036,70036,80036,90036],[4])⟩,⟨⟨some 37,none,.cpy (.i .u8) (.t 34) (.t 36)⟩,[],[],none⟩])
  (.seq (.dreg [0,9,2,12,4,6,5,54,3] [⟨⟨some 38,none,.fa 51 24 (.t 6)⟩,[41,10041,20041,30041,40041,50041,60041,70041,80041,90041],[],none⟩,⟨⟨some 39,none,.slA 24 1 (.t 38) none none⟩,[41,10041,20041,30041,40041,50041,60041,70041,80041,90041,41,10041,20041,30041,40041,50041,60041,70041,80041,90041],[4],none⟩,⟨⟨some 40,none,.mv (.t 4)⟩,[],[],none⟩,⟨⟨some 41,none,.call 98 false [((.t 40),.v),((.c (.lit .i64 24)),.v)]⟩,[],[],some ([41,10041,20041,30041,40041,50041,60041,70041,80041,90041],[4])⟩,⟨⟨some 42,none,.cpy (.i .u8) (.t 39) (.t 41)⟩,[],[],none⟩])
  (.seq (.seq (.reg [0,9,2,12,4,6,5,54,3] [⟨some 43,none,.mv (.t 5)⟩,⟨some 44,none,.cmp .neq (.t 43) (.c (.lit .u64 1))⟩,⟨some 45,none,.mv (.t 44)⟩,⟨some 46,some (45,false),.mv (.t 4)⟩,⟨some 47,some (45,false),.call 99 true [((.t 46),.v)]⟩,⟨some 48,some (45,false),.cmp .neq (.t 47) (.c (.lit .i64 0))⟩,⟨some 49,none,.pick (.t 45) (.c .tt) (.t 48)⟩,⟨some 50,none,.mv (.t 49)⟩,⟨some 51,some (50,false),.ld 75 true (.t 6)⟩,⟨some 52,some (50,false),.call 89 true [((.t 51),.v)]⟩,⟨some 53,some (50,false),.not (.t 52)⟩,⟨some 54,none,.pick (.t 50) (.c .tt) (.t 53)⟩])
  (.cond (.t 54)
    (.seq (.reg [0,9,2,12,4,6,5,54,3] [⟨some 55,none,.bldS (.cat 1 74 (.v .ff) (.cat 1 73 (.v (.lit .i64 0)) (.cat 1 72 (.v (.lit .i64 0)) (.cat 16 56 (.ints .u8 16) (.cat 32 24 (.ints .u8 32) (.ints .u8 24)))))) []⟩,⟨none,none,.st 75 (.t 2) (.t 55)⟩,⟨some 3,none,.mv (.c (.lit .i64 12))⟩])
    .ret)
    .skip))
  (.seq (.reg [0,9,2,12,4,6,5,54,3] [⟨some 56,none,.ld 75 true (.t 6)⟩,⟨none,none,.st 75 (.t 2) (.t 56)⟩,⟨some 3,none,.mv (.c (.lit .i64 0))⟩])
  .ret)))))))))))))⟩
/- 43 cloister/cloisterref08.Decode -/
def ic43 : IFn := ⟨1,93,[.cell 2 75 true,.t 3],
  (.seq (.reg [0,14,2,4,5,9,7,39,50,6,8,64,11,10,90,3] [⟨some 2,none,.alloc (.cat 1 74 (.v .ff) (.cat 1 73 (.v (.lit .i64 0)) (.cat 1 72 (.v (.lit .i64 0)) (.cat 16 56 (.ints .u8 16) (.cat 32 24 (.ints .u8 32) (.ints .u8 24))))))⟩,⟨some 3,none,.mv (.c (.lit .i64 0))⟩])
  (.seq (.seq (.reg [0,14,2,4,5,9,7,39,50,6,8,64,11,10,90,3] [⟨some 12,none,.mv (.t 0)⟩,⟨some 13,none,.lenS (.t 12)⟩,⟨some 14,none,.cmp .neq (.t 13) (.c (.lit .i64 80))⟩])
  (.cond (.t 14)
    (.seq (.reg [0,14,2,4,5,9,7,39,50,6,8,64,11,10,90,3] [⟨some 15,none,.bldS (.cat 1 74 (.v .ff) (.cat 1 73 (.v (.lit .i64 0)) (.cat 1 72 (.v (.lit .i64 0)) (.cat 16 56 (.ints .u8 16) (.cat 32 24 (.ints .u8 32) (.ints .u8 24)))))) []⟩,⟨none,none,.st 75 (.t 2) (.t 15)⟩,⟨some 3,none,.mv (.c (.lit .i64 12))⟩])
    .ret)
    .skip))
  (.seq (.reg [0,14,2,4,5,9,7,39,50,6,8,64,11,10,90,3] [⟨some 16,none,.mv (.t 0)⟩,⟨some 17,none,.bldS (.cat 1 2 (.v .nsl) (.cat 1 1 (.v (.lit .i64 0)) (.v .ff))) [(0,1,(.t 16))]⟩,⟨some 18,none,.box (.t 17)⟩,⟨some 4,none,.mv (.t 18)⟩])
  (.seq (.reg [0,14,2,4,5,9,7,39,50,6,8,64,11,10,90,3] [⟨some 19,none,.mv (.t 4)⟩,⟨some 20,none,.call 100 false [((.t 19),.v),((.c (.lit .i64 1)),.v)]⟩,⟨some 21,none,.cmp .eql (.t 20) (.c (.lit .u64 1))⟩,⟨some 22,none,.mv (.t 4)⟩,⟨some 23,none,.call 101 false [((.t 22),.v),((.c (.lit .i64 1)),.v)]⟩,⟨some 24,none,.bldS (.cat 1 74 (.v .ff) (.cat 1 73 (.v (.lit .i64 0)) (.cat 1 72 (.v (.lit .i64 0)) (.cat 16 56 (.ints .u8 16) (.cat 32 24 (.ints .u8 32) (.ints .u8 24)))))) [(0,1,(.t 21)),(1,1,(.t 23))]⟩,⟨some 5,none,.alloc (.cat 1 74 (.v .ff) (.cat 1 73 (.v (.lit .i64 0)) (.cat 1 72 (.v (.lit .i64 0)) (.cat 16 56 (.ints .u8 16) (.cat 32 24 (.ints .u8 32) (.ints .u8 24))))))⟩,⟨none,none,.st 75 (.t 5) (.t 24)⟩])
  (.seq (.reg [0,14,2,4,5,9,7,39,50,6,8,64,11,10,90,3] [⟨some 25,none,.mv (.t 4)⟩,⟨some 26,none,.call 102 false [((.t 25),.v),((.c (.lit .i64 2)),.v)]⟩])
  (.seq (.reg [0,14,2,4,5,9,7,39,50,6,8,64,11,10,90,3] [⟨some 27,none,.mv (.t 4)⟩,⟨some 28,none,.call 101 false [((.t 27),.v),((.c (.lit .i64 4)),.v)]⟩,⟨some 29,none,.fa 2 1 (.t 5)⟩,⟨none,none,.st 1 (.t 29) (.t 28)⟩])
  (.seq (.reg [0,14,2,4,5,9,7,39,50,6,8,64,11,10,90,3] [⟨some 30,none,.mv (.t 4)⟩,⟨some 31,none,.call 103 false [((.t 30),.v),((.c (.lit .i64 16)),.v)]⟩,⟨some 6,none,.mv (.t 31)⟩])
  (.seq (.reg [0,14,2,4,5,9,7,39,50,6,8,64,11,10,90,3] [⟨some 32,none,.mv (.t 4)⟩,⟨some 33,none,.call 103 false [((.t 32),.v),((.c (.lit .i64 32)),.v)]⟩,⟨some 7,none,.mv (.t 33)⟩])
  (.seq (.reg [0,14,2,4,5,9,7,39,50,6,8,64,11,10,90,3] [⟨some 34,none,.mv (.t 4)⟩,⟨some 35,none,.call 103 false [((.t 34),.v),((.c (.lit .i64 24)),.v)]⟩,⟨some 8,none,.mv (.t 35)⟩])
  (.seq (.seq (.reg [0,14,2,4,5,9,7,39,50,6,8,64,11,10,90,3] [⟨some 9,none,.mv (.c (.lit .i64 0))⟩])
  (.block 0 (.loop 0 (.seq (.seq (.reg [0,14,2,4,5,9,7,39,50,6,8,64,11,10,90,3] [⟨some 36,none,.mv (.t 9)⟩,⟨some 37,none,.mv (.t 7)⟩,⟨some 38,none,.lenS (.t 37)⟩,⟨some 39,none,.cmp .lss (.t 36) (.t 38)⟩])
   (.cond (.t 39)
     .skip
     (.exit 0)))
   (.seq (.block 1 (.seq (.reg [0,14,2,4,5,9,7,39,50,6,8,64,11,10,90,3] [⟨some 42,none,.mv (.t 9)⟩,⟨some 43,none,.mv (.t 7)⟩,⟨some 44,none,.mv (.t 9)⟩,⟨some 45,none,.iaS 1 (.t 43) (.t 44)⟩,⟨some 46,none,.ld 1 false (.t 45)⟩,⟨some 47,none,.fa 19 32 (.t 5)⟩,⟨some 48,none,.iaA 32 1 (.t 47) (.t 42)⟩,⟨none,none,.st 1 (.t 48) (.t 46)⟩])
   (.seq (.seq (.reg [0,14,2,4,5,9,7,39,50,6,8,64,11,10,90,3] [⟨some 49,none,.mv (.t 9)⟩,⟨some 50,none,.cmp .lss (.t 49) (.c (.lit .i64 16))⟩])
   (.cond (.t 50)
     (.reg [0,14,2,4,5,9,7,39,50,6,8,64,11,10,90,3] [⟨some 51,none,.mv (.t 9)⟩,⟨some 52,none,.mv (.t 6)⟩,⟨some 53,none,.mv (.t 9)⟩,⟨some 54,none,.iaS 1 (.t 52) (.t 53)⟩,⟨some 55,none,.ld 1 false (.t 54)⟩,⟨some 56,none,.fa 3 16 (.t 5)⟩,⟨some 57,none,.iaA 16 1 (.t 56) (.t 51)⟩,⟨none,none,.st 1 (.t 57) (.t 55)⟩])
     .skip))
   (.seq (.reg [0,14,2,4,5,9,7,39,50,6,8,64,11,10,90,3] [⟨some 58,none,.mv (.t 9)⟩,⟨some 59,none,.cmp .lss (.t 58) (.c (.lit .i64 24))⟩,⟨some 60,none,.mv (.t 59)⟩,⟨some 61,some (60,true),.mv (.t 8)⟩,⟨some 62,some (60,true),.lenS (.t 61)⟩,⟨some 63,some (60,true),.cmp .eql (.t 62) (.c (.lit .i64 24))⟩,⟨some 64,none,.pick (.t 60) (.t 63) (.c .ff)⟩])
   (.cond (.t 64)
     (.reg [0,14,2,4,5,9,7,39,50,6,8,64,11,10,90,3] [⟨some 65,none,.mv (.t 9)⟩,⟨some 66,none,.mv (.t 8)⟩,⟨some 67,none,.mv (.t 9)⟩,⟨some 68,none,.iaS 1 (.t 66) (.t 67)⟩,⟨some 69,none,.ld 1 false (.t 68)⟩,⟨some 70,none,.fa 51 24 (.t 5)⟩,⟨some 71,none,.iaA 24 1 (.t 70) (.t 65)⟩,⟨none,none,.st 1 (.t 71) (.t 69)⟩])
     .skip)))))
   (.reg [0,14,2,4,5,9,7,39,50,6,8,64,11,10,90,3] [⟨some 40,none,.mv (.t 9)⟩,⟨some 41,none,.ar .add .i64 (.t 40) (.c (.lit .i64 1))⟩,⟨some 9,none,.mv (.t 41)⟩]))))))
  (.seq (.reg [0,14,2,4,5,9,7,39,50,6,8,64,11,10,90,3] [⟨some 73,none,.ld 75 true (.t 5)⟩,⟨some 74,none,.call 41 true [((.t 73),.v)]⟩,⟨some 72,none,.mv (.t 74)⟩,⟨some 75,none,.ext 0 (.t 72)⟩,⟨some 76,none,.ext 1 (.t 72)⟩,⟨some 10,none,.mv (.t 75)⟩,⟨some 11,none,.mv (.t 76)⟩])
  (.seq (.seq (.reg [0,14,2,4,5,9,7,39,50,6,8,64,11,10,90,3] [⟨some 77,none,.mv (.t 4)⟩,⟨some 78,none,.call 104 true [((.t 77),.v)]⟩,⟨some 79,none,.cmp .neq (.t 78) (.c (.lit .i64 0))⟩,⟨some 80,none,.mv (.t 79)⟩,⟨some 81,some (80,false),.mv (.t 11)⟩,⟨some 82,some (80,false),.cmp .neq (.t 81) (.c (.lit .i64 0))⟩,⟨some 83,none,.pick (.t 80) (.c .tt) (.t 82)⟩,⟨some 84,none,.mv (.t 83)⟩,⟨some 85,some (84,false),.mv (.t 10)⟩,⟨some 86,some (84,false),.b2s (.t 85)⟩,⟨some 87,some (84,false),.mv (.t 0)⟩,⟨some 88,some (84,false),.b2s (.t 87)⟩,⟨some 89,some (84,false),.eq .s true (.t 86) (.t 88)⟩,⟨some 90,none,.pick (.t 84) (.c .tt) (.t 89)⟩])
  (.cond (.t 90)
    (.seq (.reg [0,14,2,4,5,9,7,39,50,6,8,64,11,10,90,3] [⟨some 91,none,.bldS (.cat 1 74 (.v .ff) (.cat 1 73 (.v (.lit .i64 0)) (.cat 1 72 (.v (.lit .i64 0)) (.cat 16 56 (.ints .u8 16) (.cat 32 24 (.ints .u8 32) (.ints .u8 24)))))) []⟩,⟨none,none,.st 75 (.t 2) (.t 91)⟩,⟨some 3,none,.mv (.c (.lit .i64 12))⟩])
    .ret)
    .skip))
  (.seq (.reg [0,14,2,4,5,9,7,39,50,6,8,64,11,10,90,3] [⟨some 92,none,.ld 75 true (.t 5)⟩,⟨none,none,.st 75 (.t 2) (.t 92)⟩,⟨some 3,none,.mv (.c (.lit .i64 0))⟩])
  .ret)))))))))))))⟩
/- 84 cloister/slots.crossed -/
def ic84 : IFn := ⟨2,22,[.cell 4 32 true],
  (.seq (.reg [0,1,2,5,9,10,6,3,4] [⟨some 2,none,.box (.t 0)⟩,⟨some 3,none,.box (.t 1)⟩,⟨some 4,none,.alloc (.ints .u8 32)⟩])
  (.seq (.reg [0,1,2,5,9,10,6,3,4] [⟨some 7,none,.ld 32 true (.t 2)⟩,⟨some 8,none,.call 119 true [((.t 7),.v),((.c (.str [119,114,97,112])),.v)]⟩,⟨some 5,none,.alloc (.ints .u8 32)⟩,⟨none,none,.st 32 (.t 5) (.t 8)⟩])
  (.seq (.seq (.reg [0,1,2,5,9,10,6,3,4] [⟨some 9,none,.mv (.c (.lit .i64 0))⟩])
  (.block 0 (.loop 0 (.seq (.reg [0,1,2,5,9,10,6,3,4] [⟨some 10,none,.cmp .lss (.t 9) (.c (.lit .i64 32))⟩])
   (.seq (.cond (.t 10)
     .skip
     (.exit 0))
   (.seq (.block 1 (.seq (.reg [0,1,2,5,9,10,6,3,4] [⟨some 11,none,.mv (.t 9)⟩,⟨some 6,none,.mv (.t 11)⟩])
   (.dreg [0,1,2,5,9,10,6,3,4] [⟨⟨some 12,none,.mv (.t 6)⟩,[],[],none⟩,⟨⟨some 13,none,.iaA 32 1 (.t 3) (.t 12)⟩,[],[],none⟩,⟨⟨some 14,none,.ld 1 false (.t 13)⟩,[],[],none⟩,⟨⟨some 15,none,.mv (.t 6)⟩,[],[],none⟩,⟨⟨some 16,none,.iaA 32 1 (.t 5) (.t 15)⟩,[],[],none⟩,⟨⟨some 17,none,.ld 1 false (.t 16)⟩,[],[],none⟩,⟨⟨some 18,none,.ar .xor .u8 (.t 14) (.t 17)⟩,[],[],none⟩,⟨⟨some 19,none,.iaA 32 1 (.t 3) (.t 12)⟩,[],[],none⟩,⟨⟨none,none,.st 1 (.t 19) (.t 18)⟩,[],[],none⟩])))
   (.reg [0,1,2,5,9,10,6,3,4] [⟨some 20,none,.ar .add .i64 (.t 9) (.c (.lit .i64 1))⟩,⟨some 9,none,.mv (.t 20)⟩])))))))
  (.seq (.reg [0,1,2,5,9,10,6,3,4] [⟨some 21,none,.ld 32 true (.t 3)⟩,⟨none,none,.st 32 (.t 4) (.t 21)⟩])
  .ret))))⟩
/- 85 cloister/slots.check -/
def ic85 : IFn := ⟨2,16,[.cell 4 24 true],
  (.seq (.reg [0,1,2,5,3,6,4] [⟨some 2,none,.box (.t 0)⟩,⟨some 3,none,.box (.t 1)⟩,⟨some 4,none,.alloc (.ints .u8 24)⟩])
  (.seq (.reg [0,1,2,5,3,6,4] [⟨some 7,none,.ld 32 true (.t 2)⟩,⟨some 8,none,.call 119 true [((.t 7),.v),((.c (.str [99,104,101,99,107])),.v)]⟩,⟨some 5,none,.alloc (.ints .u8 32)⟩,⟨none,none,.st 32 (.t 5) (.t 8)⟩])
  (.seq (.dreg [0,1,2,5,3,6,4] [⟨⟨some 9,none,.slA 32 1 (.t 5) none none⟩,[11,10011,20011,30011,40011,50011,60011,70011,80011,90011,6],[],none⟩,⟨⟨some 10,none,.ld 75 true (.t 3)⟩,[6],[],none⟩,⟨⟨some 11,none,.call 92 true [((.t 10),.v)]⟩,[6],[],none⟩,⟨⟨some 12,none,.call 120 true [((.t 9),.b (.i .u8)),((.t 11),.b (.i .u8))]⟩,[6],[],none⟩,⟨⟨some 6,none,.alloc (.ints .u8 32)⟩,[11,10011,20011,30011,40011,50011,60011,70011,80011,90011,12,10012,20012,30012,40012,50012,60012,70012,80012,90012],[],none⟩,⟨⟨none,none,.st 32 (.t 6) (.t 12)⟩,[],[],none⟩])
  (.seq (.reg [0,1,2,5,3,6,4] [⟨some 13,none,.slA 32 1 (.t 6) none (some (.c (.lit .i64 24)))⟩,⟨some 14,none,.s2a 24 1 (.t 13)⟩,⟨some 15,none,.ld 24 true (.t 14)⟩,⟨none,none,.st 24 (.t 4) (.t 15)⟩])
  .ret))))⟩
/- 87 cloister/cloisterref08.crossed -/
def ic87 : IFn := ⟨2,22,[.cell 4 32 true],
  (.seq (.reg [0,1,2,5,6,10,3,4] [⟨some 2,none,.box (.t 0)⟩,⟨some 3,none,.box (.t 1)⟩,⟨some 4,none,.alloc (.ints .u8 32)⟩])
  (.seq (.reg [0,1,2,5,6,10,3,4] [⟨some 7,none,.ld 32 true (.t 2)⟩,⟨some 8,none,.call 142 true [((.t 7),.v),((.c (.str [119,114,97,112])),.v)]⟩,⟨some 5,none,.alloc (.ints .u8 32)⟩,⟨none,none,.st 32 (.t 5) (.t 8)⟩])
  (.seq (.seq (.reg [0,1,2,5,6,10,3,4] [⟨some 6,none,.mv (.c (.lit .i64 0))⟩])
  (.block 0 (.loop 0 (.seq (.seq (.reg [0,1,2,5,6,10,3,4] [⟨some 9,none,.mv (.t 6)⟩,⟨some 10,none,.cmp .lss (.t 9) (.c (.lit .i64 32))⟩])
   (.cond (.t 10)
     .skip
     (.exit 0)))
   (.seq (.block 1 (.dreg [0,1,2,5,6,10,3,4] [⟨⟨some 13,none,.mv (.t 6)⟩,[],[],none⟩,⟨⟨some 14,none,.iaA 32 1 (.t 3) (.t 13)⟩,[],[],none⟩,⟨⟨some 15,none,.ld 1 false (.t 14)⟩,[],[],none⟩,⟨⟨some 16,none,.mv (.t 6)⟩,[],[],none⟩,⟨⟨some 17,none,.iaA 32 1 (.t 5) (.t 16)⟩,[],[],none⟩,⟨⟨some 18,none,.ld 1 false (.t 17)⟩,[],[],none⟩,⟨⟨some 19,none,.ar .xor .u8 (.t 15) (.t 18)⟩,[],[],none⟩,⟨⟨some 20,none,.iaA 32 1 (.t 3) (.t 13)⟩,[],[],none⟩,⟨⟨none,none,.st 1 (.t 20) (.t 19)⟩,[],[],none⟩]))
   (.reg [0,1,2,5,6,10,3,4] [⟨some 11,none,.mv (.t 6)⟩,⟨some 12,none,.ar .add .i64 (.t 11) (.c (.lit .i64 1))⟩,⟨some 6,none,.mv (.t 12)⟩]))))))
  (.seq (.reg [0,1,2,5,6,10,3,4] [⟨some 21,none,.ld 32 true (.t 3)⟩,⟨none,none,.st 32 (.t 4) (.t 21)⟩])
  .ret))))⟩
/- 88 cloister/cloisterref08.check -/
def ic88 : IFn := ⟨2,25,[.cell 4 24 true],
  (.seq (.reg [0,1,2,5,3,6,8,16,7,4] [⟨some 2,none,.box (.t 0)⟩,⟨some 3,none,.box (.t 1)⟩,⟨some 4,none,.alloc (.ints .u8 24)⟩])
  (.seq (.reg [0,1,2,5,3,6,8,16,7,4] [⟨some 9,none,.ld 32 true (.t 2)⟩,⟨some 10,none,.call 142 true [((.t 9),.v),((.c (.str [99,104,101,99,107])),.v)]⟩,⟨some 5,none,.alloc (.ints .u8 32)⟩,⟨none,none,.st 32 (.t 5) (.t 10)⟩])
  (.seq (.dreg [0,1,2,5,3,6,8,16,7,4] [⟨⟨some 11,none,.slA 32 1 (.t 5) none none⟩,[13,10013,20013,30013,40013,50013,60013,70013,80013,90013,6],[],none⟩,⟨⟨some 12,none,.ld 75 true (.t 3)⟩,[6],[],none⟩,⟨⟨some 13,none,.call 93 true [((.t 12),.v)]⟩,[6],[],none⟩,⟨⟨some 14,none,.call 141 true [((.t 11),.b (.i .u8)),((.t 13),.b (.i .u8))]⟩,[6],[],none⟩,⟨⟨some 6,none,.alloc (.ints .u8 32)⟩,[13,10013,20013,30013,40013,50013,60013,70013,80013,90013,14,10014,20014,30014,40014,50014,60014,70014,80014,90014],[],none⟩,⟨⟨none,none,.st 32 (.t 6) (.t 14)⟩,[],[],none⟩])
  (.seq (.reg [0,1,2,5,3,6,8,16,7,4] [⟨some 7,none,.alloc (.ints .u8 24)⟩])
  (.seq (.seq (.reg [0,1,2,5,3,6,8,16,7,4] [⟨some 8,none,.mv (.c (.lit .i64 0))⟩])
  (.block 0 (.loop 0 (.seq (.seq (.reg [0,1,2,5,3,6,8,16,7,4] [⟨some 15,none,.mv (.t 8)⟩,⟨some 16,none,.cmp .lss (.t 15) (.c (.lit .i64 24))⟩])
   (.cond (.t 16)
     .skip
     (.exit 0)))
   (.seq (.block 1 (.reg [0,1,2,5,3,6,8,16,7,4] [⟨some 19,none,.mv (.t 8)⟩,⟨some 20,none,.mv (.t 8)⟩,⟨some 21,none,.iaA 32 1 (.t 6) (.t 20)⟩,⟨some 22,none,.ld 1 false (.t 21)⟩,⟨some 23,none,.iaA 24 1 (.t 7) (.t 19)⟩,⟨none,none,.st 1 (.t 23) (.t 22)⟩]))
   (.reg [0,1,2,5,3,6,8,16,7,4] [⟨some 17,none,.mv (.t 8)⟩,⟨some 18,none,.ar .add .i64 (.t 17) (.c (.lit .i64 1))⟩,⟨some 8,none,.mv (.t 18)⟩]))))))
  (.seq (.reg [0,1,2,5,3,6,8,16,7,4] [⟨some 24,none,.ld 24 true (.t 7)⟩,⟨none,none,.st 24 (.t 4) (.t 24)⟩])
  .ret))))))⟩
/- 89 cloister/slots.right -/
def ic89 : IFn := ⟨1,27,[.t 2],
  (.seq (.reg [0,1,5,2] [⟨some 1,none,.box (.t 0)⟩,⟨some 2,none,.mv (.c .ff)⟩])
  (.seq (.seq (.reg [0,1,5,2] [⟨some 3,none,.fa 0 1 (.t 1)⟩,⟨some 4,none,.ld 1 false (.t 3)⟩,⟨some 5,none,.not (.t 4)⟩])
  (.cond (.t 5)
    (.seq (.reg [0,1,5,2] [⟨some 6,none,.ld 75 true (.t 1)⟩,⟨some 7,none,.bldS (.cat 1 74 (.v .ff) (.cat 1 73 (.v (.lit .i64 0)) (.cat 1 72 (.v (.lit .i64 0)) (.cat 16 56 (.ints .u8 16) (.cat 32 24 (.ints .u8 32) (.ints .u8 24)))))) []⟩,⟨some 8,none,.eq (.z [.b,.i .i64,.i .i64,.i .u8,.i .u8,.i .u8,.i .u8,.i .u8,.i .u8,.i .u8,.i .u8,.i .u8,.i .u8,.i .u8,.i .u8,.i .u8,.i .u8,.i .u8,.i .u8,.i .u8,.i .u8,.i .u8,.i .u8,.i .u8,.i .u8,.i .u8,.i .u8,.i .u8,.i .u8,.i .u8,.i .u8,.i .u8,.i .u8,.i .u8,.i .u8,.i .u8,.i .u8,.i .u8,.i .u8,.i .u8,.i .u8,.i .u8,.i .u8,.i .u8,.i .u8,.i .u8,.i .u8,.i .u8,.i .u8,.i .u8,.i .u8,.i .u8,.i .u8,.i .u8,.i .u8,.i .u8,.i .u8,.i .u8,.i .u8,.i .u8,.i .u8,.i .u8,.i .u8,.i .u8,.i .u8,.i .u8,.i .u8,.i .u8,.i .u8,.i .u8,.i .u8,.i .u8,.i .u8,.i .u8,.i .u8]) false (.t 6) (.t 7)⟩,⟨some 2,none,.mv (.t 8)⟩])
    .ret)
    .skip))
  (.seq (.reg [0,1,5,2] [⟨some 9,none,.fa 1 1 (.t 1)⟩,⟨some 10,none,.ld 1 false (.t 9)⟩,⟨some 11,none,.cmp .geq (.t 10) (.c (.lit .i64 1))⟩,⟨some 12,none,.mv (.t 11)⟩,⟨some 13,some (12,true),.fa 1 1 (.t 1)⟩,⟨some 14,some (12,true),.ld 1 false (.t 13)⟩,⟨some 15,some (12,true),.cmp .leq (.t 14) (.c (.lit .i64 255))⟩,⟨some 16,none,.pick (.t 12) (.t 15) (.c .ff)⟩,⟨some 17,none,.mv (.t 16)⟩,⟨some 18,some (17,true),.fa 2 1 (.t 1)⟩,⟨some 19,some (17,true),.ld 1 false (.t 18)⟩,⟨some 20,some (17,true),.cmp .geq (.t 19) (.c (.lit .i64 1))⟩,⟨some 21,none,.pick (.t 17) (.t 20) (.c .ff)⟩,⟨some 22,none,.mv (.t 21)⟩,⟨some 23,some (22,true),.fa 2 1 (.t 1)⟩,⟨some 24,some (22,true),.ld 1 false (.t 23)⟩,⟨some 25,some (22,true),.cmp .leq (.t 24) (.c (.lit .i64 64))⟩,⟨some 26,none,.pick (.t 22) (.t 25) (.c .ff)⟩,⟨some 2,none,.mv (.t 26)⟩])
  .ret)))⟩
/- 91 cloister/cloisterref08.Right -/
def ic91 : IFn := ⟨1,27,[.t 2],
  (.seq (.reg [0,1,5,2] [⟨some 1,none,.box (.t 0)⟩,⟨some 2,none,.mv (.c .ff)⟩])
  (.seq (.seq (.reg [0,1,5,2] [⟨some 3,none,.fa 0 1 (.t 1)⟩,⟨some 4,none,.ld 1 false (.t 3)⟩,⟨some 5,none,.not (.t 4)⟩])
  (.cond (.t 5)
    (.seq (.reg [0,1,5,2] [⟨some 6,none,.ld 75 true (.t 1)⟩,⟨some 7,none,.bldS (.cat 1 74 (.v .ff) (.cat 1 73 (.v (.lit .i64 0)) (.cat 1 72 (.v (.lit .i64 0)) (.cat 16 56 (.ints .u8 16) (.cat 32 24 (.ints .u8 32) (.ints .u8 24)))))) []⟩,⟨some 8,none,.eq (.z [.b,.i .i64,.i .i64,.i .u8,.i .u8,.i .u8,.i .u8,.i .u8,.i .u8,.i .u8,.i .u8,.i .u8,.i .u8,.i .u8,.i .u8,.i .u8,.i .u8,.i .u8,.i .u8,.i .u8,.i .u8,.i .u8,.i .u8,.i .u8,.i .u8,.i .u8,.i .u8,.i .u8,.i .u8,.i .u8,.i .u8,.i .u8,.i .u8,.i .u8,.i .u8,.i .u8,.i .u8,.i .u8,.i .u8,.i .u8,.i .u8,.i .u8,.i .u8,.i .u8,.i .u8,.i .u8,.i .u8,.i .u8,.i .u8,.i .u8,.i .u8,.i .u8,.i .u8,.i .u8,.i .u8,.i .u8,.i .u8,.i .u8,.i .u8,.i .u8,.i .u8,.i .u8,.i .u8,.i .u8,.i .u8,.i .u8,.i .u8,.i .u8,.i .u8,.i .u8,.i .u8,.i .u8,.i .u8,.i .u8,.i .u8]) false (.t 6) (.t 7)⟩,⟨some 2,none,.mv (.t 8)⟩])
    .ret)
    .skip))
  (.seq (.reg [0,1,5,2] [⟨some 9,none,.fa 1 1 (.t 1)⟩,⟨some 10,none,.ld 1 false (.t 9)⟩,⟨some 11,none,.cmp .geq (.t 10) (.c (.lit .i64 1))⟩,⟨some 12,none,.mv (.t 11)⟩,⟨some 13,some (12,true),.fa 1 1 (.t 1)⟩,⟨some 14,some (12,true),.ld 1 false (.t 13)⟩,⟨some 15,some (12,true),.cmp .leq (.t 14) (.c (.lit .i64 255))⟩,⟨some 16,none,.pick (.t 12) (.t 15) (.c .ff)⟩,⟨some 17,none,.mv (.t 16)⟩,⟨some 18,some (17,true),.fa 2 1 (.t 1)⟩,⟨some 19,some (17,true),.ld 1 false (.t 18)⟩,⟨some 20,some (17,true),.cmp .geq (.t 19) (.c (.lit .i64 1))⟩,⟨some 21,none,.pick (.t 17) (.t 20) (.c .ff)⟩,⟨some 22,none,.mv (.t 21)⟩,⟨some 23,some (22,true),.fa 2 1 (.t 1)⟩,⟨some 24,some (22,true),.ld 1 false (.t 23)⟩,⟨some 25,some (22,true),.cmp .leq (.t 24) (.c (.lit .i64 64))⟩,⟨some 26,none,.pick (.t 22) (.t 25) (.c .ff)⟩,⟨some 2,none,.mv (.t 26)⟩])
  .ret)))⟩
/- 92 cloister/slots.head -/
def ic92 : IFn := ⟨1,26,[.t 2],
  (.seq (.reg [0,1,3,5,2] [⟨some 1,none,.box (.t 0)⟩,⟨some 2,none,.mv (.c .nsl)⟩])
  (.seq (.reg [0,1,3,5,2] [⟨some 7,none,.fa 2 1 (.t 1)⟩,⟨some 8,none,.ld 1 false (.t 7)⟩,⟨some 9,none,.cv .u64 (.t 8)⟩,⟨some 10,none,.call 107 true [((.t 9),.v),((.c (.lit .i64 4)),.v)]⟩,⟨some 6,none,.mv (.t 10)⟩,⟨some 11,none,.ext 0 (.t 6)⟩,⟨some 12,none,.ext 1 (.t 6)⟩,⟨some 3,none,.mv (.t 11)⟩,⟨some 4,none,.mv (.t 12)⟩])
  (.seq (.reg [0,1,3,5,2] [⟨some 13,none,.fa 1 1 (.t 1)⟩,⟨some 14,none,.ld 1 false (.t 13)⟩,⟨some 15,none,.cv .u8 (.t 14)⟩,⟨some 16,none,.bsl (.i .u8) 4 [(0,(.c (.lit .u8 1))),(1,(.t 15)),(2,(.c (.lit .u8 0))),(3,(.c (.lit .u8 0)))]⟩,⟨some 17,none,.mv (.t 3)⟩,⟨some 18,none,.app (.i .u8) 1 (.t 16) (.t 17)⟩,⟨some 5,none,.mv (.t 18)⟩])
  (.seq (.dreg [0,1,3,5,2] [⟨⟨some 19,none,.mv (.t 5)⟩,[],[],none⟩,⟨⟨some 20,none,.fa 3 16 (.t 1)⟩,[],[],none⟩,⟨⟨some 21,none,.slA 16 1 (.t 20) none none⟩,[],[],none⟩,⟨⟨some 22,none,.app (.i .u8) 1 (.t 19) (.t 21)⟩,[],[],some ([22],[5])⟩,⟨⟨some 23,none,.fa 19 32 (.t 1)⟩,[22],[],none⟩,⟨⟨some 24,none,.slA 32 1 (.t 23) none none⟩,[22,22],[5],none⟩,⟨⟨some 25,none,.app (.i .u8) 1 (.t 22) (.t 24)⟩,[],[],none⟩,⟨⟨some 2,none,.mv (.t 25)⟩,[],[],none⟩])
  .ret))))⟩
/- 93 cloister/cloisterref08.first -/
def ic93 : IFn := ⟨1,22,[.t 2],
  (.seq (.reg [0,1,3,2] [⟨some 1,none,.box (.t 0)⟩,⟨some 2,none,.mv (.c .nsl)⟩])
  (.seq (.reg [0,1,3,2] [⟨some 4,none,.fa 1 1 (.t 1)⟩,⟨some 5,none,.ld 1 false (.t 4)⟩,⟨some 6,none,.cv .u8 (.t 5)⟩,⟨some 7,none,.bsl (.i .u8) 4 [(0,(.c (.lit .u8 1))),(1,(.t 6)),(2,(.c (.lit .u8 0))),(3,(.c (.lit .u8 0)))]⟩,⟨some 3,none,.mv (.t 7)⟩])
  (.seq (.reg [0,1,3,2] [⟨some 8,none,.mv (.t 3)⟩,⟨some 9,none,.fa 2 1 (.t 1)⟩,⟨some 10,none,.ld 1 false (.t 9)⟩,⟨some 11,none,.cv .u64 (.t 10)⟩,⟨some 12,none,.call 113 true [((.t 11),.v),((.c (.lit .i64 4)),.v)]⟩,⟨some 13,none,.app (.i .u8) 1 (.t 8) (.t 12)⟩,⟨some 3,none,.mv (.t 13)⟩])
  (.seq (.reg [0,1,3,2] [⟨some 14,none,.mv (.t 3)⟩,⟨some 15,none,.fa 3 16 (.t 1)⟩,⟨some 16,none,.slA 16 1 (.t 15) none none⟩,⟨some 17,none,.app (.i .u8) 1 (.t 14) (.t 16)⟩,⟨some 3,none,.mv (.t 17)⟩])
  (.seq (.reg [0,1,3,2] [⟨some 18,none,.mv (.t 3)⟩,⟨some 19,none,.fa 19 32 (.t 1)⟩,⟨some 20,none,.slA 32 1 (.t 19) none none⟩,⟨some 21,none,.app (.i .u8) 1 (.t 18) (.t 20)⟩,⟨some 2,none,.mv (.t 21)⟩])
  .ret)))))⟩
/- 94 cloister/wire.Zero -/
def ic94 : IFn := ⟨1,14,[.t 2],
  (.seq (.reg [0,5,7,6,8,4,12,2] [⟨some 2,none,.mv (.c .ff)⟩])
  (.seq (.seq (.reg [0,5,7,6,8,4,12,2] [⟨some 5,none,.mv (.t 0)⟩,⟨some 6,none,.lenS (.t 5)⟩,⟨some 7,none,.mv (.c (.lit .i64 0))⟩])
  (.block 0 (.loop 0 (.seq (.reg [0,5,7,6,8,4,12,2] [⟨some 8,none,.cmp .lss (.t 7) (.t 6)⟩])
   (.seq (.cond (.t 8)
     .skip
     (.exit 0))
   (.seq (.block 1 (.seq (.reg [0,5,7,6,8,4,12,2] [⟨some 9,none,.iaS 1 (.t 5) (.t 7)⟩,⟨some 10,none,.ld 1 false (.t 9)⟩,⟨some 4,none,.mv (.t 10)⟩])
   (.seq (.reg [0,5,7,6,8,4,12,2] [⟨some 11,none,.mv (.t 4)⟩,⟨some 12,none,.cmp .neq (.t 11) (.c (.lit .u8 0))⟩])
   (.cond (.t 12)
     (.seq (.reg [0,5,7,6,8,4,12,2] [⟨some 2,none,.mv (.c .ff)⟩])
     .ret)
     .skip))))
   (.reg [0,5,7,6,8,4,12,2] [⟨some 13,none,.ar .add .i64 (.t 7) (.c (.lit .i64 1))⟩,⟨some 7,none,.mv (.t 13)⟩])))))))
  (.seq (.reg [0,5,7,6,8,4,12,2] [⟨some 2,none,.mv (.c .tt)⟩])
  .ret)))⟩
/- 95 cloister/wire.Read -/
def ic95 : IFn := ⟨1,7,[.t 2],
  (.seq (.reg [0,2] [⟨some 2,none,.mv (.c .nilp)⟩])
  (.seq (.reg [0,2] [⟨some 3,none,.mv (.t 0)⟩,⟨some 4,none,.call 110 true [((.t 3),.b (.i .u8))]⟩,⟨some 5,none,.bldS (.cat 1 1 (.v .nsl) (.v .ff)) [(0,1,(.t 4))]⟩,⟨some 6,none,.box (.t 5)⟩,⟨some 2,none,.mv (.t 6)⟩])
  .ret))⟩
/- 96 (*cloister/wire.Reader).Number -/
def ic96 : IFn := ⟨2,31,[.t 4],
  (.seq (.reg [1,13,0,18,20,19,21,5,7,4] [⟨some 4,none,.mv (.c (.lit .u64 0))⟩])
  (.seq (.seq (.reg [1,13,0,18,20,19,21,5,7,4] [⟨some 8,none,.mv (.t 1)⟩,⟨some 9,none,.cmp .lss (.t 8) (.c (.lit .i64 1))⟩,⟨some 10,none,.mv (.t 9)⟩,⟨some 11,some (10,false),.mv (.t 1)⟩,⟨some 12,some (10,false),.cmp .gtr (.t 11) (.c (.lit .i64 8))⟩,⟨some 13,none,.pick (.t 10) (.c .tt) (.t 12)⟩])
  (.cond (.t 13)
    (.reg [1,13,0,18,20,19,21,5,7,4] [⟨some 14,none,.mv (.t 0)⟩,⟨some 15,none,.call 127 false [((.t 14),.v)]⟩])
    .skip))
  (.seq (.reg [1,13,0,18,20,19,21,5,7,4] [⟨some 5,none,.mv (.c (.lit .u64 0))⟩])
  (.seq (.seq (.reg [1,13,0,18,20,19,21,5,7,4] [⟨some 16,none,.mv (.t 0)⟩,⟨some 17,none,.mv (.t 1)⟩,⟨some 18,none,.call 143 false [((.t 16),.v),((.t 17),.v)]⟩,⟨some 19,none,.lenS (.t 18)⟩,⟨some 20,none,.mv (.c (.lit .i64 0))⟩])
  (.block 0 (.loop 0 (.seq (.reg [1,13,0,18,20,19,21,5,7,4] [⟨some 21,none,.cmp .lss (.t 20) (.t 19)⟩])
   (.seq (.cond (.t 21)
     .skip
     (.exit 0))
   (.seq (.block 1 (.seq (.reg [1,13,0,18,20,19,21,5,7,4] [⟨some 22,none,.iaS 1 (.t 18) (.t 20)⟩,⟨some 23,none,.ld 1 false (.t 22)⟩,⟨some 7,none,.mv (.t 23)⟩])
   (.reg [1,13,0,18,20,19,21,5,7,4] [⟨some 24,none,.mv (.t 5)⟩,⟨some 25,none,.shf .shl .u64 (.t 24) (.c (.lit .u64 8))⟩,⟨some 26,none,.mv (.t 7)⟩,⟨some 27,none,.cv .u64 (.t 26)⟩,⟨some 28,none,.ar .or .u64 (.t 25) (.t 27)⟩,⟨some 5,none,.mv (.t 28)⟩])))
   (.reg [1,13,0,18,20,19,21,5,7,4] [⟨some 29,none,.ar .add .i64 (.t 20) (.c (.lit .i64 1))⟩,⟨some 20,none,.mv (.t 29)⟩])))))))
  (.seq (.reg [1,13,0,18,20,19,21,5,7,4] [⟨some 30,none,.mv (.t 5)⟩,⟨some 4,none,.mv (.t 30)⟩])
  .ret)))))⟩
/- 97 (*cloister/wire.Reader).Zeros -/
def ic97 : IFn := ⟨2,11,[],
  (.seq (.reg [0,1,8] [⟨some 4,none,.mv (.t 0)⟩,⟨some 5,none,.mv (.t 1)⟩,⟨some 6,none,.call 143 false [((.t 4),.v),((.t 5),.v)]⟩,⟨some 7,none,.call 94 true [((.t 6),.b (.i .u8))]⟩,⟨some 8,none,.not (.t 7)⟩])
  (.cond (.t 8)
    (.reg [0,1,8] [⟨some 9,none,.mv (.t 0)⟩,⟨some 10,none,.call 127 false [((.t 9),.v)]⟩])
    .skip))⟩
/- 98 (*cloister/wire.Reader).Bytes -/
def ic98 : IFn := ⟨2,8,[.t 4],
  (.seq (.reg [0,1,4] [⟨some 4,none,.mv (.c .nsl)⟩])
  (.seq (.reg [0,1,4] [⟨some 5,none,.mv (.t 0)⟩,⟨some 6,none,.mv (.t 1)⟩,⟨some 7,none,.call 143 false [((.t 5),.v),((.t 6),.v)]⟩,⟨some 4,none,.mv (.t 7)⟩])
  .ret))⟩
/- 99 (*cloister/wire.Reader).End -/
def ic99 : IFn := ⟨1,19,[.t 2],
  (.seq (.reg [0,3,6,2] [⟨some 2,none,.mv (.c (.lit .i64 0))⟩])
  (.seq (.block 0 (.seq (.reg [0,3,6,2] [⟨some 4,none,.mv (.t 0)⟩,⟨some 5,none,.eq .p false (.t 4) (.c .nilp)⟩,⟨some 3,none,.mv (.t 5)⟩])
  (.cond (.t 3)
    (.seq (.reg [0,3,6,2] [⟨some 2,none,.mv (.c (.lit .i64 1))⟩])
    .ret)
    (.seq (.reg [0,3,6,2] [⟨some 7,none,.mv (.t 0)⟩,⟨some 8,none,.nck (.t 7)⟩,⟨some 9,none,.fa 1 1 (.t 8)⟩,⟨some 10,none,.ld 1 false (.t 9)⟩,⟨some 11,none,.mv (.t 10)⟩,⟨some 12,some (11,false),.mv (.t 0)⟩,⟨some 13,some (11,false),.nck (.t 12)⟩,⟨some 14,some (11,false),.fa 0 1 (.t 13)⟩,⟨some 15,some (11,false),.ld 1 false (.t 14)⟩,⟨some 16,some (11,false),.lenS (.t 15)⟩,⟨some 17,some (11,false),.cmp .gtr (.t 16) (.c (.lit .i64 0))⟩,⟨some 18,none,.pick (.t 11) (.c .tt) (.t 17)⟩,⟨some 6,none,.mv (.t 18)⟩])
    (.cond (.t 6)
      (.seq (.reg [0,3,6,2] [⟨some 2,none,.mv (.c (.lit .i64 12))⟩])
      .ret)
      .skip)))))
  (.seq (.reg [0,3,6,2] [⟨some 2,none,.mv (.c (.lit .i64 0))⟩])
  .ret)))⟩
/- 100 (*cloister/cloisterref04.Reader).Number -/
def ic100 : IFn := ⟨2,35,[.t 4],
  (.seq (.reg [1,13,0,7,6,23,5,4] [⟨some 4,none,.mv (.c (.lit .u64 0))⟩])
  (.seq (.seq (.reg [1,13,0,7,6,23,5,4] [⟨some 8,none,.mv (.t 1)⟩,⟨some 9,none,.cmp .lss (.t 8) (.c (.lit .i64 1))⟩,⟨some 10,none,.mv (.t 9)⟩,⟨some 11,some (10,false),.mv (.t 1)⟩,⟨some 12,some (10,false),.cmp .gtr (.t 11) (.c (.lit .i64 8))⟩,⟨some 13,none,.pick (.t 10) (.c .tt) (.t 12)⟩])
  (.cond (.t 13)
    (.reg [1,13,0,7,6,23,5,4] [⟨some 14,none,.mv (.t 0)⟩,⟨some 15,none,.nck (.t 14)⟩,⟨some 16,none,.fa 2 1 (.t 15)⟩,⟨none,none,.st 1 (.t 16) (.c .tt)⟩])
    .skip))
  (.seq (.reg [1,13,0,7,6,23,5,4] [⟨some 5,none,.mv (.c (.lit .u64 0))⟩])
  (.seq (.reg [1,13,0,7,6,23,5,4] [⟨some 17,none,.mv (.t 0)⟩,⟨some 18,none,.mv (.t 1)⟩,⟨some 19,none,.call 103 false [((.t 17),.v),((.t 18),.v)]⟩,⟨some 6,none,.mv (.t 19)⟩])
  (.seq (.seq (.reg [1,13,0,7,6,23,5,4] [⟨some 7,none,.mv (.c (.lit .i64 0))⟩])
  (.block 0 (.loop 0 (.seq (.seq (.reg [1,13,0,7,6,23,5,4] [⟨some 20,none,.mv (.t 7)⟩,⟨some 21,none,.mv (.t 6)⟩,⟨some 22,none,.lenS (.t 21)⟩,⟨some 23,none,.cmp .lss (.t 20) (.t 22)⟩])
   (.cond (.t 23)
     .skip
     (.exit 0)))
   (.seq (.block 1 (.reg [1,13,0,7,6,23,5,4] [⟨some 26,none,.mv (.t 5)⟩,⟨some 27,none,.ar .mul .u64 (.t 26) (.c (.lit .u64 256))⟩,⟨some 28,none,.mv (.t 6)⟩,⟨some 29,none,.mv (.t 7)⟩,⟨some 30,none,.iaS 1 (.t 28) (.t 29)⟩,⟨some 31,none,.ld 1 false (.t 30)⟩,⟨some 32,none,.cv .u64 (.t 31)⟩,⟨some 33,none,.ar .add .u64 (.t 27) (.t 32)⟩,⟨some 5,none,.mv (.t 33)⟩]))
   (.reg [1,13,0,7,6,23,5,4] [⟨some 24,none,.mv (.t 7)⟩,⟨some 25,none,.ar .add .i64 (.t 24) (.c (.lit .i64 1))⟩,⟨some 7,none,.mv (.t 25)⟩]))))))
  (.seq (.reg [1,13,0,7,6,23,5,4] [⟨some 34,none,.mv (.t 5)⟩,⟨some 4,none,.mv (.t 34)⟩])
  .ret))))))⟩
/- 101 (*cloister/cloisterref04.Reader).Int -/
def ic101 : IFn := ⟨2,9,[.t 4],
  (.seq (.reg [0,1,4] [⟨some 4,none,.mv (.c (.lit .i64 0))⟩])
  (.seq (.reg [0,1,4] [⟨some 5,none,.mv (.t 0)⟩,⟨some 6,none,.mv (.t 1)⟩,⟨some 7,none,.call 100 false [((.t 5),.v),((.t 6),.v)]⟩,⟨some 8,none,.cv .i64 (.t 7)⟩,⟨some 4,none,.mv (.t 8)⟩])
  .ret))⟩
/- 102 (*cloister/cloisterref04.Reader).Zeros -/
def ic102 : IFn := ⟨2,23,[],
  (.seq (.reg [0,1,5,4,12,19] [⟨some 6,none,.mv (.t 0)⟩,⟨some 7,none,.mv (.t 1)⟩,⟨some 8,none,.call 103 false [((.t 6),.v),((.t 7),.v)]⟩,⟨some 4,none,.mv (.t 8)⟩])
  (.seq (.reg [0,1,5,4,12,19] [⟨some 5,none,.mv (.c (.lit .i64 0))⟩])
  (.block 0 (.loop 0 (.seq (.seq (.reg [0,1,5,4,12,19] [⟨some 9,none,.mv (.t 5)⟩,⟨some 10,none,.mv (.t 4)⟩,⟨some 11,none,.lenS (.t 10)⟩,⟨some 12,none,.cmp .lss (.t 9) (.t 11)⟩])
   (.cond (.t 12)
     .skip
     (.exit 0)))
   (.seq (.block 1 (.seq (.reg [0,1,5,4,12,19] [⟨some 15,none,.mv (.t 4)⟩,⟨some 16,none,.mv (.t 5)⟩,⟨some 17,none,.iaS 1 (.t 15) (.t 16)⟩,⟨some 18,none,.ld 1 false (.t 17)⟩,⟨some 19,none,.cmp .neq (.t 18) (.c (.lit .u8 0))⟩])
   (.cond (.t 19)
     (.reg [0,1,5,4,12,19] [⟨some 20,none,.mv (.t 0)⟩,⟨some 21,none,.nck (.t 20)⟩,⟨some 22,none,.fa 2 1 (.t 21)⟩,⟨none,none,.st 1 (.t 22) (.c .tt)⟩])
     .skip)))
   (.reg [0,1,5,4,12,19] [⟨some 13,none,.mv (.t 5)⟩,⟨some 14,none,.ar .add .i64 (.t 13) (.c (.lit .i64 1))⟩,⟨some 5,none,.mv (.t 14)⟩])))))))⟩
/- 103 (*cloister/cloisterref04.Reader).Bytes -/
def ic103 : IFn := ⟨2,55,[.t 4],
  (.seq (.reg [0,1,26,4] [⟨some 4,none,.mv (.c .nsl)⟩])
  (.seq (.seq (.dreg [0,1,26,4] [⟨⟨some 5,none,.mv (.t 0)⟩,[],[],none⟩,⟨⟨some 6,none,.nck (.t 5)⟩,[],[],none⟩,⟨⟨some 7,none,.fa 2 1 (.t 6)⟩,[],[],none⟩,⟨⟨some 8,none,.ld 1 false (.t 7)⟩,[],[],none⟩,⟨⟨some 9,none,.mv (.t 8)⟩,[],[],none⟩,⟨⟨some 10,some (9,false),.mv (.t 1)⟩,[],[],none⟩,⟨⟨some 11,some (9,false),.cmp .lss (.t 10) (.c (.lit .i64 0))⟩,[],[],none⟩,⟨⟨some 12,none,.pick (.t 9) (.c .tt) (.t 11)⟩,[],[],none⟩,⟨⟨some 13,none,.mv (.t 12)⟩,[],[],none⟩,⟨⟨some 14,some (13,false),.mv (.t 1)⟩,[],[],none⟩,⟨⟨some 15,some (13,false),.mv (.t 0)⟩,[],[],none⟩,⟨⟨some 16,some (13,false),.nck (.t 15)⟩,[],[],none⟩,⟨⟨some 17,some (13,false),.fa 0 1 (.t 16)⟩,[],[],none⟩,⟨⟨some 18,some (13,false),.ld 1 false (.t 17)⟩,[],[],none⟩,⟨⟨some 19,some (13,false),.lenS (.t 18)⟩,[],[],none⟩,⟨⟨some 20,some (13,false),.mv (.t 0)⟩,[],[],none⟩,⟨⟨some 21,some (13,false),.nck (.t 20)⟩,[],[],none⟩,⟨⟨some 22,some (13,false),.fa 1 1 (.t 21)⟩,[],[],none⟩,⟨⟨some 23,some (13,false),.ld 1 false (.t 22)⟩,[],[],none⟩,⟨⟨some 24,some (13,false),.ar .sub .i64 (.t 19) (.t 23)⟩,[],[],none⟩,⟨⟨some 25,some (13,false),.cmp .gtr (.t 14) (.t 24)⟩,[],[],none⟩,⟨⟨some 26,none,.pick (.t 13) (.c .tt) (.t 25)⟩,[],[],none⟩])
  (.cond (.t 26)
    (.seq (.reg [0,1,26,4] [⟨some 27,none,.mv (.t 0)⟩,⟨some 28,none,.nck (.t 27)⟩,⟨some 29,none,.fa 2 1 (.t 28)⟩,⟨none,none,.st 1 (.t 29) (.c .tt)⟩])
    (.seq (.reg [0,1,26,4] [⟨some 4,none,.mv (.c .nsl)⟩])
    .ret))
    .skip))
  (.seq (.reg [0,1,26,4] [⟨some 30,none,.mv (.t 0)⟩,⟨some 31,none,.nck (.t 30)⟩,⟨some 32,none,.fa 1 1 (.t 31)⟩,⟨some 33,none,.ld 1 false (.t 32)⟩,⟨some 34,none,.mv (.t 1)⟩,⟨some 35,none,.ar .add .i64 (.t 33) (.t 34)⟩,⟨some 36,none,.nck (.t 30)⟩,⟨some 37,none,.fa 1 1 (.t 36)⟩,⟨none,none,.st 1 (.t 37) (.t 35)⟩])
  (.seq (.dreg [0,1,26,4] [⟨⟨some 38,none,.bsl (.i .u8) 0 []⟩,[],[],none⟩,⟨⟨some 39,none,.mv (.t 0)⟩,[38],[],none⟩,⟨⟨some 40,none,.nck (.t 39)⟩,[38],[],none⟩,⟨⟨some 41,none,.fa 0 1 (.t 40)⟩,[38],[],none⟩,⟨⟨some 42,none,.ld 1 false (.t 41)⟩,[38],[],none⟩,⟨⟨some 43,none,.mv (.t 0)⟩,[38],[],none⟩,⟨⟨some 44,none,.nck (.t 43)⟩,[38],[],none⟩,⟨⟨some 45,none,.fa 1 1 (.t 44)⟩,[38],[],none⟩,⟨⟨some 46,none,.ld 1 false (.t 45)⟩,[38],[],none⟩,⟨⟨some 47,none,.mv (.t 1)⟩,[38],[],none⟩,⟨⟨some 48,none,.ar .sub .i64 (.t 46) (.t 47)⟩,[38],[],none⟩,⟨⟨some 49,none,.mv (.t 0)⟩,[38],[],none⟩,⟨⟨some 50,none,.nck (.t 49)⟩,[38],[],none⟩,⟨⟨some 51,none,.fa 1 1 (.t 50)⟩,[38],[],none⟩,⟨⟨some 52,none,.ld 1 false (.t 51)⟩,[38],[],none⟩,⟨⟨some 53,none,.slS 1 (.t 42) (some (.t 48)) (some (.t 52)) none⟩,[38],[],none⟩,⟨⟨some 54,none,.app0 (.i .u8) 1 (.t 38) (.t 53)⟩,[],[],none⟩,⟨⟨some 4,none,.mv (.t 54)⟩,[],[],none⟩])
  .ret))))⟩
/- 104 (*cloister/cloisterref04.Reader).End -/
def ic104 : IFn := ⟨1,19,[.t 2],
  (.seq (.reg [0,18,2] [⟨some 2,none,.mv (.c (.lit .i64 0))⟩])
  (.seq (.seq (.dreg [0,18,2] [⟨⟨some 3,none,.mv (.t 0)⟩,[],[],none⟩,⟨⟨some 4,none,.nck (.t 3)⟩,[],[],none⟩,⟨⟨some 5,none,.fa 2 1 (.t 4)⟩,[],[],none⟩,⟨⟨some 6,none,.ld 1 false (.t 5)⟩,[],[],none⟩,⟨⟨some 7,none,.mv (.t 6)⟩,[],[],none⟩,⟨⟨some 8,some (7,false),.mv (.t 0)⟩,[],[],none⟩,⟨⟨some 9,some (7,false),.nck (.t 8)⟩,[],[],none⟩,⟨⟨some 10,some (7,false),.fa 1 1 (.t 9)⟩,[],[],none⟩,⟨⟨some 11,some (7,false),.ld 1 false (.t 10)⟩,[],[],none⟩,⟨⟨some 12,some (7,false),.mv (.t 0)⟩,[],[],none⟩,⟨⟨some 13,some (7,false),.nck (.t 12)⟩,[],[],none⟩,⟨⟨some 14,some (7,false),.fa 0 1 (.t 13)⟩,[],[],none⟩,⟨⟨some 15,some (7,false),.ld 1 false (.t 14)⟩,[],[],none⟩,⟨⟨some 16,some (7,false),.lenS (.t 15)⟩,[],[],none⟩,⟨⟨some 17,some (7,false),.cmp .lss (.t 11) (.t 16)⟩,[],[],none⟩,⟨⟨some 18,none,.pick (.t 7) (.c .tt) (.t 17)⟩,[],[],none⟩])
  (.cond (.t 18)
    (.seq (.reg [0,18,2] [⟨some 2,none,.mv (.c (.lit .i64 12))⟩])
    .ret)
    .skip))
  (.seq (.reg [0,18,2] [⟨some 2,none,.mv (.c (.lit .i64 0))⟩])
  .ret)))⟩
/- 107 cloister/wire.Number -/
def ic107 : IFn := ⟨2,45,[.t 4,.t 5],
  (.seq (.reg [1,0,24,6,29,28,30,7,4,5] [⟨some 4,none,.mv (.c .nsl)⟩,⟨some 5,none,.mv (.c (.lit .i64 0))⟩])
  (.seq (.seq (.reg [1,0,24,6,29,28,30,7,4,5] [⟨some 8,none,.mv (.t 1)⟩,⟨some 9,none,.cmp .lss (.t 8) (.c (.lit .i64 1))⟩,⟨some 10,none,.mv (.t 9)⟩,⟨some 11,some (10,false),.mv (.t 1)⟩,⟨some 12,some (10,false),.cmp .gtr (.t 11) (.c (.lit .i64 8))⟩,⟨some 13,none,.pick (.t 10) (.c .tt) (.t 12)⟩,⟨some 14,none,.mv (.t 13)⟩,⟨some 15,some (14,false),.mv (.t 1)⟩,⟨some 16,some (14,false),.cmp .lss (.t 15) (.c (.lit .i64 8))⟩,⟨some 17,some (14,false),.mv (.t 16)⟩,⟨some 18,some (17,true),.mv (.t 0)⟩,⟨some 19,some (17,true),.mv (.t 1)⟩,⟨some 20,some (17,true),.ar .mul .i64 (.c (.lit .i64 8)) (.t 19)⟩,⟨some 21,some (17,true),.shf .shr .u64 (.t 18) (.t 20)⟩,⟨some 22,some (17,true),.cmp .neq (.t 21) (.c (.lit .u64 0))⟩,⟨some 23,some (14,false),.pick (.t 17) (.t 22) (.c .ff)⟩,⟨some 24,none,.pick (.t 14) (.c .tt) (.t 23)⟩])
  (.cond (.t 24)
    (.seq (.reg [1,0,24,6,29,28,30,7,4,5] [⟨some 4,none,.mv (.c .nsl)⟩,⟨some 5,none,.mv (.c (.lit .i64 2))⟩])
    .ret)
    .skip))
  (.seq (.reg [1,0,24,6,29,28,30,7,4,5] [⟨some 25,none,.mv (.t 1)⟩,⟨some 26,none,.mks (.i .u8) 1 (.t 25)⟩,⟨some 6,none,.mv (.t 26)⟩])
  (.seq (.seq (.reg [1,0,24,6,29,28,30,7,4,5] [⟨some 27,none,.mv (.t 6)⟩,⟨some 28,none,.lenS (.t 27)⟩,⟨some 29,none,.mv (.c (.lit .i64 0))⟩])
  (.block 0 (.loop 0 (.seq (.reg [1,0,24,6,29,28,30,7,4,5] [⟨some 30,none,.cmp .lss (.t 29) (.t 28)⟩])
   (.seq (.cond (.t 30)
     .skip
     (.exit 0))
   (.seq (.block 1 (.seq (.reg [1,0,24,6,29,28,30,7,4,5] [⟨some 31,none,.mv (.t 29)⟩,⟨some 7,none,.mv (.t 31)⟩])
   (.reg [1,0,24,6,29,28,30,7,4,5] [⟨some 32,none,.mv (.t 6)⟩,⟨some 33,none,.mv (.t 7)⟩,⟨some 34,none,.mv (.t 0)⟩,⟨some 35,none,.mv (.t 1)⟩,⟨some 36,none,.ar .sub .i64 (.t 35) (.c (.lit .i64 1))⟩,⟨some 37,none,.mv (.t 7)⟩,⟨some 38,none,.ar .sub .i64 (.t 36) (.t 37)⟩,⟨some 39,none,.ar .mul .i64 (.c (.lit .i64 8)) (.t 38)⟩,⟨some 40,none,.shf .shr .u64 (.t 34) (.t 39)⟩,⟨some 41,none,.cv .u8 (.t 40)⟩,⟨some 42,none,.iaS 1 (.t 32) (.t 33)⟩,⟨none,none,.st 1 (.t 42) (.t 41)⟩])))
   (.reg [1,0,24,6,29,28,30,7,4,5] [⟨some 43,none,.ar .add .i64 (.t 29) (.c (.lit .i64 1))⟩,⟨some 29,none,.mv (.t 43)⟩])))))))
  (.seq (.reg [1,0,24,6,29,28,30,7,4,5] [⟨some 44,none,.mv (.t 6)⟩,⟨some 4,none,.mv (.t 44)⟩,⟨some 5,none,.mv (.c (.lit .i64 0))⟩])
  .ret)))))⟩
/- 110 slices.Clone[[]byte,byte] -/
def ic110 : IFn := ⟨1,8,[.t 2],
  (.seq (.reg [0,4,2] [⟨some 2,none,.mv (.c .nsl)⟩])
  (.seq (.seq (.reg [0,4,2] [⟨some 3,none,.mv (.t 0)⟩,⟨some 4,none,.eq .l false (.t 3) (.c .nsl)⟩])
  (.cond (.t 4)
    (.seq (.reg [0,4,2] [⟨some 2,none,.mv (.c .nsl)⟩])
    .ret)
    .skip))
  (.seq (.reg [0,4,2] [⟨some 5,none,.bsl (.i .u8) 0 []⟩,⟨some 6,none,.mv (.t 0)⟩,⟨some 7,none,.app0 (.i .u8) 1 (.t 5) (.t 6)⟩,⟨some 2,none,.mv (.t 7)⟩])
  .ret)))⟩
/- 113 cloister/cloisterref04.Put -/
def ic113 : IFn := ⟨2,14,[.t 4],
  (.seq (.reg [0,1,5,4] [⟨some 4,none,.mv (.c .nsl)⟩])
  (.seq (.reg [0,1,5,4] [⟨some 8,none,.mv (.t 0)⟩,⟨some 9,none,.mv (.t 1)⟩,⟨some 10,none,.call 145 true [((.t 8),.v),((.t 9),.v)]⟩,⟨some 7,none,.mv (.t 10)⟩,⟨some 11,none,.ext 0 (.t 7)⟩,⟨some 12,none,.ext 1 (.t 7)⟩,⟨some 5,none,.mv (.t 11)⟩,⟨some 6,none,.mv (.t 12)⟩])
  (.seq (.reg [0,1,5,4] [⟨some 13,none,.mv (.t 5)⟩,⟨some 4,none,.mv (.t 13)⟩])
  .ret)))⟩
/- 127 (*cloister/wire.Reader).Spoil -/
def ic127 : IFn := ⟨1,7,[],
  (.seq (.reg [0,3] [⟨some 2,none,.mv (.t 0)⟩,⟨some 3,none,.eq .p true (.t 2) (.c .nilp)⟩])
  (.cond (.t 3)
    (.reg [0,3] [⟨some 4,none,.mv (.t 0)⟩,⟨some 5,none,.nck (.t 4)⟩,⟨some 6,none,.fa 1 1 (.t 5)⟩,⟨none,none,.st 1 (.t 6) (.c .tt)⟩])
    .skip))⟩
/- 143 (*cloister/wire.Reader).take -/
def ic143 : IFn := ⟨2,45,[.t 4],
  (.seq (.reg [0,7,1,24,5,4] [⟨some 4,none,.mv (.c .nsl)⟩])
  (.seq (.seq (.reg [0,7,1,24,5,4] [⟨some 6,none,.mv (.t 0)⟩,⟨some 7,none,.eq .p false (.t 6) (.c .nilp)⟩])
  (.cond (.t 7)
    (.seq (.reg [0,7,1,24,5,4] [⟨some 4,none,.mv (.c .nsl)⟩])
    .ret)
    .skip))
  (.seq (.seq (.reg [0,7,1,24,5,4] [⟨some 8,none,.mv (.t 0)⟩,⟨some 9,none,.nck (.t 8)⟩,⟨some 10,none,.fa 1 1 (.t 9)⟩,⟨some 11,none,.ld 1 false (.t 10)⟩,⟨some 12,none,.mv (.t 11)⟩,⟨some 13,some (12,false),.mv (.t 1)⟩,⟨some 14,some (12,false),.cmp .lss (.t 13) (.c (.lit .i64 0))⟩,⟨some 15,none,.pick (.t 12) (.c .tt) (.t 14)⟩,⟨some 16,none,.mv (.t 15)⟩,⟨some 17,some (16,false),.mv (.t 1)⟩,⟨some 18,some (16,false),.mv (.t 0)⟩,⟨some 19,some (16,false),.nck (.t 18)⟩,⟨some 20,some (16,false),.fa 0 1 (.t 19)⟩,⟨some 21,some (16,false),.ld 1 false (.t 20)⟩,⟨some 22,some (16,false),.lenS (.t 21)⟩,⟨some 23,some (16,false),.cmp .gtr (.t 17) (.t 22)⟩,⟨some 24,none,.pick (.t 16) (.c .tt) (.t 23)⟩])
  (.cond (.t 24)
    (.seq (.reg [0,7,1,24,5,4] [⟨some 25,none,.mv (.t 0)⟩,⟨some 26,none,.nck (.t 25)⟩,⟨some 27,none,.fa 1 1 (.t 26)⟩,⟨none,none,.st 1 (.t 27) (.c .tt)⟩])
    (.seq (.reg [0,7,1,24,5,4] [⟨some 4,none,.mv (.c .nsl)⟩])
    .ret))
    .skip))
  (.seq (.reg [0,7,1,24,5,4] [⟨some 28,none,.mv (.t 0)⟩,⟨some 29,none,.nck (.t 28)⟩,⟨some 30,none,.fa 0 1 (.t 29)⟩,⟨some 31,none,.ld 1 false (.t 30)⟩,⟨some 32,none,.mv (.t 1)⟩,⟨some 33,none,.mv (.t 1)⟩,⟨some 34,none,.slX 1 (.t 31) (.t 32) (.t 33)⟩,⟨some 5,none,.mv (.t 34)⟩])
  (.seq (.reg [0,7,1,24,5,4] [⟨some 35,none,.mv (.t 0)⟩,⟨some 36,none,.mv (.t 0)⟩,⟨some 37,none,.nck (.t 36)⟩,⟨some 38,none,.fa 0 1 (.t 37)⟩,⟨some 39,none,.ld 1 false (.t 38)⟩,⟨some 40,none,.mv (.t 1)⟩,⟨some 41,none,.slS 1 (.t 39) (some (.t 40)) none none⟩,⟨some 42,none,.nck (.t 35)⟩,⟨some 43,none,.fa 0 1 (.t 42)⟩,⟨none,none,.st 1 (.t 43) (.t 41)⟩])
  (.seq (.reg [0,7,1,24,5,4] [⟨some 44,none,.mv (.t 5)⟩,⟨some 4,none,.mv (.t 44)⟩])
  .ret))))))⟩
/- 145 cloister/cloisterref04.Number -/
def ic145 : IFn := ⟨2,33,[.t 4,.t 5],
  (.seq (.reg [1,13,7,19,6,0,31,4,5] [⟨some 4,none,.mv (.c .nsl)⟩,⟨some 5,none,.mv (.c (.lit .i64 0))⟩])
  (.seq (.seq (.reg [1,13,7,19,6,0,31,4,5] [⟨some 8,none,.mv (.t 1)⟩,⟨some 9,none,.cmp .lss (.t 8) (.c (.lit .i64 1))⟩,⟨some 10,none,.mv (.t 9)⟩,⟨some 11,some (10,false),.mv (.t 1)⟩,⟨some 12,some (10,false),.cmp .gtr (.t 11) (.c (.lit .i64 8))⟩,⟨some 13,none,.pick (.t 10) (.c .tt) (.t 12)⟩])
  (.cond (.t 13)
    (.seq (.reg [1,13,7,19,6,0,31,4,5] [⟨some 4,none,.mv (.c .nsl)⟩,⟨some 5,none,.mv (.c (.lit .i64 2))⟩])
    .ret)
    .skip))
  (.seq (.reg [1,13,7,19,6,0,31,4,5] [⟨some 14,none,.mv (.t 1)⟩,⟨some 15,none,.mks (.i .u8) 1 (.t 14)⟩,⟨some 6,none,.mv (.t 15)⟩])
  (.seq (.seq (.reg [1,13,7,19,6,0,31,4,5] [⟨some 16,none,.mv (.t 1)⟩,⟨some 17,none,.ar .sub .i64 (.t 16) (.c (.lit .i64 1))⟩,⟨some 7,none,.mv (.t 17)⟩])
  (.block 0 (.loop 0 (.seq (.seq (.reg [1,13,7,19,6,0,31,4,5] [⟨some 18,none,.mv (.t 7)⟩,⟨some 19,none,.cmp .geq (.t 18) (.c (.lit .i64 0))⟩])
   (.cond (.t 19)
     .skip
     (.exit 0)))
   (.seq (.block 1 (.seq (.reg [1,13,7,19,6,0,31,4,5] [⟨some 22,none,.mv (.t 6)⟩,⟨some 23,none,.mv (.t 7)⟩,⟨some 24,none,.mv (.t 0)⟩,⟨some 25,none,.ar .rem .u64 (.t 24) (.c (.lit .u64 256))⟩,⟨some 26,none,.cv .u8 (.t 25)⟩,⟨some 27,none,.iaS 1 (.t 22) (.t 23)⟩,⟨none,none,.st 1 (.t 27) (.t 26)⟩])
   (.reg [1,13,7,19,6,0,31,4,5] [⟨some 28,none,.mv (.t 0)⟩,⟨some 29,none,.ar .quo .u64 (.t 28) (.c (.lit .u64 256))⟩,⟨some 0,none,.mv (.t 29)⟩])))
   (.reg [1,13,7,19,6,0,31,4,5] [⟨some 20,none,.mv (.t 7)⟩,⟨some 21,none,.ar .sub .i64 (.t 20) (.c (.lit .i64 1))⟩,⟨some 7,none,.mv (.t 21)⟩]))))))
  (.seq (.seq (.reg [1,13,7,19,6,0,31,4,5] [⟨some 30,none,.mv (.t 0)⟩,⟨some 31,none,.cmp .neq (.t 30) (.c (.lit .u64 0))⟩])
  (.cond (.t 31)
    (.seq (.reg [1,13,7,19,6,0,31,4,5] [⟨some 4,none,.mv (.c .nsl)⟩,⟨some 5,none,.mv (.c (.lit .i64 2))⟩])
    .ret)
    .skip))
  (.seq (.reg [1,13,7,19,6,0,31,4,5] [⟨some 32,none,.mv (.t 6)⟩,⟨some 4,none,.mv (.t 32)⟩,⟨some 5,none,.mv (.c (.lit .i64 0))⟩])
  .ret))))))⟩

theorem ok8 : fnOk Tryd.prog 8 = true := by kernel_rfl
theorem co8 : comp Tryd.prog pu 8 = some ic8 := by kernel_rfl
theorem ok9 : fnOk Tryd.prog 9 = true := by kernel_rfl
theorem co9 : comp Tryd.prog pu 9 = some ic9 := by kernel_rfl
theorem ok10 : fnOk Tryd.prog 10 = true := by kernel_rfl
theorem co10 : comp Tryd.prog pu 10 = some ic10 := by kernel_rfl
theorem ok11 : fnOk Tryd.prog 11 = true := by kernel_rfl
theorem co11 : comp Tryd.prog pu 11 = some ic11 := by kernel_rfl
theorem ok35 : fnOk Tryd.prog 35 = true := by kernel_rfl
theorem co35 : comp Tryd.prog pu 35 = some ic35 := by kernel_rfl
theorem ok36 : fnOk Tryd.prog 36 = true := by kernel_rfl
theorem co36 : comp Tryd.prog pu 36 = some ic36 := by kernel_rfl
theorem ok37 : fnOk Tryd.prog 37 = true := by kernel_rfl
theorem co37 : comp Tryd.prog pu 37 = some ic37 := by kernel_rfl
theorem ok38 : fnOk Tryd.prog 38 = true := by kernel_rfl
theorem co38 : comp Tryd.prog pu 38 = some ic38 := by kernel_rfl
theorem ok39 : fnOk Tryd.prog 39 = true := by kernel_rfl
theorem co39 : comp Tryd.prog pu 39 = some ic39 := by kernel_rfl
theorem ok40 : fnOk Tryd.prog 40 = true := by kernel_rfl
theorem co40 : comp Tryd.prog pu 40 = some ic40 := by kernel_rfl
theorem ok41 : fnOk Tryd.prog 41 = true := by kernel_rfl
theorem co41 : comp Tryd.prog pu 41 = some ic41 := by kernel_rfl
theorem ok42 : fnOk Tryd.prog 42 = true := by kernel_rfl
theorem co42 : comp Tryd.prog pu 42 = some ic42 := by kernel_rfl
theorem ok43 : fnOk Tryd.prog 43 = true := by kernel_rfl
theorem co43 : comp Tryd.prog pu 43 = some ic43 := by kernel_rfl
theorem ok84 : fnOk Tryd.prog 84 = true := by kernel_rfl
theorem co84 : comp Tryd.prog pu 84 = some ic84 := by kernel_rfl
theorem ok85 : fnOk Tryd.prog 85 = true := by kernel_rfl
theorem co85 : comp Tryd.prog pu 85 = some ic85 := by kernel_rfl
theorem ok87 : fnOk Tryd.prog 87 = true := by kernel_rfl
theorem co87 : comp Tryd.prog pu 87 = some ic87 := by kernel_rfl
theorem ok88 : fnOk Tryd.prog 88 = true := by kernel_rfl
theorem co88 : comp Tryd.prog pu 88 = some ic88 := by kernel_rfl
theorem ok89 : fnOk Tryd.prog 89 = true := by kernel_rfl
theorem co89 : comp Tryd.prog pu 89 = some ic89 := by kernel_rfl
theorem ok91 : fnOk Tryd.prog 91 = true := by kernel_rfl
theorem co91 : comp Tryd.prog pu 91 = some ic91 := by kernel_rfl
theorem ok92 : fnOk Tryd.prog 92 = true := by kernel_rfl
theorem co92 : comp Tryd.prog pu 92 = some ic92 := by kernel_rfl
theorem ok93 : fnOk Tryd.prog 93 = true := by kernel_rfl
theorem co93 : comp Tryd.prog pu 93 = some ic93 := by kernel_rfl
theorem ok94 : fnOk Tryd.prog 94 = true := by kernel_rfl
theorem co94 : comp Tryd.prog pu 94 = some ic94 := by kernel_rfl
theorem ok95 : fnOk Tryd.prog 95 = true := by kernel_rfl
theorem co95 : comp Tryd.prog pu 95 = some ic95 := by kernel_rfl
theorem ok96 : fnOk Tryd.prog 96 = true := by kernel_rfl
theorem co96 : comp Tryd.prog pu 96 = some ic96 := by kernel_rfl
theorem ok97 : fnOk Tryd.prog 97 = true := by kernel_rfl
theorem co97 : comp Tryd.prog pu 97 = some ic97 := by kernel_rfl
theorem ok98 : fnOk Tryd.prog 98 = true := by kernel_rfl
theorem co98 : comp Tryd.prog pu 98 = some ic98 := by kernel_rfl
theorem ok99 : fnOk Tryd.prog 99 = true := by kernel_rfl
theorem co99 : comp Tryd.prog pu 99 = some ic99 := by kernel_rfl
theorem ok100 : fnOk Tryd.prog 100 = true := by kernel_rfl
theorem co100 : comp Tryd.prog pu 100 = some ic100 := by kernel_rfl
theorem ok101 : fnOk Tryd.prog 101 = true := by kernel_rfl
theorem co101 : comp Tryd.prog pu 101 = some ic101 := by kernel_rfl
theorem ok102 : fnOk Tryd.prog 102 = true := by kernel_rfl
theorem co102 : comp Tryd.prog pu 102 = some ic102 := by kernel_rfl
theorem ok103 : fnOk Tryd.prog 103 = true := by kernel_rfl
theorem co103 : comp Tryd.prog pu 103 = some ic103 := by kernel_rfl
theorem ok104 : fnOk Tryd.prog 104 = true := by kernel_rfl
theorem co104 : comp Tryd.prog pu 104 = some ic104 := by kernel_rfl
theorem ok107 : fnOk Tryd.prog 107 = true := by kernel_rfl
theorem co107 : comp Tryd.prog pu 107 = some ic107 := by kernel_rfl
theorem ok110 : fnOk Tryd.prog 110 = true := by kernel_rfl
theorem co110 : comp Tryd.prog pu 110 = some ic110 := by kernel_rfl
theorem ok113 : fnOk Tryd.prog 113 = true := by kernel_rfl
theorem co113 : comp Tryd.prog pu 113 = some ic113 := by kernel_rfl
theorem ok127 : fnOk Tryd.prog 127 = true := by kernel_rfl
theorem co127 : comp Tryd.prog pu 127 = some ic127 := by kernel_rfl
theorem ok143 : fnOk Tryd.prog 143 = true := by kernel_rfl
theorem co143 : comp Tryd.prog pu 143 = some ic143 := by kernel_rfl
theorem ok145 : fnOk Tryd.prog 145 = true := by kernel_rfl
theorem co145 : comp Tryd.prog pu 145 = some ic145 := by kernel_rfl
end Go.Cx.Rb
