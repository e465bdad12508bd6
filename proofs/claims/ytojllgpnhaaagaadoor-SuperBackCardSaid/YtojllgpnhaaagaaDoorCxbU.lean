/-
  The small code of this seat's functions (super),and that it is the program's.
-/
import Derived.Test.YtojllgpnhaaagaaDoorCxbA
import Derived.Test.YtojllgpnhaaagaaDoorCxF
import Derived.KernelRfl
namespace Go.Cx.Rb
open Go Go.Cx Go.Proofs

/- 15 cloister/cloisterlaw09.SuperEncodes -/
def ic15 : IFn := ⟨3,65,[.t 6],
  (.seq (.reg [0,1,3,4,7,9,8,10,2,6] [⟨some 3,none,.box (.t 0)⟩,⟨some 4,none,.box (.t 1)⟩,⟨some 6,none,.mv (.c .ff)⟩])
  (.seq (.reg [0,1,3,4,7,9,8,10,2,6] [⟨some 12,none,.ld 354 true (.t 3)⟩,⟨some 13,none,.ld 32 true (.t 4)⟩,⟨some 14,none,.call 53 true [((.t 12),.v),((.t 13),.v)]⟩,⟨some 11,none,.mv (.t 14)⟩,⟨some 15,none,.ext 0 (.t 11)⟩,⟨some 16,none,.ext 1 (.t 11)⟩,⟨some 7,none,.mv (.t 15)⟩,⟨some 8,none,.mv (.t 16)⟩])
  (.seq (.reg [0,1,3,4,7,9,8,10,2,6] [⟨some 18,none,.ld 354 true (.t 3)⟩,⟨some 19,none,.ld 32 true (.t 4)⟩,⟨some 20,none,.call 54 true [((.t 18),.v),((.t 19),.v)]⟩,⟨some 17,none,.mv (.t 20)⟩,⟨some 21,none,.ext 0 (.t 17)⟩,⟨some 22,none,.ext 1 (.t 17)⟩,⟨some 9,none,.mv (.t 21)⟩,⟨some 10,none,.mv (.t 22)⟩])
  (.seq (.dreg [0,1,3,4,7,9,8,10,2,6] [⟨⟨some 23,none,.call 55 true []⟩,[],[],none⟩,⟨⟨some 24,none,.mv (.t 23)⟩,[],[],none⟩,⟨⟨some 25,some (24,true),.mv (.t 7)⟩,[],[],none⟩,⟨⟨some 26,some (24,true),.b2s (.t 25)⟩,[],[],none⟩,⟨⟨some 27,some (24,true),.mv (.t 9)⟩,[],[],none⟩,⟨⟨some 28,some (24,true),.b2s (.t 27)⟩,[],[],none⟩,⟨⟨some 29,some (24,true),.eq .s false (.t 26) (.t 28)⟩,[],[],none⟩,⟨⟨some 30,none,.pick (.t 24) (.t 29) (.c .ff)⟩,[],[],none⟩,⟨⟨some 31,none,.mv (.t 30)⟩,[],[],none⟩,⟨⟨some 32,some (31,true),.mv (.t 8)⟩,[],[],none⟩,⟨⟨some 33,some (31,true),.mv (.t 10)⟩,[],[],none⟩,⟨⟨some 34,some (31,true),.cmp .eql (.t 32) (.t 33)⟩,[],[],none⟩,⟨⟨some 35,none,.pick (.t 31) (.t 34) (.c .ff)⟩,[],[],none⟩,⟨⟨some 36,none,.mv (.t 35)⟩,[],[],none⟩,⟨⟨some 37,some (36,true),.ld 354 true (.t 3)⟩,[],[],none⟩,⟨⟨some 38,some (36,true),.call 56 true [((.t 37),.v)]⟩,[],[],none⟩,⟨⟨some 39,some (36,true),.cmp .eql (.t 38) (.c (.lit .i64 0))⟩,[41,10041,20041,30041,40041,50041,60041,70041,80041,90041],[],none⟩,⟨⟨some 40,some (36,true),.ld 354 true (.t 3)⟩,[38,10038,20038,30038,40038,50038,60038,70038,80038,90038],[],none⟩,⟨⟨some 41,some (36,true),.call 57 true [((.t 40),.v)]⟩,[],[],none⟩,⟨⟨some 42,some (36,true),.eq .b false (.t 39) (.t 41)⟩,[],[],none⟩,⟨⟨some 43,none,.pick (.t 36) (.t 42) (.c .ff)⟩,[],[],none⟩,⟨⟨some 44,none,.mv (.t 43)⟩,[],[],none⟩,⟨⟨some 45,some (44,true),.ld 354 true (.t 3)⟩,[],[],none⟩,⟨⟨some 46,some (44,true),.call 56 true [((.t 45),.v)]⟩,[],[],none⟩,⟨⟨some 47,some (44,true),.ar .rem .i64 (.t 46) (.c (.lit .i64 3))⟩,[],[],none⟩,⟨⟨some 48,some (44,true),.cmp .eql (.t 47) (.c (.lit .i64 0))⟩,[],[],none⟩,⟨⟨some 49,none,.pick (.t 44) (.t 48) (.c .ff)⟩,[],[],none⟩,⟨⟨some 50,none,.mv (.t 49)⟩,[],[],none⟩,⟨⟨some 51,some (50,true),.mv (.t 2)⟩,[],[],none⟩,⟨⟨some 52,some (50,true),.cmp .gtr (.t 51) (.c (.lit .i64 1073741824))⟩,[],[],none⟩,⟨⟨some 53,some (50,true),.mv (.t 52)⟩,[],[],none⟩,⟨⟨some 54,some (53,false),.mv (.t 2)⟩,[],[],none⟩,⟨⟨some 55,some (53,false),.cmp .lss (.t 54) (.c (.lit .i64 (-1073741824)))⟩,[],[],none⟩,⟨⟨some 56,some (50,true),.pick (.t 53) (.c .tt) (.t 55)⟩,[],[],none⟩,⟨⟨some 57,some (50,true),.mv (.t 56)⟩,[],[],none⟩,⟨⟨some 58,some (57,false),.mv (.t 2)⟩,[],[],none⟩,⟨⟨some 59,some (57,false),.call 58 true [((.t 58),.v)]⟩,[],[],none⟩,⟨⟨some 60,some (57,false),.mv (.t 2)⟩,[59,10059,20059,30059,40059,50059,60059,70059,80059,90059],[],none⟩,⟨⟨some 61,some (57,false),.call 59 true [((.t 60),.v)]⟩,[],[],none⟩,⟨⟨some 62,some (57,false),.cmp .eql (.t 59) (.t 61)⟩,[],[],none⟩,⟨⟨some 63,some (50,true),.pick (.t 57) (.c .tt) (.t 62)⟩,[],[],none⟩,⟨⟨some 64,none,.pick (.t 50) (.t 63) (.c .ff)⟩,[],[],none⟩,⟨⟨some 6,none,.mv (.t 64)⟩,[],[],none⟩])
  .ret))))⟩
/- 16 cloister/cloisterlaw09.SuperDecodes -/
def ic16 : IFn := ⟨2,50,[.t 4],
  (.seq (.reg [1,0,5,6,8,7,9,3,4] [⟨some 3,none,.box (.t 1)⟩,⟨some 4,none,.mv (.c .ff)⟩])
  (.seq (.reg [1,0,5,6,8,7,9,3,4] [⟨some 10,none,.bsl (.i .u8) 0 []⟩,⟨some 11,none,.mv (.t 0)⟩,⟨some 12,none,.app0 (.i .u8) 1 (.t 10) (.t 11)⟩,⟨some 5,none,.mv (.t 12)⟩])
  (.seq (.reg [1,0,5,6,8,7,9,3,4] [⟨some 14,none,.mv (.t 5)⟩,⟨some 15,none,.call 60 true [((.t 14),.b (.i .u8))]⟩,⟨some 13,none,.mv (.t 15)⟩,⟨some 16,none,.ext 0 (.t 13)⟩,⟨some 17,none,.ext 1 (.t 13)⟩,⟨some 6,none,.alloc (.cat 1 353 (.v (.lit .i64 0)) (.cat 1 352 (.v (.lit .i64 0)) (.cat 1 351 (.v (.lit .i64 0)) (.cat 1 350 (.v (.lit .u64 0)) (.cat 1 349 (.v (.lit .i64 0)) (.cat 1 348 (.v (.lit .i64 0)) (.cat 32 316 (.ints .u8 32) (.cat 16 300 (.ints .u8 16) (.rows 75 4 (.cat 1 74 (.v .ff) (.cat 1 73 (.v (.lit .i64 0)) (.cat 1 72 (.v (.lit .i64 0)) (.cat 16 56 (.ints .u8 16) (.cat 32 24 (.ints .u8 32) (.ints .u8 24)))))))))))))))⟩,⟨none,none,.st 354 (.t 6) (.t 16)⟩,⟨some 7,none,.mv (.t 17)⟩])
  (.seq (.reg [1,0,5,6,8,7,9,3,4] [⟨some 19,none,.mv (.t 0)⟩,⟨some 20,none,.call 61 true [((.t 19),.v)]⟩,⟨some 18,none,.mv (.t 20)⟩,⟨some 21,none,.ext 0 (.t 18)⟩,⟨some 22,none,.ext 1 (.t 18)⟩,⟨some 8,none,.alloc (.cat 1 353 (.v (.lit .i64 0)) (.cat 1 352 (.v (.lit .i64 0)) (.cat 1 351 (.v (.lit .i64 0)) (.cat 1 350 (.v (.lit .u64 0)) (.cat 1 349 (.v (.lit .i64 0)) (.cat 1 348 (.v (.lit .i64 0)) (.cat 32 316 (.ints .u8 32) (.cat 16 300 (.ints .u8 16) (.rows 75 4 (.cat 1 74 (.v .ff) (.cat 1 73 (.v (.lit .i64 0)) (.cat 1 72 (.v (.lit .i64 0)) (.cat 16 56 (.ints .u8 16) (.cat 32 24 (.ints .u8 32) (.ints .u8 24)))))))))))))))⟩,⟨none,none,.st 354 (.t 8) (.t 21)⟩,⟨some 9,none,.mv (.t 22)⟩])
  (.seq (.dreg [1,0,5,6,8,7,9,3,4] [⟨⟨some 23,none,.call 55 true []⟩,[],[],none⟩,⟨⟨some 24,none,.mv (.t 23)⟩,[],[],none⟩,⟨⟨some 25,some (24,true),.ld 354 true (.t 6)⟩,[],[],none⟩,⟨⟨some 26,some (24,true),.ld 354 true (.t 8)⟩,[],[],none⟩,⟨⟨some 27,some (24,true),.eq (.z [.i .i64,.i .i64,.i .i64,.i .u64,.i .i64,.i .i64,.i .u8,.i .u8,.i .u8,.i .u8,.i .u8,.i .u8,.i .u8,.i .u8,.i .u8,.i .u8,.i .u8,.i .u8,.i .u8,.i .u8,.i .u8,.i .u8,.i .u8,.i .u8,.i .u8,.i .u8,.i .u8,.i .u8,.i .u8,.i .u8,.i .u8,.i .u8,.i .u8,.i .u8,.i .u8,.i .u8,.i .u8,.i .u8,.i .u8,.i .u8,.i .u8,.i .u8,.i .u8,.i .u8,.i .u8,.i .u8,.i .u8,.i .u8,.i .u8,.i .u8,.i .u8,.i .u8,.i .u8,.i .u8,.b,.i .i64,.i .i64,.i .u8,.i .u8,.i .u8,.i .u8,.i .u8,.i .u8,.i .u8,.i .u8,.i .u8,.i .u8,.i .u8,.i .u8,.i .u8,.i .u8,.i .u8,.i .u8,.i .u8,.i .u8,.i .u8,.i .u8,.i .u8,.i .u8,.i .u8,.i .u8,.i .u8,.i .u8,.i .u8,.i .u8,.i .u8,.i .u8,.i .u8,.i .u8,.i .u8,.i .u8,.i .u8,.i .u8,.i .u8,.i .u8,.i .u8,.i .u8,.i .u8,.i .u8,.i .u8,.i .u8,.i .u8,.i .u8,.i .u8,.i .u8,.i .u8,.i .u8,.i .u8,.i .u8,.i .u8,.i .u8,.i .u8,.i .u8,.i .u8,.i .u8,.i .u8,.i .u8,.i .u8,.i .u8,.i .u8,.i .u8,.i .u8,.i .u8,.i .u8,.i .u8,.i .u8,.i .u8,.i .u8,.i .u8,.b,.i .i64,.i .i64,.i .u8,.i .u8,.i .u8,.i .u8,.i .u8,.i .u8,.i .u8,.i .u8,.i .u8,.i .u8,.i .u8,.i .u8,.i .u8,.i .u8,.i .u8,.i .u8,.i .u8,.i .u8,.i .u8,.i .u8,.i .u8,.i .u8,.i .u8,.i .u8,.i .u8,.i .u8,.i .u8,.i .u8,.i .u8,.i .u8,.i .u8,.i .u8,.i .u8,.i .u8,.i .u8,.i .u8,.i .u8,.i .u8,.i .u8,.i .u8,.i .u8,.i .u8,.i .u8,.i .u8,.i .u8,.i .u8,.i .u8,.i .u8,.i .u8,.i .u8,.i .u8,.i .u8,.i .u8,.i .u8,.i .u8,.i .u8,.i .u8,.i .u8,.i .u8,.i .u8,.i .u8,.i .u8,.i .u8,.i .u8,.i .u8,.i .u8,.i .u8,.i .u8,.i .u8,.i .u8,.i .u8,.i .u8,.b,.i .i64,.i .i64,.i .u8,.i .u8,.i .u8,.i .u8,.i .u8,.i .u8,.i .u8,.i .u8,.i .u8,.i .u8,.i .u8,.i .u8,.i .u8,.i .u8,.i .u8,.i .u8,.i .u8,.i .u8,.i .u8,.i .u8,.i .u8,.i .u8,.i .u8,.i .u8,.i .u8,.i .u8,.i .u8,.i .u8,.i .u8,.i .u8,.i .u8,.i .u8,.i .u8,.i .u8,.i .u8,.i .u8,.i .u8,.i .u8,.i .u8,.i .u8,.i .u8,.i .u8,.i .u8,.i .u8,.i .u8,.i .u8,.i .u8,.i .u8,.i .u8,.i .u8,.i .u8,.i .u8,.i .u8,.i .u8,.i .u8,.i .u8,.i .u8,.i .u8,.i .u8,.i .u8,.i .u8,.i .u8,.i .u8,.i .u8,.i .u8,.i .u8,.i .u8,.i .u8,.i .u8,.i .u8,.i .u8,.i .u8,.b,.i .i64,.i .i64,.i .u8,.i .u8,.i .u8,.i .u8,.i .u8,.i .u8,.i .u8,.i .u8,.i .u8,.i .u8,.i .u8,.i .u8,.i .u8,.i .u8,.i .u8,.i .u8,.i .u8,.i .u8,.i .u8,.i .u8,.i .u8,.i .u8,.i .u8,.i .u8,.i .u8,.i .u8,.i .u8,.i .u8,.i .u8,.i .u8,.i .u8,.i .u8,.i .u8,.i .u8,.i .u8,.i .u8,.i .u8,.i .u8,.i .u8,.i .u8,.i .u8,.i .u8,.i .u8,.i .u8,.i .u8,.i .u8,.i .u8,.i .u8,.i .u8,.i .u8,.i .u8,.i .u8,.i .u8,.i .u8,.i .u8,.i .u8,.i .u8,.i .u8,.i .u8,.i .u8,.i .u8,.i .u8,.i .u8,.i .u8,.i .u8,.i .u8,.i .u8,.i .u8,.i .u8,.i .u8,.i .u8,.i .u8]) false (.t 25) (.t 26)⟩,[],[],none⟩,⟨⟨some 28,none,.pick (.t 24) (.t 27) (.c .ff)⟩,[],[],none⟩,⟨⟨some 29,none,.mv (.t 28)⟩,[],[],none⟩,⟨⟨some 30,some (29,true),.mv (.t 7)⟩,[],[],none⟩,⟨⟨some 31,some (29,true),.mv (.t 9)⟩,[],[],none⟩,⟨⟨some 32,some (29,true),.cmp .eql (.t 30) (.t 31)⟩,[],[],none⟩,⟨⟨some 33,none,.pick (.t 29) (.t 32) (.c .ff)⟩,[],[],none⟩,⟨⟨some 34,none,.mv (.t 33)⟩,[],[],none⟩,⟨⟨some 35,some (34,true),.mv (.t 5)⟩,[],[],none⟩,⟨⟨some 36,some (34,true),.ld 32 true (.t 3)⟩,[],[],none⟩,⟨⟨some 37,some (34,true),.call 62 true [((.t 35),.b (.i .u8)),((.t 36),.v)]⟩,[],[],none⟩,⟨⟨some 38,some (34,true),.mv (.t 0)⟩,[37,10037,20037,30037,40037,50037,60037,70037,80037,90037],[],none⟩,⟨⟨some 39,some (34,true),.ld 32 true (.t 3)⟩,[37,10037,20037,30037,40037,50037,60037,70037,80037,90037],[],none⟩,⟨⟨some 40,some (34,true),.call 63 true [((.t 38),.b (.i .u8)),((.t 39),.v)]⟩,[],[],none⟩,⟨⟨some 41,some (34,true),.cmp .eql (.t 37) (.t 40)⟩,[],[],none⟩,⟨⟨some 42,none,.pick (.t 34) (.t 41) (.c .ff)⟩,[],[],none⟩,⟨⟨some 43,none,.mv (.t 42)⟩,[],[],none⟩,⟨⟨some 44,some (43,true),.mv (.t 5)⟩,[],[],none⟩,⟨⟨some 45,some (43,true),.b2s (.t 44)⟩,[],[],none⟩,⟨⟨some 46,some (43,true),.mv (.t 0)⟩,[],[],none⟩,⟨⟨some 47,some (43,true),.b2s (.t 46)⟩,[],[],none⟩,⟨⟨some 48,some (43,true),.eq .s false (.t 45) (.t 47)⟩,[],[],none⟩,⟨⟨some 49,none,.pick (.t 43) (.t 48) (.c .ff)⟩,[],[],none⟩,⟨⟨some 4,none,.mv (.t 49)⟩,[],[],none⟩])
  .ret)))))⟩
/- 17 cloister/cloisterlaw09.SuperBack -/
def ic17 : IFn := ⟨5,81,[.t 10],
  (.seq (.reg [0,1,2,16,5,6,12,24,11,13,14,7,63,3,4,10] [⟨some 5,none,.box (.t 0)⟩,⟨some 6,none,.box (.t 1)⟩,⟨some 7,none,.box (.t 2)⟩,⟨some 10,none,.mv (.c .ff)⟩])
  (.seq (.seq (.reg [0,1,2,16,5,6,12,24,11,13,14,7,63,3,4,10] [⟨some 15,none,.call 55 true []⟩,⟨some 16,none,.not (.t 15)⟩])
  (.cond (.t 16)
    (.seq (.reg [0,1,2,16,5,6,12,24,11,13,14,7,63,3,4,10] [⟨some 10,none,.mv (.c .ff)⟩])
    .ret)
    .skip))
  (.seq (.reg [0,1,2,16,5,6,12,24,11,13,14,7,63,3,4,10] [⟨some 18,none,.ld 354 true (.t 5)⟩,⟨some 19,none,.ld 32 true (.t 6)⟩,⟨some 20,none,.call 53 true [((.t 18),.v),((.t 19),.v)]⟩,⟨some 17,none,.mv (.t 20)⟩,⟨some 21,none,.ext 0 (.t 17)⟩,⟨some 22,none,.ext 1 (.t 17)⟩,⟨some 11,none,.mv (.t 21)⟩,⟨some 12,none,.mv (.t 22)⟩])
  (.seq (.seq (.reg [0,1,2,16,5,6,12,24,11,13,14,7,63,3,4,10] [⟨some 23,none,.mv (.t 12)⟩,⟨some 24,none,.cmp .neq (.t 23) (.c (.lit .i64 0))⟩])
  (.cond (.t 24)
    (.seq (.reg [0,1,2,16,5,6,12,24,11,13,14,7,63,3,4,10] [⟨some 25,none,.mv (.t 12)⟩,⟨some 26,none,.cmp .eql (.t 25) (.c (.lit .i64 3))⟩,⟨some 27,none,.mv (.t 26)⟩,⟨some 28,some (27,true),.mv (.t 11)⟩,⟨some 29,some (27,true),.lenS (.t 28)⟩,⟨some 30,some (27,true),.cmp .eql (.t 29) (.c (.lit .i64 0))⟩,⟨some 31,none,.pick (.t 27) (.t 30) (.c .ff)⟩,⟨some 10,none,.mv (.t 31)⟩])
    .ret)
    .skip))
  (.seq (.reg [0,1,2,16,5,6,12,24,11,13,14,7,63,3,4,10] [⟨some 33,none,.mv (.t 11)⟩,⟨some 34,none,.call 60 true [((.t 33),.b (.i .u8))]⟩,⟨some 32,none,.mv (.t 34)⟩,⟨some 35,none,.ext 0 (.t 32)⟩,⟨some 36,none,.ext 1 (.t 32)⟩,⟨some 13,none,.alloc (.cat 1 353 (.v (.lit .i64 0)) (.cat 1 352 (.v (.lit .i64 0)) (.cat 1 351 (.v (.lit .i64 0)) (.cat 1 350 (.v (.lit .u64 0)) (.cat 1 349 (.v (.lit .i64 0)) (.cat 1 348 (.v (.lit .i64 0)) (.cat 32 316 (.ints .u8 32) (.cat 16 300 (.ints .u8 16) (.rows 75 4 (.cat 1 74 (.v .ff) (.cat 1 73 (.v (.lit .i64 0)) (.cat 1 72 (.v (.lit .i64 0)) (.cat 16 56 (.ints .u8 16) (.cat 32 24 (.ints .u8 32) (.ints .u8 24)))))))))))))))⟩,⟨none,none,.st 354 (.t 13) (.t 35)⟩,⟨some 14,none,.mv (.t 36)⟩])
  (.seq (.seq (.dreg [0,1,2,16,5,6,12,24,11,13,14,7,63,3,4,10] [⟨⟨some 37,none,.mv (.t 14)⟩,[],[],none⟩,⟨⟨some 38,none,.cmp .neq (.t 37) (.c (.lit .i64 0))⟩,[],[],none⟩,⟨⟨some 39,none,.mv (.t 38)⟩,[],[],none⟩,⟨⟨some 40,some (39,false),.ld 354 true (.t 13)⟩,[],[],none⟩,⟨⟨some 41,some (39,false),.ld 354 true (.t 5)⟩,[],[],none⟩,⟨⟨some 42,some (39,false),.eq (.z [.i .i64,.i .i64,.i .i64,.i .u64,.i .i64,.i .i64,.i .u8,.i .u8,.i .u8,.i .u8,.i .u8,.i .u8,.i .u8,.i .u8,.i .u8,.i .u8,.i .u8,.i .u8,.i .u8,.i .u8,.i .u8,.i .u8,.i .u8,.i .u8,.i .u8,.i .u8,.i .u8,.i .u8,.i .u8,.i .u8,.i .u8,.i .u8,.i .u8,.i .u8,.i .u8,.i .u8,.i .u8,.i .u8,.i .u8,.i .u8,.i .u8,.i .u8,.i .u8,.i .u8,.i .u8,.i .u8,.i .u8,.i .u8,.i .u8,.i .u8,.i .u8,.i .u8,.i .u8,.i .u8,.b,.i .i64,.i .i64,.i .u8,.i .u8,.i .u8,.i .u8,.i .u8,.i .u8,.i .u8,.i .u8,.i .u8,.i .u8,.i .u8,.i .u8,.i .u8,.i .u8,.i .u8,.i .u8,.i .u8,.i .u8,.i .u8,.i .u8,.i .u8,.i .u8,.i .u8,.i .u8,.i .u8,.i .u8,.i .u8,.i .u8,.i .u8,.i .u8,.i .u8,.i .u8,.i .u8,.i .u8,.i .u8,.i .u8,.i .u8,.i .u8,.i .u8,.i .u8,.i .u8,.i .u8,.i .u8,.i .u8,.i .u8,.i .u8,.i .u8,.i .u8,.i .u8,.i .u8,.i .u8,.i .u8,.i .u8,.i .u8,.i .u8,.i .u8,.i .u8,.i .u8,.i .u8,.i .u8,.i .u8,.i .u8,.i .u8,.i .u8,.i .u8,.i .u8,.i .u8,.i .u8,.i .u8,.i .u8,.i .u8,.i .u8,.b,.i .i64,.i .i64,.i .u8,.i .u8,.i .u8,.i .u8,.i .u8,.i .u8,.i .u8,.i .u8,.i .u8,.i .u8,.i .u8,.i .u8,.i .u8,.i .u8,.i .u8,.i .u8,.i .u8,.i .u8,.i .u8,.i .u8,.i .u8,.i .u8,.i .u8,.i .u8,.i .u8,.i .u8,.i .u8,.i .u8,.i .u8,.i .u8,.i .u8,.i .u8,.i .u8,.i .u8,.i .u8,.i .u8,.i .u8,.i .u8,.i .u8,.i .u8,.i .u8,.i .u8,.i .u8,.i .u8,.i .u8,.i .u8,.i .u8,.i .u8,.i .u8,.i .u8,.i .u8,.i .u8,.i .u8,.i .u8,.i .u8,.i .u8,.i .u8,.i .u8,.i .u8,.i .u8,.i .u8,.i .u8,.i .u8,.i .u8,.i .u8,.i .u8,.i .u8,.i .u8,.i .u8,.i .u8,.i .u8,.i .u8,.b,.i .i64,.i .i64,.i .u8,.i .u8,.i .u8,.i .u8,.i .u8,.i .u8,.i .u8,.i .u8,.i .u8,.i .u8,.i .u8,.i .u8,.i .u8,.i .u8,.i .u8,.i .u8,.i .u8,.i .u8,.i .u8,.i .u8,.i .u8,.i .u8,.i .u8,.i .u8,.i .u8,.i .u8,.i .u8,.i .u8,.i .u8,.i .u8,.i .u8,.i .u8,.i .u8,.i .u8,.i .u8,.i .u8,.i .u8,.i .u8,.i .u8,.i .u8,.i .u8,.i .u8,.i .u8,.i .u8,.i .u8,.i .u8,.i .u8,.i .u8,.i .u8,.i .u8,.i .u8,.i .u8,.i .u8,.i .u8,.i .u8,.i .u8,.i .u8,.i .u8,.i .u8,.i .u8,.i .u8,.i .u8,.i .u8,.i .u8,.i .u8,.i .u8,.i .u8,.i .u8,.i .u8,.i .u8,.i .u8,.i .u8,.b,.i .i64,.i .i64,.i .u8,.i .u8,.i .u8,.i .u8,.i .u8,.i .u8,.i .u8,.i .u8,.i .u8,.i .u8,.i .u8,.i .u8,.i .u8,.i .u8,.i .u8,.i .u8,.i .u8,.i .u8,.i .u8,.i .u8,.i .u8,.i .u8,.i .u8,.i .u8,.i .u8,.i .u8,.i .u8,.i .u8,.i .u8,.i .u8,.i .u8,.i .u8,.i .u8,.i .u8,.i .u8,.i .u8,.i .u8,.i .u8,.i .u8,.i .u8,.i .u8,.i .u8,.i .u8,.i .u8,.i .u8,.i .u8,.i .u8,.i .u8,.i .u8,.i .u8,.i .u8,.i .u8,.i .u8,.i .u8,.i .u8,.i .u8,.i .u8,.i .u8,.i .u8,.i .u8,.i .u8,.i .u8,.i .u8,.i .u8,.i .u8,.i .u8,.i .u8,.i .u8,.i .u8,.i .u8,.i .u8,.i .u8]) true (.t 40) (.t 41)⟩,[],[],none⟩,⟨⟨some 43,none,.pick (.t 39) (.c .tt) (.t 42)⟩,[],[],none⟩,⟨⟨some 44,none,.mv (.t 43)⟩,[],[],none⟩,⟨⟨some 45,some (44,false),.mv (.t 11)⟩,[],[],none⟩,⟨⟨some 46,some (44,false),.lenS (.t 45)⟩,[],[],none⟩,⟨⟨some 47,some (44,false),.cmp .neq (.t 46) (.c (.lit .i64 512))⟩,[],[],none⟩,⟨⟨some 48,none,.pick (.t 44) (.c .tt) (.t 47)⟩,[],[],none⟩,⟨⟨some 49,none,.mv (.t 48)⟩,[],[],none⟩,⟨⟨some 50,some (49,false),.mv (.t 11)⟩,[],[],none⟩,⟨⟨some 51,some (49,false),.ld 32 true (.t 6)⟩,[],[],none⟩,⟨⟨some 52,some (49,false),.call 62 true [((.t 50),.b (.i .u8)),((.t 51),.v)]⟩,[],[],none⟩,⟨⟨some 53,some (49,false),.cmp .neq (.t 52) (.c (.lit .i64 0))⟩,[],[],none⟩,⟨⟨some 54,none,.pick (.t 49) (.c .tt) (.t 53)⟩,[],[],none⟩,⟨⟨some 55,none,.mv (.t 54)⟩,[],[],none⟩,⟨⟨some 56,some (55,false),.mv (.t 11)⟩,[],[],none⟩,⟨⟨some 57,some (55,false),.ld 32 true (.t 7)⟩,[],[],none⟩,⟨⟨some 58,some (55,false),.call 62 true [((.t 56),.b (.i .u8)),((.t 57),.v)]⟩,[],[],none⟩,⟨⟨some 59,some (55,false),.mv (.t 11)⟩,[58,10058,20058,30058,40058,50058,60058,70058,80058,90058],[],none⟩,⟨⟨some 60,some (55,false),.ld 32 true (.t 7)⟩,[58,10058,20058,30058,40058,50058,60058,70058,80058,90058],[],none⟩,⟨⟨some 61,some (55,false),.call 63 true [((.t 59),.b (.i .u8)),((.t 60),.v)]⟩,[],[],none⟩,⟨⟨some 62,some (55,false),.cmp .neq (.t 58) (.t 61)⟩,[],[],none⟩,⟨⟨some 63,none,.pick (.t 55) (.c .tt) (.t 62)⟩,[],[],none⟩])
  (.cond (.t 63)
    (.seq (.reg [0,1,2,16,5,6,12,24,11,13,14,7,63,3,4,10] [⟨some 10,none,.mv (.c .ff)⟩])
    .ret)
    .skip))
  (.seq (.reg [0,1,2,16,5,6,12,24,11,13,14,7,63,3,4,10] [⟨some 64,none,.mv (.t 11)⟩,⟨some 65,none,.mv (.t 3)⟩,⟨some 66,none,.cv .u64 (.t 65)⟩,⟨some 67,none,.ar .rem .u64 (.t 66) (.c (.lit .u64 512))⟩,⟨some 68,none,.cv .i64 (.t 67)⟩,⟨some 69,none,.iaS 1 (.t 64) (.t 68)⟩,⟨some 70,none,.ld 1 false (.t 69)⟩,⟨some 71,none,.mv (.t 4)⟩,⟨some 72,none,.ar .xor .u8 (.t 70) (.t 71)⟩,⟨some 73,none,.iaS 1 (.t 64) (.t 68)⟩,⟨none,none,.st 1 (.t 73) (.t 72)⟩])
  (.seq (.dreg [0,1,2,16,5,6,12,24,11,13,14,7,63,3,4,10] [⟨⟨some 74,none,.mv (.t 11)⟩,[],[],none⟩,⟨⟨some 75,none,.ld 32 true (.t 6)⟩,[],[],none⟩,⟨⟨some 76,none,.call 62 true [((.t 74),.b (.i .u8)),((.t 75),.v)]⟩,[],[],none⟩,⟨⟨some 77,none,.mv (.t 11)⟩,[76,10076,20076,30076,40076,50076,60076,70076,80076,90076],[],none⟩,⟨⟨some 78,none,.ld 32 true (.t 6)⟩,[76,10076,20076,30076,40076,50076,60076,70076,80076,90076],[],none⟩,⟨⟨some 79,none,.call 63 true [((.t 77),.b (.i .u8)),((.t 78),.v)]⟩,[],[],none⟩,⟨⟨some 80,none,.cmp .eql (.t 76) (.t 79)⟩,[],[],none⟩,⟨⟨some 10,none,.mv (.t 80)⟩,[],[],none⟩])
  .ret))))))))⟩
/- 53 cloister/super.Encode -/
def ic53 : IFn := ⟨2,25,[.t 4,.t 5],
  (.seq (.reg [0,1,2,6,13,3,8,7,9,4,5] [⟨some 2,none,.box (.t 0)⟩,⟨some 3,none,.box (.t 1)⟩,⟨some 4,none,.mv (.c .nsl)⟩,⟨some 5,none,.mv (.c (.lit .i64 0))⟩])
  (.seq (.seq (.reg [0,1,2,6,13,3,8,7,9,4,5] [⟨some 10,none,.ld 354 true (.t 2)⟩,⟨some 11,none,.call 56 true [((.t 10),.v)]⟩,⟨some 6,none,.mv (.t 11)⟩])
  (.seq (.reg [0,1,2,6,13,3,8,7,9,4,5] [⟨some 12,none,.mv (.t 6)⟩,⟨some 13,none,.cmp .neq (.t 12) (.c (.lit .i64 0))⟩])
  (.cond (.t 13)
    (.seq (.reg [0,1,2,6,13,3,8,7,9,4,5] [⟨some 14,none,.mv (.t 6)⟩,⟨some 4,none,.mv (.c .nsl)⟩,⟨some 5,none,.mv (.t 14)⟩])
    .ret)
    .skip)))
  (.seq (.reg [0,1,2,6,13,3,8,7,9,4,5] [⟨some 15,none,.ld 354 true (.t 2)⟩,⟨some 16,none,.call 118 true [((.t 15),.v)]⟩,⟨some 7,none,.mv (.t 16)⟩])
  (.seq (.reg [0,1,2,6,13,3,8,7,9,4,5] [⟨some 17,none,.ld 32 true (.t 3)⟩,⟨some 18,none,.call 119 true [((.t 17),.v),((.c (.str [115,117,112,101,114])),.v)]⟩,⟨some 8,none,.alloc (.ints .u8 32)⟩,⟨none,none,.st 32 (.t 8) (.t 18)⟩])
  (.seq (.reg [0,1,2,6,13,3,8,7,9,4,5] [⟨some 19,none,.slA 32 1 (.t 8) none none⟩,⟨some 20,none,.mv (.t 7)⟩,⟨some 21,none,.call 120 true [((.t 19),.b (.i .u8)),((.t 20),.b (.i .u8))]⟩,⟨some 9,none,.alloc (.ints .u8 32)⟩,⟨none,none,.st 32 (.t 9) (.t 21)⟩])
  (.seq (.reg [0,1,2,6,13,3,8,7,9,4,5] [⟨some 22,none,.mv (.t 7)⟩,⟨some 23,none,.slA 32 1 (.t 9) none none⟩,⟨some 24,none,.app (.i .u8) 1 (.t 22) (.t 23)⟩,⟨some 4,none,.mv (.t 24)⟩,⟨some 5,none,.mv (.c (.lit .i64 0))⟩])
  .ret))))))⟩
/- 54 cloister/cloisterref09.Encode -/
def ic54 : IFn := ⟨2,18,[.t 4,.t 5],
  (.seq (.reg [0,1,2,9,6,3,4,5] [⟨some 2,none,.box (.t 0)⟩,⟨some 3,none,.box (.t 1)⟩,⟨some 4,none,.mv (.c .nsl)⟩,⟨some 5,none,.mv (.c (.lit .i64 0))⟩])
  (.seq (.seq (.reg [0,1,2,9,6,3,4,5] [⟨some 7,none,.ld 354 true (.t 2)⟩,⟨some 8,none,.call 57 true [((.t 7),.v)]⟩,⟨some 9,none,.not (.t 8)⟩])
  (.cond (.t 9)
    (.seq (.reg [0,1,2,9,6,3,4,5] [⟨some 4,none,.mv (.c .nsl)⟩,⟨some 5,none,.mv (.c (.lit .i64 3))⟩])
    .ret)
    .skip))
  (.seq (.reg [0,1,2,9,6,3,4,5] [⟨some 10,none,.ld 354 true (.t 2)⟩,⟨some 11,none,.call 121 true [((.t 10),.v)]⟩,⟨some 6,none,.mv (.t 11)⟩])
  (.seq (.reg [0,1,2,9,6,3,4,5] [⟨some 12,none,.mv (.t 6)⟩,⟨some 13,none,.mv (.t 6)⟩,⟨some 14,none,.ld 32 true (.t 3)⟩,⟨some 15,none,.call 122 true [((.t 13),.b (.i .u8)),((.t 14),.v)]⟩,⟨some 16,none,.s2b (.t 15)⟩,⟨some 17,none,.app (.i .u8) 1 (.t 12) (.t 16)⟩,⟨some 4,none,.mv (.t 17)⟩,⟨some 5,none,.mv (.c (.lit .i64 0))⟩])
  .ret))))⟩
/- 55 cloister/cloisterlaw09.fixed -/
def ic55 : IFn := ⟨0,57,[.t 0],
  (.seq (.reg [1,3,2,4,0] [⟨some 0,none,.mv (.c .ff)⟩])
  (.seq (.reg [1,3,2,4,0] [⟨some 6,none,.call 123 true []⟩,⟨some 7,none,.bldA (.i .u8) 32 [(0,(.c (.lit .u8 1)))]⟩,⟨some 8,none,.call 53 true [((.t 6),.v),((.t 7),.v)]⟩,⟨some 5,none,.mv (.t 8)⟩,⟨some 9,none,.ext 0 (.t 5)⟩,⟨some 10,none,.ext 1 (.t 5)⟩,⟨some 1,none,.mv (.t 9)⟩,⟨some 2,none,.mv (.t 10)⟩])
  (.seq (.reg [1,3,2,4,0] [⟨some 12,none,.mv (.t 1)⟩,⟨some 13,none,.call 60 true [((.t 12),.b (.i .u8))]⟩,⟨some 11,none,.mv (.t 13)⟩,⟨some 14,none,.ext 0 (.t 11)⟩,⟨some 15,none,.ext 1 (.t 11)⟩,⟨some 3,none,.alloc (.cat 1 353 (.v (.lit .i64 0)) (.cat 1 352 (.v (.lit .i64 0)) (.cat 1 351 (.v (.lit .i64 0)) (.cat 1 350 (.v (.lit .u64 0)) (.cat 1 349 (.v (.lit .i64 0)) (.cat 1 348 (.v (.lit .i64 0)) (.cat 32 316 (.ints .u8 32) (.cat 16 300 (.ints .u8 16) (.rows 75 4 (.cat 1 74 (.v .ff) (.cat 1 73 (.v (.lit .i64 0)) (.cat 1 72 (.v (.lit .i64 0)) (.cat 16 56 (.ints .u8 16) (.cat 32 24 (.ints .u8 32) (.ints .u8 24)))))))))))))))⟩,⟨none,none,.st 354 (.t 3) (.t 14)⟩,⟨some 4,none,.mv (.t 15)⟩])
  (.seq (.dreg [1,3,2,4,0] [⟨⟨some 16,none,.mv (.t 2)⟩,[],[],none⟩,⟨⟨some 17,none,.cmp .eql (.t 16) (.c (.lit .i64 0))⟩,[],[],none⟩,⟨⟨some 18,none,.mv (.t 17)⟩,[],[],none⟩,⟨⟨some 19,some (18,true),.mv (.t 4)⟩,[],[],none⟩,⟨⟨some 20,some (18,true),.cmp .eql (.t 19) (.c (.lit .i64 0))⟩,[],[],none⟩,⟨⟨some 21,none,.pick (.t 18) (.t 20) (.c .ff)⟩,[],[],none⟩,⟨⟨some 22,none,.mv (.t 21)⟩,[],[],none⟩,⟨⟨some 23,some (22,true),.ld 354 true (.t 3)⟩,[24,10024,20024,30024,40024,50024,60024,70024,80024,90024],[],none⟩,⟨⟨some 24,some (22,true),.call 123 true []⟩,[],[],none⟩,⟨⟨some 25,some (22,true),.eq (.z [.i .i64,.i .i64,.i .i64,.i .u64,.i .i64,.i .i64,.i .u8,.i .u8,.i .u8,.i .u8,.i .u8,.i .u8,.i .u8,.i .u8,.i .u8,.i .u8,.i .u8,.i .u8,.i .u8,.i .u8,.i .u8,.i .u8,.i .u8,.i .u8,.i .u8,.i .u8,.i .u8,.i .u8,.i .u8,.i .u8,.i .u8,.i .u8,.i .u8,.i .u8,.i .u8,.i .u8,.i .u8,.i .u8,.i .u8,.i .u8,.i .u8,.i .u8,.i .u8,.i .u8,.i .u8,.i .u8,.i .u8,.i .u8,.i .u8,.i .u8,.i .u8,.i .u8,.i .u8,.i .u8,.b,.i .i64,.i .i64,.i .u8,.i .u8,.i .u8,.i .u8,.i .u8,.i .u8,.i .u8,.i .u8,.i .u8,.i .u8,.i .u8,.i .u8,.i .u8,.i .u8,.i .u8,.i .u8,.i .u8,.i .u8,.i .u8,.i .u8,.i .u8,.i .u8,.i .u8,.i .u8,.i .u8,.i .u8,.i .u8,.i .u8,.i .u8,.i .u8,.i .u8,.i .u8,.i .u8,.i .u8,.i .u8,.i .u8,.i .u8,.i .u8,.i .u8,.i .u8,.i .u8,.i .u8,.i .u8,.i .u8,.i .u8,.i .u8,.i .u8,.i .u8,.i .u8,.i .u8,.i .u8,.i .u8,.i .u8,.i .u8,.i .u8,.i .u8,.i .u8,.i .u8,.i .u8,.i .u8,.i .u8,.i .u8,.i .u8,.i .u8,.i .u8,.i .u8,.i .u8,.i .u8,.i .u8,.i .u8,.i .u8,.i .u8,.b,.i .i64,.i .i64,.i .u8,.i .u8,.i .u8,.i .u8,.i .u8,.i .u8,.i .u8,.i .u8,.i .u8,.i .u8,.i .u8,.i .u8,.i .u8,.i .u8,.i .u8,.i .u8,.i .u8,.i .u8,.i .u8,.i .u8,.i .u8,.i .u8,.i .u8,.i .u8,.i .u8,.i .u8,.i .u8,.i .u8,.i .u8,.i .u8,.i .u8,.i .u8,.i .u8,.i .u8,.i .u8,.i .u8,.i .u8,.i .u8,.i .u8,.i .u8,.i .u8,.i .u8,.i .u8,.i .u8,.i .u8,.i .u8,.i .u8,.i .u8,.i .u8,.i .u8,.i .u8,.i .u8,.i .u8,.i .u8,.i .u8,.i .u8,.i .u8,.i .u8,.i .u8,.i .u8,.i .u8,.i .u8,.i .u8,.i .u8,.i .u8,.i .u8,.i .u8,.i .u8,.i .u8,.i .u8,.i .u8,.i .u8,.b,.i .i64,.i .i64,.i .u8,.i .u8,.i .u8,.i .u8,.i .u8,.i .u8,.i .u8,.i .u8,.i .u8,.i .u8,.i .u8,.i .u8,.i .u8,.i .u8,.i .u8,.i .u8,.i .u8,.i .u8,.i .u8,.i .u8,.i .u8,.i .u8,.i .u8,.i .u8,.i .u8,.i .u8,.i .u8,.i .u8,.i .u8,.i .u8,.i .u8,.i .u8,.i .u8,.i .u8,.i .u8,.i .u8,.i .u8,.i .u8,.i .u8,.i .u8,.i .u8,.i .u8,.i .u8,.i .u8,.i .u8,.i .u8,.i .u8,.i .u8,.i .u8,.i .u8,.i .u8,.i .u8,.i .u8,.i .u8,.i .u8,.i .u8,.i .u8,.i .u8,.i .u8,.i .u8,.i .u8,.i .u8,.i .u8,.i .u8,.i .u8,.i .u8,.i .u8,.i .u8,.i .u8,.i .u8,.i .u8,.i .u8,.b,.i .i64,.i .i64,.i .u8,.i .u8,.i .u8,.i .u8,.i .u8,.i .u8,.i .u8,.i .u8,.i .u8,.i .u8,.i .u8,.i .u8,.i .u8,.i .u8,.i .u8,.i .u8,.i .u8,.i .u8,.i .u8,.i .u8,.i .u8,.i .u8,.i .u8,.i .u8,.i .u8,.i .u8,.i .u8,.i .u8,.i .u8,.i .u8,.i .u8,.i .u8,.i .u8,.i .u8,.i .u8,.i .u8,.i .u8,.i .u8,.i .u8,.i .u8,.i .u8,.i .u8,.i .u8,.i .u8,.i .u8,.i .u8,.i .u8,.i .u8,.i .u8,.i .u8,.i .u8,.i .u8,.i .u8,.i .u8,.i .u8,.i .u8,.i .u8,.i .u8,.i .u8,.i .u8,.i .u8,.i .u8,.i .u8,.i .u8,.i .u8,.i .u8,.i .u8,.i .u8,.i .u8,.i .u8,.i .u8,.i .u8]) false (.t 23) (.t 24)⟩,[],[],none⟩,⟨⟨some 26,none,.pick (.t 22) (.t 25) (.c .ff)⟩,[],[],none⟩,⟨⟨some 27,none,.mv (.t 26)⟩,[],[],none⟩,⟨⟨some 28,some (27,true),.call 58 true [((.c (.lit .i64 72)),.v)]⟩,[],[],none⟩,⟨⟨some 29,some (27,true),.cmp .eql (.t 28) (.c (.lit .i64 36))⟩,[],[],none⟩,⟨⟨some 30,none,.pick (.t 27) (.t 29) (.c .ff)⟩,[],[],none⟩,⟨⟨some 31,none,.mv (.t 30)⟩,[],[],none⟩,⟨⟨some 32,some (31,true),.mv (.t 1)⟩,[],[],none⟩,⟨⟨some 33,some (31,true),.bldA (.i .u8) 32 [(0,(.c (.lit .u8 1)))]⟩,[],[],none⟩,⟨⟨some 34,some (31,true),.call 62 true [((.t 32),.b (.i .u8)),((.t 33),.v)]⟩,[],[],none⟩,⟨⟨some 35,some (31,true),.cmp .eql (.t 34) (.c (.lit .i64 0))⟩,[],[],none⟩,⟨⟨some 36,none,.pick (.t 31) (.t 35) (.c .ff)⟩,[],[],none⟩,⟨⟨some 37,none,.mv (.t 36)⟩,[],[],none⟩,⟨⟨some 38,some (37,true),.mv (.t 1)⟩,[],[],none⟩,⟨⟨some 39,some (37,true),.bldA (.i .u8) 32 [(0,(.c (.lit .u8 2)))]⟩,[],[],none⟩,⟨⟨some 40,some (37,true),.call 62 true [((.t 38),.b (.i .u8)),((.t 39),.v)]⟩,[],[],none⟩,⟨⟨some 41,some (37,true),.cmp .eql (.t 40) (.c (.lit .i64 13))⟩,[],[],none⟩,⟨⟨some 42,none,.pick (.t 37) (.t 41) (.c .ff)⟩,[],[],none⟩,⟨⟨some 43,none,.mv (.t 42)⟩,[],[],none⟩,⟨⟨some 44,none,.pick (.t 43) (.c .tt) (.c .ff)⟩,[],[],none⟩,⟨⟨some 45,none,.mv (.t 44)⟩,[],[],none⟩,⟨⟨some 46,none,.pick (.t 45) (.c .tt) (.c .ff)⟩,[],[],none⟩,⟨⟨some 47,none,.mv (.t 46)⟩,[],[],none⟩,⟨⟨some 48,none,.pick (.t 47) (.c .tt) (.c .ff)⟩,[],[],none⟩,⟨⟨some 49,none,.mv (.t 48)⟩,[],[],none⟩,⟨⟨some 50,none,.pick (.t 49) (.c .tt) (.c .ff)⟩,[],[],none⟩,⟨⟨some 51,none,.mv (.t 50)⟩,[],[],none⟩,⟨⟨some 52,none,.pick (.t 51) (.c .tt) (.c .ff)⟩,[],[],none⟩,⟨⟨some 53,none,.mv (.t 52)⟩,[],[],none⟩,⟨⟨some 54,none,.pick (.t 53) (.c .tt) (.c .ff)⟩,[],[],none⟩,⟨⟨some 55,none,.mv (.t 54)⟩,[],[],none⟩,⟨⟨some 56,none,.pick (.t 55) (.c .tt) (.c .ff)⟩,[],[],none⟩,⟨⟨some 0,none,.mv (.t 56)⟩,[],[],none⟩])
  .ret))))⟩
/- 56 cloister/super.Right -/
def ic56 : IFn := ⟨1,86,[.t 2],
  (.seq (.reg [0,1,3,54,4,85,2] [⟨some 1,none,.box (.t 0)⟩,⟨some 2,none,.mv (.c (.lit .i64 0))⟩])
  (.seq (.reg [0,1,3,54,4,85,2] [⟨some 5,none,.fa 0 1 (.t 1)⟩,⟨some 6,none,.ld 1 false (.t 5)⟩,⟨some 7,none,.cmp .eql (.t 6) (.c (.lit .i64 1))⟩,⟨some 3,none,.mv (.t 7)⟩])
  (.seq (.dreg [0,1,3,54,4,85,2] [⟨⟨some 8,none,.fa 0 1 (.t 1)⟩,[],[],none⟩,⟨⟨some 9,none,.ld 1 false (.t 8)⟩,[],[],none⟩,⟨⟨some 10,none,.cmp .geq (.t 9) (.c (.lit .i64 0))⟩,[],[],none⟩,⟨⟨some 11,none,.mv (.t 10)⟩,[],[],none⟩,⟨⟨some 12,some (11,true),.fa 0 1 (.t 1)⟩,[],[],none⟩,⟨⟨some 13,some (11,true),.ld 1 false (.t 12)⟩,[],[],none⟩,⟨⟨some 14,some (11,true),.cmp .leq (.t 13) (.c (.lit .i64 3))⟩,[],[],none⟩,⟨⟨some 15,none,.pick (.t 11) (.t 14) (.c .ff)⟩,[],[],none⟩,⟨⟨some 16,none,.mv (.t 15)⟩,[],[],none⟩,⟨⟨some 17,some (16,true),.fa 1 1 (.t 1)⟩,[],[],none⟩,⟨⟨some 18,some (16,true),.ld 1 false (.t 17)⟩,[],[],none⟩,⟨⟨some 19,some (16,true),.call 124 true [((.t 18),.v)]⟩,[],[],none⟩,⟨⟨some 20,none,.pick (.t 16) (.t 19) (.c .ff)⟩,[],[],none⟩,⟨⟨some 21,none,.mv (.t 20)⟩,[],[],none⟩,⟨⟨some 22,some (21,true),.fa 3 1 (.t 1)⟩,[],[],none⟩,⟨⟨some 23,some (21,true),.ld 1 false (.t 22)⟩,[],[],none⟩,⟨⟨some 24,some (21,true),.cmp .geq (.t 23) (.c (.lit .u64 1))⟩,[],[],none⟩,⟨⟨some 25,none,.pick (.t 21) (.t 24) (.c .ff)⟩,[],[],none⟩,⟨⟨some 26,none,.mv (.t 25)⟩,[],[],none⟩,⟨⟨some 27,some (26,true),.fa 3 1 (.t 1)⟩,[],[],none⟩,⟨⟨some 28,some (26,true),.ld 1 false (.t 27)⟩,[],[],none⟩,⟨⟨some 29,some (26,true),.cmp .leq (.t 28) (.c (.lit .u64 281474976710655))⟩,[],[],none⟩,⟨⟨some 30,none,.pick (.t 26) (.t 29) (.c .ff)⟩,[],[],none⟩,⟨⟨some 31,none,.mv (.t 30)⟩,[],[],none⟩,⟨⟨some 32,some (31,true),.fa 4 1 (.t 1)⟩,[],[],none⟩,⟨⟨some 33,some (31,true),.ld 1 false (.t 32)⟩,[],[],none⟩,⟨⟨some 34,some (31,true),.cmp .geq (.t 33) (.c (.lit .i64 72))⟩,[],[],none⟩,⟨⟨some 35,none,.pick (.t 31) (.t 34) (.c .ff)⟩,[],[],none⟩,⟨⟨some 36,none,.mv (.t 35)⟩,[],[],none⟩,⟨⟨some 37,some (36,true),.fa 4 1 (.t 1)⟩,[],[],none⟩,⟨⟨some 38,some (36,true),.ld 1 false (.t 37)⟩,[],[],none⟩,⟨⟨some 39,some (36,true),.cmp .leq (.t 38) (.c (.lit .i64 256))⟩,[],[],none⟩,⟨⟨some 40,none,.pick (.t 36) (.t 39) (.c .ff)⟩,[],[],none⟩,⟨⟨some 41,none,.mv (.t 40)⟩,[],[],none⟩,⟨⟨some 42,some (41,true),.fa 5 1 (.t 1)⟩,[],[],none⟩,⟨⟨some 43,some (41,true),.ld 1 false (.t 42)⟩,[],[],none⟩,⟨⟨some 44,some (41,true),.cmp .geq (.t 43) (.c (.lit .i64 0))⟩,[],[],none⟩,⟨⟨some 45,none,.pick (.t 41) (.t 44) (.c .ff)⟩,[],[],none⟩,⟨⟨some 46,none,.mv (.t 45)⟩,[],[],none⟩,⟨⟨some 47,some (46,true),.fa 5 1 (.t 1)⟩,[51,10051,20051,30051,40051,50051,60051,70051,80051,90051],[],none⟩,⟨⟨some 48,some (46,true),.ld 1 false (.t 47)⟩,[51,10051,20051,30051,40051,50051,60051,70051,80051,90051],[],none⟩,⟨⟨some 49,some (46,true),.fa 4 1 (.t 1)⟩,[],[],none⟩,⟨⟨some 50,some (46,true),.ld 1 false (.t 49)⟩,[],[],none⟩,⟨⟨some 51,some (46,true),.call 58 true [((.t 50),.v)]⟩,[],[],none⟩,⟨⟨some 52,some (46,true),.cmp .leq (.t 48) (.t 51)⟩,[],[],none⟩,⟨⟨some 53,none,.pick (.t 46) (.t 52) (.c .ff)⟩,[],[],none⟩,⟨⟨some 4,none,.mv (.t 53)⟩,[],[],none⟩])
  (.seq (.seq (.reg [0,1,3,54,4,85,2] [⟨some 54,none,.mv (.t 3)⟩])
  (.cond (.t 54)
    (.reg [0,1,3,54,4,85,2] [⟨some 55,none,.mv (.t 4)⟩,⟨some 56,none,.mv (.t 55)⟩,⟨some 57,some (56,true),.fa 2 1 (.t 1)⟩,⟨some 58,some (56,true),.ld 1 false (.t 57)⟩,⟨some 59,some (56,true),.call 124 true [((.t 58),.v)]⟩,⟨some 60,none,.pick (.t 56) (.t 59) (.c .ff)⟩,⟨some 61,none,.mv (.t 60)⟩,⟨some 62,some (61,true),.fa 2 1 (.t 1)⟩,⟨some 63,some (61,true),.ld 1 false (.t 62)⟩,⟨some 64,some (61,true),.fa 1 1 (.t 1)⟩,⟨some 65,some (61,true),.ld 1 false (.t 64)⟩,⟨some 66,some (61,true),.cmp .neq (.t 63) (.t 65)⟩,⟨some 67,none,.pick (.t 61) (.t 66) (.c .ff)⟩,⟨some 4,none,.mv (.t 67)⟩])
    (.reg [0,1,3,54,4,85,2] [⟨some 68,none,.mv (.t 4)⟩,⟨some 69,none,.mv (.t 68)⟩,⟨some 70,some (69,true),.fa 2 1 (.t 1)⟩,⟨some 71,some (69,true),.ld 1 false (.t 70)⟩,⟨some 72,some (69,true),.cmp .eql (.t 71) (.c (.lit .i64 0))⟩,⟨some 73,none,.pick (.t 69) (.t 72) (.c .ff)⟩,⟨some 74,none,.mv (.t 73)⟩,⟨some 75,some (74,true),.fa 5 1 (.t 1)⟩,⟨some 76,some (74,true),.ld 1 false (.t 75)⟩,⟨some 77,some (74,true),.cmp .eql (.t 76) (.c (.lit .i64 0))⟩,⟨some 78,none,.pick (.t 74) (.t 77) (.c .ff)⟩,⟨some 4,none,.mv (.t 78)⟩])))
  (.seq (.seq (.reg [0,1,3,54,4,85,2] [⟨some 79,none,.mv (.t 4)⟩,⟨some 80,none,.not (.t 79)⟩,⟨some 81,none,.mv (.t 80)⟩,⟨some 82,some (81,false),.ld 354 true (.t 1)⟩,⟨some 83,some (81,false),.call 125 true [((.t 82),.v)]⟩,⟨some 84,some (81,false),.not (.t 83)⟩,⟨some 85,none,.pick (.t 81) (.c .tt) (.t 84)⟩])
  (.cond (.t 85)
    (.seq (.reg [0,1,3,54,4,85,2] [⟨some 2,none,.mv (.c (.lit .i64 3))⟩])
    .ret)
    .skip))
  (.seq (.reg [0,1,3,54,4,85,2] [⟨some 2,none,.mv (.c (.lit .i64 0))⟩])
  .ret))))))⟩
/- 57 cloister/cloisterref09.Right -/
def ic57 : IFn := ⟨1,116,[.t 2],
  (.seq (.reg [0,1,3,44,46,74,82,5,84,6,93,102,4,113,2] [⟨some 1,none,.box (.t 0)⟩,⟨some 2,none,.mv (.c .ff)⟩])
  (.seq (.reg [0,1,3,44,46,74,82,5,84,6,93,102,4,113,2] [⟨some 7,none,.fa 0 1 (.t 1)⟩,⟨some 8,none,.ld 1 false (.t 7)⟩,⟨some 3,none,.mv (.t 8)⟩])
  (.seq (.seq (.reg [0,1,3,44,46,74,82,5,84,6,93,102,4,113,2] [⟨some 9,none,.mv (.t 3)⟩,⟨some 10,none,.cmp .lss (.t 9) (.c (.lit .i64 0))⟩,⟨some 11,none,.mv (.t 10)⟩,⟨some 12,some (11,false),.mv (.t 3)⟩,⟨some 13,some (11,false),.cmp .gtr (.t 12) (.c (.lit .i64 3))⟩,⟨some 14,none,.pick (.t 11) (.c .tt) (.t 13)⟩,⟨some 15,none,.mv (.t 14)⟩,⟨some 16,some (15,false),.fa 1 1 (.t 1)⟩,⟨some 17,some (15,false),.ld 1 false (.t 16)⟩,⟨some 18,some (15,false),.cmp .lss (.t 17) (.c (.lit .i64 1))⟩,⟨some 19,none,.pick (.t 15) (.c .tt) (.t 18)⟩,⟨some 20,none,.mv (.t 19)⟩,⟨some 21,some (20,false),.fa 1 1 (.t 1)⟩,⟨some 22,some (20,false),.ld 1 false (.t 21)⟩,⟨some 23,some (20,false),.cmp .gtr (.t 22) (.c (.lit .i64 255))⟩,⟨some 24,none,.pick (.t 20) (.c .tt) (.t 23)⟩,⟨some 25,none,.mv (.t 24)⟩,⟨some 26,some (25,false),.fa 3 1 (.t 1)⟩,⟨some 27,some (25,false),.ld 1 false (.t 26)⟩,⟨some 28,some (25,false),.cmp .lss (.t 27) (.c (.lit .u64 1))⟩,⟨some 29,none,.pick (.t 25) (.c .tt) (.t 28)⟩,⟨some 30,none,.mv (.t 29)⟩,⟨some 31,some (30,false),.fa 3 1 (.t 1)⟩,⟨some 32,some (30,false),.ld 1 false (.t 31)⟩,⟨some 33,some (30,false),.cmp .gtr (.t 32) (.c (.lit .u64 281474976710655))⟩,⟨some 34,none,.pick (.t 30) (.c .tt) (.t 33)⟩,⟨some 35,none,.mv (.t 34)⟩,⟨some 36,some (35,false),.fa 4 1 (.t 1)⟩,⟨some 37,some (35,false),.ld 1 false (.t 36)⟩,⟨some 38,some (35,false),.cmp .lss (.t 37) (.c (.lit .i64 72))⟩,⟨some 39,none,.pick (.t 35) (.c .tt) (.t 38)⟩,⟨some 40,none,.mv (.t 39)⟩,⟨some 41,some (40,false),.fa 4 1 (.t 1)⟩,⟨some 42,some (40,false),.ld 1 false (.t 41)⟩,⟨some 43,some (40,false),.cmp .gtr (.t 42) (.c (.lit .i64 256))⟩,⟨some 44,none,.pick (.t 40) (.c .tt) (.t 43)⟩])
  (.cond (.t 44)
    (.seq (.reg [0,1,3,44,46,74,82,5,84,6,93,102,4,113,2] [⟨some 2,none,.mv (.c .ff)⟩])
    .ret)
    .skip))
  (.seq (.seq (.reg [0,1,3,44,46,74,82,5,84,6,93,102,4,113,2] [⟨some 45,none,.mv (.t 3)⟩,⟨some 46,none,.cmp .eql (.t 45) (.c (.lit .i64 1))⟩])
  (.cond (.t 46)
    (.seq (.dreg [0,1,3,44,46,74,82,5,84,6,93,102,4,113,2] [⟨⟨some 47,none,.fa 2 1 (.t 1)⟩,[],[],none⟩,⟨⟨some 48,none,.ld 1 false (.t 47)⟩,[],[],none⟩,⟨⟨some 49,none,.cmp .lss (.t 48) (.c (.lit .i64 1))⟩,[],[],none⟩,⟨⟨some 50,none,.mv (.t 49)⟩,[],[],none⟩,⟨⟨some 51,some (50,false),.fa 2 1 (.t 1)⟩,[],[],none⟩,⟨⟨some 52,some (50,false),.ld 1 false (.t 51)⟩,[],[],none⟩,⟨⟨some 53,some (50,false),.cmp .gtr (.t 52) (.c (.lit .i64 255))⟩,[],[],none⟩,⟨⟨some 54,none,.pick (.t 50) (.c .tt) (.t 53)⟩,[],[],none⟩,⟨⟨some 55,none,.mv (.t 54)⟩,[],[],none⟩,⟨⟨some 56,some (55,false),.fa 2 1 (.t 1)⟩,[],[],none⟩,⟨⟨some 57,some (55,false),.ld 1 false (.t 56)⟩,[],[],none⟩,⟨⟨some 58,some (55,false),.fa 1 1 (.t 1)⟩,[],[],none⟩,⟨⟨some 59,some (55,false),.ld 1 false (.t 58)⟩,[],[],none⟩,⟨⟨some 60,some (55,false),.cmp .eql (.t 57) (.t 59)⟩,[],[],none⟩,⟨⟨some 61,none,.pick (.t 55) (.c .tt) (.t 60)⟩,[],[],none⟩,⟨⟨some 62,none,.mv (.t 61)⟩,[],[],none⟩,⟨⟨some 63,some (62,false),.fa 5 1 (.t 1)⟩,[],[],none⟩,⟨⟨some 64,some (62,false),.ld 1 false (.t 63)⟩,[],[],none⟩,⟨⟨some 65,some (62,false),.cmp .lss (.t 64) (.c (.lit .i64 0))⟩,[],[],none⟩,⟨⟨some 66,none,.pick (.t 62) (.c .tt) (.t 65)⟩,[],[],none⟩,⟨⟨some 67,none,.mv (.t 66)⟩,[],[],none⟩,⟨⟨some 68,some (67,false),.fa 5 1 (.t 1)⟩,[72,10072,20072,30072,40072,50072,60072,70072,80072,90072],[],none⟩,⟨⟨some 69,some (67,false),.ld 1 false (.t 68)⟩,[72,10072,20072,30072,40072,50072,60072,70072,80072,90072],[],none⟩,⟨⟨some 70,some (67,false),.fa 4 1 (.t 1)⟩,[],[],none⟩,⟨⟨some 71,some (67,false),.ld 1 false (.t 70)⟩,[],[],none⟩,⟨⟨some 72,some (67,false),.call 59 true [((.t 71),.v)]⟩,[],[],none⟩,⟨⟨some 73,some (67,false),.cmp .gtr (.t 69) (.t 72)⟩,[],[],none⟩,⟨⟨some 74,none,.pick (.t 67) (.c .tt) (.t 73)⟩,[],[],none⟩])
    (.cond (.t 74)
      (.seq (.reg [0,1,3,44,46,74,82,5,84,6,93,102,4,113,2] [⟨some 2,none,.mv (.c .ff)⟩])
      .ret)
      .skip))
    (.seq (.reg [0,1,3,44,46,74,82,5,84,6,93,102,4,113,2] [⟨some 75,none,.fa 2 1 (.t 1)⟩,⟨some 76,none,.ld 1 false (.t 75)⟩,⟨some 77,none,.cmp .neq (.t 76) (.c (.lit .i64 0))⟩,⟨some 78,none,.mv (.t 77)⟩,⟨some 79,some (78,false),.fa 5 1 (.t 1)⟩,⟨some 80,some (78,false),.ld 1 false (.t 79)⟩,⟨some 81,some (78,false),.cmp .neq (.t 80) (.c (.lit .i64 0))⟩,⟨some 82,none,.pick (.t 78) (.c .tt) (.t 81)⟩])
    (.cond (.t 82)
      (.seq (.reg [0,1,3,44,46,74,82,5,84,6,93,102,4,113,2] [⟨some 2,none,.mv (.c .ff)⟩])
      .ret)
      .skip))))
  (.seq (.reg [0,1,3,44,46,74,82,5,84,6,93,102,4,113,2] [⟨some 4,none,.mv (.c (.lit .i64 0))⟩])
  (.seq (.seq (.reg [0,1,3,44,46,74,82,5,84,6,93,102,4,113,2] [⟨some 5,none,.mv (.c (.lit .i64 0))⟩])
  (.block 0 (.loop 0 (.seq (.seq (.reg [0,1,3,44,46,74,82,5,84,6,93,102,4,113,2] [⟨some 83,none,.mv (.t 5)⟩,⟨some 84,none,.cmp .lss (.t 83) (.c (.lit .i64 4))⟩])
   (.cond (.t 84)
     .skip
     (.exit 0)))
   (.seq (.block 1 (.seq (.reg [0,1,3,44,46,74,82,5,84,6,93,102,4,113,2] [⟨some 87,none,.mv (.t 5)⟩,⟨some 88,none,.fa 54 300 (.t 1)⟩,⟨some 89,none,.iaA 4 75 (.t 88) (.t 87)⟩,⟨some 90,none,.ld 75 true (.t 89)⟩,⟨some 6,none,.alloc (.cat 1 74 (.v .ff) (.cat 1 73 (.v (.lit .i64 0)) (.cat 1 72 (.v (.lit .i64 0)) (.cat 16 56 (.ints .u8 16) (.cat 32 24 (.ints .u8 32) (.ints .u8 24))))))⟩,⟨none,none,.st 75 (.t 6) (.t 90)⟩])
   (.seq (.seq (.reg [0,1,3,44,46,74,82,5,84,6,93,102,4,113,2] [⟨some 91,none,.ld 75 true (.t 6)⟩,⟨some 92,none,.call 91 true [((.t 91),.v)]⟩,⟨some 93,none,.not (.t 92)⟩])
   (.cond (.t 93)
     (.seq (.reg [0,1,3,44,46,74,82,5,84,6,93,102,4,113,2] [⟨some 2,none,.mv (.c .ff)⟩])
     .ret)
     .skip))
   (.seq (.reg [0,1,3,44,46,74,82,5,84,6,93,102,4,113,2] [⟨some 94,none,.fa 0 1 (.t 6)⟩,⟨some 95,none,.ld 1 false (.t 94)⟩,⟨some 96,none,.mv (.t 95)⟩,⟨some 97,some (96,true),.fa 1 1 (.t 6)⟩,⟨some 98,some (96,true),.ld 1 false (.t 97)⟩,⟨some 99,some (96,true),.fa 1 1 (.t 1)⟩,⟨some 100,some (96,true),.ld 1 false (.t 99)⟩,⟨some 101,some (96,true),.cmp .eql (.t 98) (.t 100)⟩,⟨some 102,none,.pick (.t 96) (.t 101) (.c .ff)⟩])
   (.cond (.t 102)
     (.reg [0,1,3,44,46,74,82,5,84,6,93,102,4,113,2] [⟨some 103,none,.mv (.t 4)⟩,⟨some 104,none,.ar .add .i64 (.t 103) (.c (.lit .i64 1))⟩,⟨some 4,none,.mv (.t 104)⟩])
     (.seq (.reg [0,1,3,44,46,74,82,5,84,6,93,102,4,113,2] [⟨some 105,none,.fa 0 1 (.t 6)⟩,⟨some 106,none,.ld 1 false (.t 105)⟩,⟨some 107,none,.mv (.t 106)⟩,⟨some 108,some (107,true),.fa 1 1 (.t 6)⟩,⟨some 109,some (107,true),.ld 1 false (.t 108)⟩,⟨some 110,some (107,true),.fa 2 1 (.t 1)⟩,⟨some 111,some (107,true),.ld 1 false (.t 110)⟩,⟨some 112,some (107,true),.cmp .neq (.t 109) (.t 111)⟩,⟨some 113,none,.pick (.t 107) (.t 112) (.c .ff)⟩])
     (.cond (.t 113)
       (.seq (.reg [0,1,3,44,46,74,82,5,84,6,93,102,4,113,2] [⟨some 2,none,.mv (.c .ff)⟩])
       .ret)
       .skip)))))))
   (.reg [0,1,3,44,46,74,82,5,84,6,93,102,4,113,2] [⟨some 85,none,.mv (.t 5)⟩,⟨some 86,none,.ar .add .i64 (.t 85) (.c (.lit .i64 1))⟩,⟨some 5,none,.mv (.t 86)⟩]))))))
  (.seq (.reg [0,1,3,44,46,74,82,5,84,6,93,102,4,113,2] [⟨some 114,none,.mv (.t 4)⟩,⟨some 115,none,.cmp .gtr (.t 114) (.c (.lit .i64 0))⟩,⟨some 2,none,.mv (.t 115)⟩])
  .ret)))))))⟩
/- 58 cloister/super.Homes -/
def ic58 : IFn := ⟨1,7,[.t 2],
  (.seq (.reg [0,2] [⟨some 2,none,.mv (.c (.lit .i64 0))⟩])
  (.seq (.reg [0,2] [⟨some 3,none,.mv (.t 0)⟩,⟨some 4,none,.ar .sub .i64 (.t 3) (.c (.lit .i64 2))⟩,⟨some 5,none,.ar .sub .i64 (.t 4) (.c (.lit .i64 34))⟩,⟨some 6,none,.max2 (.c (.lit .i64 0)) (.t 5)⟩,⟨some 2,none,.mv (.t 6)⟩])
  .ret))⟩
/- 59 cloister/cloisterref09.Homes -/
def ic59 : IFn := ⟨1,6,[.t 2],
  (.seq (.reg [0,2] [⟨some 2,none,.mv (.c (.lit .i64 0))⟩])
  (.seq (.reg [0,2] [⟨some 3,none,.mv (.t 0)⟩,⟨some 4,none,.ar .sub .i64 (.t 3) (.c (.lit .i64 36))⟩,⟨some 5,none,.max2 (.c (.lit .i64 0)) (.t 4)⟩,⟨some 2,none,.mv (.t 5)⟩])
  .ret))⟩
/- 60 cloister/super.Decode -/
def ic60 : IFn := ⟨1,98,[.cell 2 354 true,.t 3],
  (.seq (.reg [0,13,2,4,7,60,61,9,10,70,8,5,6,95,3] [⟨some 2,none,.alloc (.cat 1 353 (.v (.lit .i64 0)) (.cat 1 352 (.v (.lit .i64 0)) (.cat 1 351 (.v (.lit .i64 0)) (.cat 1 350 (.v (.lit .u64 0)) (.cat 1 349 (.v (.lit .i64 0)) (.cat 1 348 (.v (.lit .i64 0)) (.cat 32 316 (.ints .u8 32) (.cat 16 300 (.ints .u8 16) (.rows 75 4 (.cat 1 74 (.v .ff) (.cat 1 73 (.v (.lit .i64 0)) (.cat 1 72 (.v (.lit .i64 0)) (.cat 16 56 (.ints .u8 16) (.cat 32 24 (.ints .u8 32) (.ints .u8 24)))))))))))))))⟩,⟨some 3,none,.mv (.c (.lit .i64 0))⟩])
  (.seq (.seq (.reg [0,13,2,4,7,60,61,9,10,70,8,5,6,95,3] [⟨some 11,none,.mv (.t 0)⟩,⟨some 12,none,.lenS (.t 11)⟩,⟨some 13,none,.cmp .neq (.t 12) (.c (.lit .i64 512))⟩])
  (.cond (.t 13)
    (.seq (.reg [0,13,2,4,7,60,61,9,10,70,8,5,6,95,3] [⟨some 14,none,.bldS (.cat 1 353 (.v (.lit .i64 0)) (.cat 1 352 (.v (.lit .i64 0)) (.cat 1 351 (.v (.lit .i64 0)) (.cat 1 350 (.v (.lit .u64 0)) (.cat 1 349 (.v (.lit .i64 0)) (.cat 1 348 (.v (.lit .i64 0)) (.cat 32 316 (.ints .u8 32) (.cat 16 300 (.ints .u8 16) (.rows 75 4 (.cat 1 74 (.v .ff) (.cat 1 73 (.v (.lit .i64 0)) (.cat 1 72 (.v (.lit .i64 0)) (.cat 16 56 (.ints .u8 16) (.cat 32 24 (.ints .u8 32) (.ints .u8 24))))))))))))))) []⟩,⟨none,none,.st 354 (.t 2) (.t 14)⟩,⟨some 3,none,.mv (.c (.lit .i64 12))⟩])
    .ret)
    .skip))
  (.seq (.reg [0,13,2,4,7,60,61,9,10,70,8,5,6,95,3] [⟨some 15,none,.mv (.t 0)⟩,⟨some 16,none,.slS 1 (.t 15) none (some (.c (.lit .i64 480))) none⟩,⟨some 17,none,.call 95 true [((.t 16),.b (.i .u8))]⟩,⟨some 4,none,.mv (.t 17)⟩])
  (.seq (.dreg [0,13,2,4,7,60,61,9,10,70,8,5,6,95,3] [⟨⟨some 18,none,.mv (.t 4)⟩,[],[],none⟩,⟨⟨some 19,none,.call 98 false [((.t 18),.v),((.c (.lit .i64 8)),.v)]⟩,[],[],none⟩,⟨⟨some 20,none,.b2s (.t 19)⟩,[22,10022,20022,30022,40022,50022,60022,70022,80022,90022,22,10022,20022,30022,40022,50022,60022,70022,80022,90022],[4],none⟩,⟨⟨some 21,none,.mv (.t 4)⟩,[19,10019,20019,30019,40019,50019,60019,70019,80019,90019],[],none⟩,⟨⟨some 22,none,.call 96 false [((.t 21),.v),((.c (.lit .i64 1)),.v)]⟩,[],[],some ([22,10022,20022,30022,40022,50022,60022,70022,80022,90022],[4])⟩,⟨⟨some 5,none,.mv (.t 20)⟩,[],[],none⟩,⟨⟨some 6,none,.mv (.t 22)⟩,[],[],none⟩])
  (.seq (.reg [0,13,2,4,7,60,61,9,10,70,8,5,6,95,3] [⟨some 23,none,.mv (.t 4)⟩,⟨some 24,none,.call 96 false [((.t 23),.v),((.c (.lit .i64 1)),.v)]⟩,⟨some 25,none,.cv .i64 (.t 24)⟩,⟨some 26,none,.mv (.t 4)⟩,⟨some 27,none,.call 96 false [((.t 26),.v),((.c (.lit .i64 1)),.v)]⟩,⟨some 28,none,.cv .i64 (.t 27)⟩,⟨some 29,none,.mv (.t 4)⟩,⟨some 30,none,.call 96 false [((.t 29),.v),((.c (.lit .i64 1)),.v)]⟩,⟨some 31,none,.cv .i64 (.t 30)⟩,⟨some 32,none,.bldS (.cat 1 353 (.v (.lit .i64 0)) (.cat 1 352 (.v (.lit .i64 0)) (.cat 1 351 (.v (.lit .i64 0)) (.cat 1 350 (.v (.lit .u64 0)) (.cat 1 349 (.v (.lit .i64 0)) (.cat 1 348 (.v (.lit .i64 0)) (.cat 32 316 (.ints .u8 32) (.cat 16 300 (.ints .u8 16) (.rows 75 4 (.cat 1 74 (.v .ff) (.cat 1 73 (.v (.lit .i64 0)) (.cat 1 72 (.v (.lit .i64 0)) (.cat 16 56 (.ints .u8 16) (.cat 32 24 (.ints .u8 32) (.ints .u8 24))))))))))))))) [(0,1,(.t 25)),(1,1,(.t 28)),(2,1,(.t 31))]⟩,⟨some 7,none,.alloc (.cat 1 353 (.v (.lit .i64 0)) (.cat 1 352 (.v (.lit .i64 0)) (.cat 1 351 (.v (.lit .i64 0)) (.cat 1 350 (.v (.lit .u64 0)) (.cat 1 349 (.v (.lit .i64 0)) (.cat 1 348 (.v (.lit .i64 0)) (.cat 32 316 (.ints .u8 32) (.cat 16 300 (.ints .u8 16) (.rows 75 4 (.cat 1 74 (.v .ff) (.cat 1 73 (.v (.lit .i64 0)) (.cat 1 72 (.v (.lit .i64 0)) (.cat 16 56 (.ints .u8 16) (.cat 32 24 (.ints .u8 32) (.ints .u8 24)))))))))))))))⟩,⟨none,none,.st 354 (.t 7) (.t 32)⟩])
  (.seq (.reg [0,13,2,4,7,60,61,9,10,70,8,5,6,95,3] [⟨some 33,none,.mv (.t 4)⟩,⟨some 34,none,.call 97 false [((.t 33),.v),((.c (.lit .i64 4)),.v)]⟩])
  (.seq (.reg [0,13,2,4,7,60,61,9,10,70,8,5,6,95,3] [⟨some 35,none,.mv (.t 4)⟩,⟨some 36,none,.call 96 false [((.t 35),.v),((.c (.lit .i64 8)),.v)]⟩,⟨some 37,none,.mv (.t 4)⟩,⟨some 38,none,.call 96 false [((.t 37),.v),((.c (.lit .i64 8)),.v)]⟩,⟨some 39,none,.call 126 true [((.t 38),.v)]⟩,⟨some 40,none,.mv (.t 4)⟩,⟨some 41,none,.call 96 false [((.t 40),.v),((.c (.lit .i64 8)),.v)]⟩,⟨some 42,none,.call 126 true [((.t 41),.v)]⟩,⟨some 43,none,.fa 3 1 (.t 7)⟩,⟨none,none,.st 1 (.t 43) (.t 36)⟩,⟨some 44,none,.fa 4 1 (.t 7)⟩,⟨none,none,.st 1 (.t 44) (.t 39)⟩,⟨some 45,none,.fa 5 1 (.t 7)⟩,⟨none,none,.st 1 (.t 45) (.t 42)⟩])
  (.seq (.reg [0,13,2,4,7,60,61,9,10,70,8,5,6,95,3] [⟨some 46,none,.mv (.t 4)⟩,⟨some 47,none,.call 97 false [((.t 46),.v),((.c (.lit .i64 16)),.v)]⟩])
  (.seq (.dreg [0,13,2,4,7,60,61,9,10,70,8,5,6,95,3] [⟨⟨some 48,none,.fa 6 32 (.t 7)⟩,[51,10051,20051,30051,40051,50051,60051,70051,80051,90051],[],none⟩,⟨⟨some 49,none,.slA 32 1 (.t 48) none none⟩,[51,10051,20051,30051,40051,50051,60051,70051,80051,90051,51,10051,20051,30051,40051,50051,60051,70051,80051,90051],[4],none⟩,⟨⟨some 50,none,.mv (.t 4)⟩,[],[],none⟩,⟨⟨some 51,none,.call 98 false [((.t 50),.v),((.c (.lit .i64 32)),.v)]⟩,[],[],some ([51,10051,20051,30051,40051,50051,60051,70051,80051,90051],[4])⟩,⟨⟨some 52,none,.cpy (.i .u8) (.t 49) (.t 51)⟩,[],[],none⟩])
  (.seq (.dreg [0,13,2,4,7,60,61,9,10,70,8,5,6,95,3] [⟨⟨some 53,none,.fa 38 16 (.t 7)⟩,[56,10056,20056,30056,40056,50056,60056,70056,80056,90056],[],none⟩,⟨⟨some 54,none,.slA 16 1 (.t 53) none none⟩,[56,10056,20056,30056,40056,50056,60056,70056,80056,90056,56,10056,20056,30056,40056,50056,60056,70056,80056,90056],[4],none⟩,⟨⟨some 55,none,.mv (.t 4)⟩,[],[],none⟩,⟨⟨some 56,none,.call 98 false [((.t 55),.v),((.c (.lit .i64 16)),.v)]⟩,[],[],some ([56,10056,20056,30056,40056,50056,60056,70056,80056,90056],[4])⟩,⟨⟨some 57,none,.cpy (.i .u8) (.t 54) (.t 56)⟩,[],[],none⟩])
  (.seq (.reg [0,13,2,4,7,60,61,9,10,70,8,5,6,95,3] [⟨some 58,none,.mv (.t 4)⟩,⟨some 59,none,.call 97 false [((.t 58),.v),((.c (.lit .i64 24)),.v)]⟩])
  (.seq (.seq (.reg [0,13,2,4,7,60,61,9,10,70,8,5,6,95,3] [⟨some 60,none,.mv (.c (.lit .i64 0))⟩])
  (.block 0 (.loop 0 (.seq (.reg [0,13,2,4,7,60,61,9,10,70,8,5,6,95,3] [⟨some 61,none,.cmp .lss (.t 60) (.c (.lit .i64 4))⟩])
   (.seq (.cond (.t 61)
     .skip
     (.exit 0))
   (.seq (.block 1 (.seq (.reg [0,13,2,4,7,60,61,9,10,70,8,5,6,95,3] [⟨some 62,none,.mv (.t 60)⟩,⟨some 8,none,.mv (.t 62)⟩])
   (.seq (.reg [0,13,2,4,7,60,61,9,10,70,8,5,6,95,3] [⟨some 64,none,.mv (.t 4)⟩,⟨some 65,none,.call 98 false [((.t 64),.v),((.c (.lit .i64 80)),.v)]⟩,⟨some 66,none,.call 42 true [((.t 65),.b (.i .u8))]⟩,⟨some 63,none,.mv (.t 66)⟩,⟨some 67,none,.ext 0 (.t 63)⟩,⟨some 68,none,.ext 1 (.t 63)⟩,⟨some 9,none,.alloc (.cat 1 74 (.v .ff) (.cat 1 73 (.v (.lit .i64 0)) (.cat 1 72 (.v (.lit .i64 0)) (.cat 16 56 (.ints .u8 16) (.cat 32 24 (.ints .u8 32) (.ints .u8 24))))))⟩,⟨none,none,.st 75 (.t 9) (.t 67)⟩,⟨some 10,none,.mv (.t 68)⟩])
   (.seq (.seq (.reg [0,13,2,4,7,60,61,9,10,70,8,5,6,95,3] [⟨some 69,none,.mv (.t 10)⟩,⟨some 70,none,.cmp .neq (.t 69) (.c (.lit .i64 0))⟩])
   (.cond (.t 70)
     (.reg [0,13,2,4,7,60,61,9,10,70,8,5,6,95,3] [⟨some 71,none,.mv (.t 4)⟩,⟨some 72,none,.call 127 false [((.t 71),.v)]⟩])
     .skip))
   (.reg [0,13,2,4,7,60,61,9,10,70,8,5,6,95,3] [⟨some 73,none,.mv (.t 8)⟩,⟨some 74,none,.ld 75 true (.t 9)⟩,⟨some 75,none,.fa 54 300 (.t 7)⟩,⟨some 76,none,.iaA 4 75 (.t 75) (.t 73)⟩,⟨none,none,.st 75 (.t 76) (.t 74)⟩])))))
   (.reg [0,13,2,4,7,60,61,9,10,70,8,5,6,95,3] [⟨some 77,none,.ar .add .i64 (.t 60) (.c (.lit .i64 1))⟩,⟨some 60,none,.mv (.t 77)⟩])))))))
  (.seq (.reg [0,13,2,4,7,60,61,9,10,70,8,5,6,95,3] [⟨some 78,none,.mv (.t 4)⟩,⟨some 79,none,.call 97 false [((.t 78),.v),((.c (.lit .i64 32)),.v)]⟩])
  (.seq (.seq (.reg [0,13,2,4,7,60,61,9,10,70,8,5,6,95,3] [⟨some 80,none,.mv (.t 4)⟩,⟨some 81,none,.call 99 true [((.t 80),.v)]⟩,⟨some 82,none,.cmp .neq (.t 81) (.c (.lit .i64 0))⟩,⟨some 83,none,.mv (.t 82)⟩,⟨some 84,some (83,false),.mv (.t 5)⟩,⟨some 85,some (83,false),.eq .s true (.t 84) (.c (.str [67,76,79,73,83,84,69,82]))⟩,⟨some 86,none,.pick (.t 83) (.c .tt) (.t 85)⟩,⟨some 87,none,.mv (.t 86)⟩,⟨some 88,some (87,false),.mv (.t 6)⟩,⟨some 89,some (87,false),.cmp .neq (.t 88) (.c (.lit .u64 1))⟩,⟨some 90,none,.pick (.t 87) (.c .tt) (.t 89)⟩,⟨some 91,none,.mv (.t 90)⟩,⟨some 92,some (91,false),.ld 354 true (.t 7)⟩,⟨some 93,some (91,false),.call 56 true [((.t 92),.v)]⟩,⟨some 94,some (91,false),.cmp .neq (.t 93) (.c (.lit .i64 0))⟩,⟨some 95,none,.pick (.t 91) (.c .tt) (.t 94)⟩])
  (.cond (.t 95)
    (.seq (.reg [0,13,2,4,7,60,61,9,10,70,8,5,6,95,3] [⟨some 96,none,.bldS (.cat 1 353 (.v (.lit .i64 0)) (.cat 1 352 (.v (.lit .i64 0)) (.cat 1 351 (.v (.lit .i64 0)) (.cat 1 350 (.v (.lit .u64 0)) (.cat 1 349 (.v (.lit .i64 0)) (.cat 1 348 (.v (.lit .i64 0)) (.cat 32 316 (.ints .u8 32) (.cat 16 300 (.ints .u8 16) (.rows 75 4 (.cat 1 74 (.v .ff) (.cat 1 73 (.v (.lit .i64 0)) (.cat 1 72 (.v (.lit .i64 0)) (.cat 16 56 (.ints .u8 16) (.cat 32 24 (.ints .u8 32) (.ints .u8 24))))))))))))))) []⟩,⟨none,none,.st 354 (.t 2) (.t 96)⟩,⟨some 3,none,.mv (.c (.lit .i64 12))⟩])
    .ret)
    .skip))
  (.seq (.reg [0,13,2,4,7,60,61,9,10,70,8,5,6,95,3] [⟨some 97,none,.ld 354 true (.t 7)⟩,⟨none,none,.st 354 (.t 2) (.t 97)⟩,⟨some 3,none,.mv (.c (.lit .i64 0))⟩])
  .ret)))))))))))))))⟩
/- 61 cloister/cloisterref09.Decode -/
def ic61 : IFn := ⟨1,103,[.cell 2 354 true,.t 3],
  (.seq (.reg [0,14,2,4,5,8,51,6,62,7,9,73,10,11,83,100,3] [⟨some 2,none,.alloc (.cat 1 353 (.v (.lit .i64 0)) (.cat 1 352 (.v (.lit .i64 0)) (.cat 1 351 (.v (.lit .i64 0)) (.cat 1 350 (.v (.lit .u64 0)) (.cat 1 349 (.v (.lit .i64 0)) (.cat 1 348 (.v (.lit .i64 0)) (.cat 32 316 (.ints .u8 32) (.cat 16 300 (.ints .u8 16) (.rows 75 4 (.cat 1 74 (.v .ff) (.cat 1 73 (.v (.lit .i64 0)) (.cat 1 72 (.v (.lit .i64 0)) (.cat 16 56 (.ints .u8 16) (.cat 32 24 (.ints .u8 32) (.ints .u8 24)))))))))))))))⟩,⟨some 3,none,.mv (.c (.lit .i64 0))⟩])
  (.seq (.seq (.reg [0,14,2,4,5,8,51,6,62,7,9,73,10,11,83,100,3] [⟨some 12,none,.mv (.t 0)⟩,⟨some 13,none,.lenS (.t 12)⟩,⟨some 14,none,.cmp .neq (.t 13) (.c (.lit .i64 512))⟩])
  (.cond (.t 14)
    (.seq (.reg [0,14,2,4,5,8,51,6,62,7,9,73,10,11,83,100,3] [⟨some 15,none,.bldS (.cat 1 353 (.v (.lit .i64 0)) (.cat 1 352 (.v (.lit .i64 0)) (.cat 1 351 (.v (.lit .i64 0)) (.cat 1 350 (.v (.lit .u64 0)) (.cat 1 349 (.v (.lit .i64 0)) (.cat 1 348 (.v (.lit .i64 0)) (.cat 32 316 (.ints .u8 32) (.cat 16 300 (.ints .u8 16) (.rows 75 4 (.cat 1 74 (.v .ff) (.cat 1 73 (.v (.lit .i64 0)) (.cat 1 72 (.v (.lit .i64 0)) (.cat 16 56 (.ints .u8 16) (.cat 32 24 (.ints .u8 32) (.ints .u8 24))))))))))))))) []⟩,⟨none,none,.st 354 (.t 2) (.t 15)⟩,⟨some 3,none,.mv (.c (.lit .i64 12))⟩])
    .ret)
    .skip))
  (.seq (.reg [0,14,2,4,5,8,51,6,62,7,9,73,10,11,83,100,3] [⟨some 16,none,.mv (.t 0)⟩,⟨some 17,none,.slS 1 (.t 16) none (some (.c (.lit .i64 480))) none⟩,⟨some 18,none,.bldS (.cat 1 2 (.v .nsl) (.cat 1 1 (.v (.lit .i64 0)) (.v .ff))) [(0,1,(.t 17))]⟩,⟨some 19,none,.box (.t 18)⟩,⟨some 4,none,.mv (.t 19)⟩])
  (.seq (.reg [0,14,2,4,5,8,51,6,62,7,9,73,10,11,83,100,3] [⟨some 20,none,.mv (.t 4)⟩,⟨some 21,none,.call 103 false [((.t 20),.v),((.c (.lit .i64 9)),.v)]⟩])
  (.seq (.reg [0,14,2,4,5,8,51,6,62,7,9,73,10,11,83,100,3] [⟨some 22,none,.mv (.t 4)⟩,⟨some 23,none,.call 101 false [((.t 22),.v),((.c (.lit .i64 1)),.v)]⟩,⟨some 24,none,.mv (.t 4)⟩,⟨some 25,none,.call 101 false [((.t 24),.v),((.c (.lit .i64 1)),.v)]⟩,⟨some 26,none,.mv (.t 4)⟩,⟨some 27,none,.call 101 false [((.t 26),.v),((.c (.lit .i64 1)),.v)]⟩,⟨some 28,none,.bldS (.cat 1 353 (.v (.lit .i64 0)) (.cat 1 352 (.v (.lit .i64 0)) (.cat 1 351 (.v (.lit .i64 0)) (.cat 1 350 (.v (.lit .u64 0)) (.cat 1 349 (.v (.lit .i64 0)) (.cat 1 348 (.v (.lit .i64 0)) (.cat 32 316 (.ints .u8 32) (.cat 16 300 (.ints .u8 16) (.rows 75 4 (.cat 1 74 (.v .ff) (.cat 1 73 (.v (.lit .i64 0)) (.cat 1 72 (.v (.lit .i64 0)) (.cat 16 56 (.ints .u8 16) (.cat 32 24 (.ints .u8 32) (.ints .u8 24))))))))))))))) [(0,1,(.t 23)),(1,1,(.t 25)),(2,1,(.t 27))]⟩,⟨some 5,none,.alloc (.cat 1 353 (.v (.lit .i64 0)) (.cat 1 352 (.v (.lit .i64 0)) (.cat 1 351 (.v (.lit .i64 0)) (.cat 1 350 (.v (.lit .u64 0)) (.cat 1 349 (.v (.lit .i64 0)) (.cat 1 348 (.v (.lit .i64 0)) (.cat 32 316 (.ints .u8 32) (.cat 16 300 (.ints .u8 16) (.rows 75 4 (.cat 1 74 (.v .ff) (.cat 1 73 (.v (.lit .i64 0)) (.cat 1 72 (.v (.lit .i64 0)) (.cat 16 56 (.ints .u8 16) (.cat 32 24 (.ints .u8 32) (.ints .u8 24)))))))))))))))⟩,⟨none,none,.st 354 (.t 5) (.t 28)⟩])
  (.seq (.reg [0,14,2,4,5,8,51,6,62,7,9,73,10,11,83,100,3] [⟨some 29,none,.mv (.t 4)⟩,⟨some 30,none,.call 103 false [((.t 29),.v),((.c (.lit .i64 4)),.v)]⟩])
  (.seq (.reg [0,14,2,4,5,8,51,6,62,7,9,73,10,11,83,100,3] [⟨some 31,none,.mv (.t 4)⟩,⟨some 32,none,.call 100 false [((.t 31),.v),((.c (.lit .i64 8)),.v)]⟩,⟨some 33,none,.fa 3 1 (.t 5)⟩,⟨none,none,.st 1 (.t 33) (.t 32)⟩])
  (.seq (.reg [0,14,2,4,5,8,51,6,62,7,9,73,10,11,83,100,3] [⟨some 34,none,.mv (.t 4)⟩,⟨some 35,none,.call 100 false [((.t 34),.v),((.c (.lit .i64 8)),.v)]⟩,⟨some 36,none,.min2 (.t 35) (.c (.lit .u64 1000))⟩,⟨some 37,none,.cv .i64 (.t 36)⟩,⟨some 38,none,.fa 4 1 (.t 5)⟩,⟨none,none,.st 1 (.t 38) (.t 37)⟩])
  (.seq (.reg [0,14,2,4,5,8,51,6,62,7,9,73,10,11,83,100,3] [⟨some 39,none,.mv (.t 4)⟩,⟨some 40,none,.call 100 false [((.t 39),.v),((.c (.lit .i64 8)),.v)]⟩,⟨some 41,none,.min2 (.t 40) (.c (.lit .u64 1000))⟩,⟨some 42,none,.cv .i64 (.t 41)⟩,⟨some 43,none,.fa 5 1 (.t 5)⟩,⟨none,none,.st 1 (.t 43) (.t 42)⟩])
  (.seq (.reg [0,14,2,4,5,8,51,6,62,7,9,73,10,11,83,100,3] [⟨some 44,none,.mv (.t 4)⟩,⟨some 45,none,.call 103 false [((.t 44),.v),((.c (.lit .i64 16)),.v)]⟩])
  (.seq (.reg [0,14,2,4,5,8,51,6,62,7,9,73,10,11,83,100,3] [⟨some 46,none,.mv (.t 4)⟩,⟨some 47,none,.call 103 false [((.t 46),.v),((.c (.lit .i64 32)),.v)]⟩,⟨some 6,none,.mv (.t 47)⟩])
  (.seq (.reg [0,14,2,4,5,8,51,6,62,7,9,73,10,11,83,100,3] [⟨some 48,none,.mv (.t 4)⟩,⟨some 49,none,.call 103 false [((.t 48),.v),((.c (.lit .i64 16)),.v)]⟩,⟨some 7,none,.mv (.t 49)⟩])
  (.seq (.seq (.reg [0,14,2,4,5,8,51,6,62,7,9,73,10,11,83,100,3] [⟨some 8,none,.mv (.c (.lit .i64 0))⟩])
  (.block 0 (.loop 0 (.seq (.seq (.reg [0,14,2,4,5,8,51,6,62,7,9,73,10,11,83,100,3] [⟨some 50,none,.mv (.t 8)⟩,⟨some 51,none,.cmp .lss (.t 50) (.c (.lit .i64 32))⟩])
   (.cond (.t 51)
     .skip
     (.exit 0)))
   (.seq (.block 1 (.seq (.reg [0,14,2,4,5,8,51,6,62,7,9,73,10,11,83,100,3] [⟨some 54,none,.mv (.t 8)⟩,⟨some 55,none,.mv (.t 6)⟩,⟨some 56,none,.mv (.t 8)⟩,⟨some 57,none,.iaS 1 (.t 55) (.t 56)⟩,⟨some 58,none,.ld 1 false (.t 57)⟩,⟨some 59,none,.fa 6 32 (.t 5)⟩,⟨some 60,none,.iaA 32 1 (.t 59) (.t 54)⟩,⟨none,none,.st 1 (.t 60) (.t 58)⟩])
   (.seq (.reg [0,14,2,4,5,8,51,6,62,7,9,73,10,11,83,100,3] [⟨some 61,none,.mv (.t 8)⟩,⟨some 62,none,.cmp .lss (.t 61) (.c (.lit .i64 16))⟩])
   (.cond (.t 62)
     (.reg [0,14,2,4,5,8,51,6,62,7,9,73,10,11,83,100,3] [⟨some 63,none,.mv (.t 8)⟩,⟨some 64,none,.mv (.t 7)⟩,⟨some 65,none,.mv (.t 8)⟩,⟨some 66,none,.iaS 1 (.t 64) (.t 65)⟩,⟨some 67,none,.ld 1 false (.t 66)⟩,⟨some 68,none,.fa 38 16 (.t 5)⟩,⟨some 69,none,.iaA 16 1 (.t 68) (.t 63)⟩,⟨none,none,.st 1 (.t 69) (.t 67)⟩])
     .skip))))
   (.reg [0,14,2,4,5,8,51,6,62,7,9,73,10,11,83,100,3] [⟨some 52,none,.mv (.t 8)⟩,⟨some 53,none,.ar .add .i64 (.t 52) (.c (.lit .i64 1))⟩,⟨some 8,none,.mv (.t 53)⟩]))))))
  (.seq (.reg [0,14,2,4,5,8,51,6,62,7,9,73,10,11,83,100,3] [⟨some 70,none,.mv (.t 4)⟩,⟨some 71,none,.call 103 false [((.t 70),.v),((.c (.lit .i64 24)),.v)]⟩])
  (.seq (.seq (.reg [0,14,2,4,5,8,51,6,62,7,9,73,10,11,83,100,3] [⟨some 9,none,.mv (.c (.lit .i64 0))⟩])
  (.block 2 (.loop 1 (.seq (.seq (.reg [0,14,2,4,5,8,51,6,62,7,9,73,10,11,83,100,3] [⟨some 72,none,.mv (.t 9)⟩,⟨some 73,none,.cmp .lss (.t 72) (.c (.lit .i64 4))⟩])
   (.cond (.t 73)
     .skip
     (.exit 2)))
   (.seq (.block 3 (.seq (.reg [0,14,2,4,5,8,51,6,62,7,9,73,10,11,83,100,3] [⟨some 77,none,.mv (.t 4)⟩,⟨some 78,none,.call 103 false [((.t 77),.v),((.c (.lit .i64 80)),.v)]⟩,⟨some 79,none,.call 43 true [((.t 78),.v)]⟩,⟨some 76,none,.mv (.t 79)⟩,⟨some 80,none,.ext 0 (.t 76)⟩,⟨some 81,none,.ext 1 (.t 76)⟩,⟨some 10,none,.alloc (.cat 1 74 (.v .ff) (.cat 1 73 (.v (.lit .i64 0)) (.cat 1 72 (.v (.lit .i64 0)) (.cat 16 56 (.ints .u8 16) (.cat 32 24 (.ints .u8 32) (.ints .u8 24))))))⟩,⟨none,none,.st 75 (.t 10) (.t 80)⟩,⟨some 11,none,.mv (.t 81)⟩])
   (.seq (.seq (.reg [0,14,2,4,5,8,51,6,62,7,9,73,10,11,83,100,3] [⟨some 82,none,.mv (.t 11)⟩,⟨some 83,none,.cmp .neq (.t 82) (.c (.lit .i64 0))⟩])
   (.cond (.t 83)
     (.seq (.reg [0,14,2,4,5,8,51,6,62,7,9,73,10,11,83,100,3] [⟨some 84,none,.bldS (.cat 1 353 (.v (.lit .i64 0)) (.cat 1 352 (.v (.lit .i64 0)) (.cat 1 351 (.v (.lit .i64 0)) (.cat 1 350 (.v (.lit .u64 0)) (.cat 1 349 (.v (.lit .i64 0)) (.cat 1 348 (.v (.lit .i64 0)) (.cat 32 316 (.ints .u8 32) (.cat 16 300 (.ints .u8 16) (.rows 75 4 (.cat 1 74 (.v .ff) (.cat 1 73 (.v (.lit .i64 0)) (.cat 1 72 (.v (.lit .i64 0)) (.cat 16 56 (.ints .u8 16) (.cat 32 24 (.ints .u8 32) (.ints .u8 24))))))))))))))) []⟩,⟨none,none,.st 354 (.t 2) (.t 84)⟩,⟨some 3,none,.mv (.c (.lit .i64 12))⟩])
     .ret)
     .skip))
   (.reg [0,14,2,4,5,8,51,6,62,7,9,73,10,11,83,100,3] [⟨some 85,none,.mv (.t 9)⟩,⟨some 86,none,.ld 75 true (.t 10)⟩,⟨some 87,none,.fa 54 300 (.t 5)⟩,⟨some 88,none,.iaA 4 75 (.t 87) (.t 85)⟩,⟨none,none,.st 75 (.t 88) (.t 86)⟩]))))
   (.reg [0,14,2,4,5,8,51,6,62,7,9,73,10,11,83,100,3] [⟨some 74,none,.mv (.t 9)⟩,⟨some 75,none,.ar .add .i64 (.t 74) (.c (.lit .i64 1))⟩,⟨some 9,none,.mv (.t 75)⟩]))))))
  (.seq (.seq (.dreg [0,14,2,4,5,8,51,6,62,7,9,73,10,11,83,100,3] [⟨⟨some 89,none,.ld 354 true (.t 5)⟩,[],[],none⟩,⟨⟨some 90,none,.call 57 true [((.t 89),.v)]⟩,[],[],none⟩,⟨⟨some 91,none,.not (.t 90)⟩,[],[],none⟩,⟨⟨some 92,none,.mv (.t 91)⟩,[],[],none⟩,⟨⟨some 93,some (92,false),.ld 354 true (.t 5)⟩,[],[],none⟩,⟨⟨some 94,some (92,false),.call 121 true [((.t 93),.v)]⟩,[],[],none⟩,⟨⟨some 95,some (92,false),.b2s (.t 94)⟩,[],[],none⟩,⟨⟨some 96,some (92,false),.mv (.t 0)⟩,[94,10094,20094,30094,40094,50094,60094,70094,80094,90094],[],none⟩,⟨⟨some 97,some (92,false),.slS 1 (.t 96) none (some (.c (.lit .i64 480))) none⟩,[94,10094,20094,30094,40094,50094,60094,70094,80094,90094],[],none⟩,⟨⟨some 98,some (92,false),.b2s (.t 97)⟩,[94,10094,20094,30094,40094,50094,60094,70094,80094,90094],[],none⟩,⟨⟨some 99,some (92,false),.eq .s true (.t 95) (.t 98)⟩,[],[],none⟩,⟨⟨some 100,none,.pick (.t 92) (.c .tt) (.t 99)⟩,[],[],none⟩])
  (.cond (.t 100)
    (.seq (.reg [0,14,2,4,5,8,51,6,62,7,9,73,10,11,83,100,3] [⟨some 101,none,.bldS (.cat 1 353 (.v (.lit .i64 0)) (.cat 1 352 (.v (.lit .i64 0)) (.cat 1 351 (.v (.lit .i64 0)) (.cat 1 350 (.v (.lit .u64 0)) (.cat 1 349 (.v (.lit .i64 0)) (.cat 1 348 (.v (.lit .i64 0)) (.cat 32 316 (.ints .u8 32) (.cat 16 300 (.ints .u8 16) (.rows 75 4 (.cat 1 74 (.v .ff) (.cat 1 73 (.v (.lit .i64 0)) (.cat 1 72 (.v (.lit .i64 0)) (.cat 16 56 (.ints .u8 16) (.cat 32 24 (.ints .u8 32) (.ints .u8 24))))))))))))))) []⟩,⟨none,none,.st 354 (.t 2) (.t 101)⟩,⟨some 3,none,.mv (.c (.lit .i64 12))⟩])
    .ret)
    .skip))
  (.seq (.reg [0,14,2,4,5,8,51,6,62,7,9,73,10,11,83,100,3] [⟨some 102,none,.ld 354 true (.t 5)⟩,⟨none,none,.st 354 (.t 2) (.t 102)⟩,⟨some 3,none,.mv (.c (.lit .i64 0))⟩])
  .ret)))))))))))))))))⟩
/- 62 cloister/super.Check -/
def ic62 : IFn := ⟨2,17,[.t 4],
  (.seq (.reg [1,0,8,3,5,16,4] [⟨some 3,none,.box (.t 1)⟩,⟨some 4,none,.mv (.c (.lit .i64 0))⟩])
  (.seq (.seq (.reg [1,0,8,3,5,16,4] [⟨some 6,none,.mv (.t 0)⟩,⟨some 7,none,.lenS (.t 6)⟩,⟨some 8,none,.cmp .neq (.t 7) (.c (.lit .i64 512))⟩])
  (.cond (.t 8)
    (.seq (.reg [1,0,8,3,5,16,4] [⟨some 4,none,.mv (.c (.lit .i64 3))⟩])
    .ret)
    .skip))
  (.seq (.reg [1,0,8,3,5,16,4] [⟨some 9,none,.mv (.t 0)⟩,⟨some 10,none,.ld 32 true (.t 3)⟩,⟨some 11,none,.call 128 true [((.t 9),.b (.i .u8)),((.t 10),.v)]⟩,⟨some 5,none,.alloc (.ints .u8 32)⟩,⟨none,none,.st 32 (.t 5) (.t 11)⟩])
  (.seq (.seq (.dreg [1,0,8,3,5,16,4] [⟨⟨some 12,none,.slA 32 1 (.t 5) none none⟩,[],[],none⟩,⟨⟨some 13,none,.mv (.t 0)⟩,[],[],none⟩,⟨⟨some 14,none,.slS 1 (.t 13) (some (.c (.lit .i64 480))) none none⟩,[],[],none⟩,⟨⟨some 15,none,.call 90 true [((.t 12),.b (.i .u8)),((.t 14),.b (.i .u8))]⟩,[],[],none⟩,⟨⟨some 16,none,.not (.t 15)⟩,[],[],none⟩])
  (.cond (.t 16)
    (.seq (.reg [1,0,8,3,5,16,4] [⟨some 4,none,.mv (.c (.lit .i64 13))⟩])
    .ret)
    .skip))
  (.seq (.reg [1,0,8,3,5,16,4] [⟨some 4,none,.mv (.c (.lit .i64 0))⟩])
  .ret)))))⟩
/- 63 cloister/cloisterref09.Check -/
def ic63 : IFn := ⟨2,16,[.t 4],
  (.seq (.reg [1,0,7,3,15,4] [⟨some 3,none,.box (.t 1)⟩,⟨some 4,none,.mv (.c (.lit .i64 0))⟩])
  (.seq (.seq (.reg [1,0,7,3,15,4] [⟨some 5,none,.mv (.t 0)⟩,⟨some 6,none,.lenS (.t 5)⟩,⟨some 7,none,.cmp .neq (.t 6) (.c (.lit .i64 512))⟩])
  (.cond (.t 7)
    (.seq (.reg [1,0,7,3,15,4] [⟨some 4,none,.mv (.c (.lit .i64 3))⟩])
    .ret)
    .skip))
  (.seq (.seq (.dreg [1,0,7,3,15,4] [⟨⟨some 8,none,.mv (.t 0)⟩,[],[],none⟩,⟨⟨some 9,none,.slS 1 (.t 8) none (some (.c (.lit .i64 480))) none⟩,[],[],none⟩,⟨⟨some 10,none,.ld 32 true (.t 3)⟩,[],[],none⟩,⟨⟨some 11,none,.call 122 true [((.t 9),.b (.i .u8)),((.t 10),.v)]⟩,[],[],none⟩,⟨⟨some 12,none,.mv (.t 0)⟩,[11,10011,20011,30011,40011,50011,60011,70011,80011,90011],[],none⟩,⟨⟨some 13,none,.slS 1 (.t 12) (some (.c (.lit .i64 480))) none none⟩,[11,10011,20011,30011,40011,50011,60011,70011,80011,90011],[],none⟩,⟨⟨some 14,none,.b2s (.t 13)⟩,[11,10011,20011,30011,40011,50011,60011,70011,80011,90011],[],none⟩,⟨⟨some 15,none,.eq .s true (.t 11) (.t 14)⟩,[],[],none⟩])
  (.cond (.t 15)
    (.seq (.reg [1,0,7,3,15,4] [⟨some 4,none,.mv (.c (.lit .i64 13))⟩])
    .ret)
    .skip))
  (.seq (.reg [1,0,7,3,15,4] [⟨some 4,none,.mv (.c (.lit .i64 0))⟩])
  .ret))))⟩
/- 118 cloister/super.head -/
def ic118 : IFn := ⟨1,73,[.t 2],
  (.seq (.reg [0,1,33,35,34,36,5,3,6,59,60,58,9,10,2] [⟨some 1,none,.box (.t 0)⟩,⟨some 2,none,.mv (.c .nsl)⟩])
  (.seq (.reg [0,1,33,35,34,36,5,3,6,59,60,58,9,10,2] [⟨some 12,none,.bsl (.i .u8) 8 [(0,(.c (.lit .u8 67))),(1,(.c (.lit .u8 76))),(2,(.c (.lit .u8 79))),(3,(.c (.lit .u8 73))),(4,(.c (.lit .u8 83))),(5,(.c (.lit .u8 84))),(6,(.c (.lit .u8 69))),(7,(.c (.lit .u8 82)))]⟩,⟨some 13,none,.mst (.t 12)⟩,⟨some 14,none,.fa 0 1 (.t 1)⟩,⟨some 15,none,.ld 1 false (.t 14)⟩,⟨some 16,none,.cv .u8 (.t 15)⟩,⟨some 17,none,.fa 1 1 (.t 1)⟩,⟨some 18,none,.ld 1 false (.t 17)⟩,⟨some 19,none,.cv .u8 (.t 18)⟩,⟨some 20,none,.fa 2 1 (.t 1)⟩,⟨some 21,none,.ld 1 false (.t 20)⟩,⟨some 22,none,.cv .u8 (.t 21)⟩,⟨some 23,none,.bsl (.i .u8) 8 [(0,(.c (.lit .u8 1))),(1,(.t 16)),(2,(.t 19)),(3,(.t 22)),(4,(.c (.lit .u8 0))),(5,(.c (.lit .u8 0))),(6,(.c (.lit .u8 0))),(7,(.c (.lit .u8 0)))]⟩,⟨some 24,none,.app (.i .u8) 1 (.t 13) (.t 23)⟩,⟨some 3,none,.mv (.t 24)⟩])
  (.seq (.seq (.reg [0,1,33,35,34,36,5,3,6,59,60,58,9,10,2] [⟨some 25,none,.fa 3 1 (.t 1)⟩,⟨some 26,none,.ld 1 false (.t 25)⟩,⟨some 27,none,.fa 4 1 (.t 1)⟩,⟨some 28,none,.ld 1 false (.t 27)⟩,⟨some 29,none,.cv .u64 (.t 28)⟩,⟨some 30,none,.fa 5 1 (.t 1)⟩,⟨some 31,none,.ld 1 false (.t 30)⟩,⟨some 32,none,.cv .u64 (.t 31)⟩,⟨some 33,none,.bsl (.i .u64) 5 [(0,(.t 26)),(1,(.t 29)),(2,(.t 32)),(3,(.c (.lit .u64 0))),(4,(.c (.lit .u64 0)))]⟩,⟨some 34,none,.lenS (.t 33)⟩,⟨some 35,none,.mv (.c (.lit .i64 0))⟩])
  (.block 0 (.loop 0 (.seq (.reg [0,1,33,35,34,36,5,3,6,59,60,58,9,10,2] [⟨some 36,none,.cmp .lss (.t 35) (.t 34)⟩])
   (.seq (.cond (.t 36)
     .skip
     (.exit 0))
   (.seq (.block 1 (.seq (.reg [0,1,33,35,34,36,5,3,6,59,60,58,9,10,2] [⟨some 37,none,.iaS 1 (.t 33) (.t 35)⟩,⟨some 38,none,.ld 1 false (.t 37)⟩,⟨some 5,none,.mv (.t 38)⟩])
   (.seq (.reg [0,1,33,35,34,36,5,3,6,59,60,58,9,10,2] [⟨some 40,none,.mv (.t 5)⟩,⟨some 41,none,.call 107 true [((.t 40),.v),((.c (.lit .i64 8)),.v)]⟩,⟨some 39,none,.mv (.t 41)⟩,⟨some 42,none,.ext 0 (.t 39)⟩,⟨some 43,none,.ext 1 (.t 39)⟩,⟨some 6,none,.mv (.t 42)⟩,⟨some 7,none,.mv (.t 43)⟩])
   (.reg [0,1,33,35,34,36,5,3,6,59,60,58,9,10,2] [⟨some 44,none,.mv (.t 3)⟩,⟨some 45,none,.mv (.t 6)⟩,⟨some 46,none,.app (.i .u8) 1 (.t 44) (.t 45)⟩,⟨some 3,none,.mv (.t 46)⟩]))))
   (.reg [0,1,33,35,34,36,5,3,6,59,60,58,9,10,2] [⟨some 47,none,.ar .add .i64 (.t 35) (.c (.lit .i64 1))⟩,⟨some 35,none,.mv (.t 47)⟩])))))))
  (.seq (.dreg [0,1,33,35,34,36,5,3,6,59,60,58,9,10,2] [⟨⟨some 48,none,.mv (.t 3)⟩,[],[],none⟩,⟨⟨some 49,none,.fa 6 32 (.t 1)⟩,[],[],none⟩,⟨⟨some 50,none,.slA 32 1 (.t 49) none none⟩,[],[],none⟩,⟨⟨some 51,none,.app (.i .u8) 1 (.t 48) (.t 50)⟩,[],[],some ([51],[3])⟩,⟨⟨some 52,none,.fa 38 16 (.t 1)⟩,[51],[],none⟩,⟨⟨some 53,none,.slA 16 1 (.t 52) none none⟩,[51,51],[3],none⟩,⟨⟨some 54,none,.app (.i .u8) 1 (.t 51) (.t 53)⟩,[],[],none⟩,⟨⟨some 3,none,.mv (.t 54)⟩,[],[],none⟩])
  (.seq (.reg [0,1,33,35,34,36,5,3,6,59,60,58,9,10,2] [⟨some 55,none,.mv (.t 3)⟩,⟨some 56,none,.appz (.i .u8) 1 (.t 55) (.c (.lit .i64 24))⟩,⟨some 3,none,.mv (.t 56)⟩])
  (.seq (.seq (.reg [0,1,33,35,34,36,5,3,6,59,60,58,9,10,2] [⟨some 57,none,.fa 54 300 (.t 1)⟩,⟨some 58,none,.ld 300 true (.t 57)⟩,⟨some 59,none,.mv (.c (.lit .i64 0))⟩])
  (.block 2 (.loop 1 (.seq (.reg [0,1,33,35,34,36,5,3,6,59,60,58,9,10,2] [⟨some 60,none,.cmp .lss (.t 59) (.c (.lit .i64 4))⟩])
   (.seq (.cond (.t 60)
     .skip
     (.exit 2))
   (.seq (.block 3 (.seq (.reg [0,1,33,35,34,36,5,3,6,59,60,58,9,10,2] [⟨some 61,none,.ixA 4 75 true (.t 58) (.t 59)⟩,⟨some 9,none,.alloc (.cat 1 74 (.v .ff) (.cat 1 73 (.v (.lit .i64 0)) (.cat 1 72 (.v (.lit .i64 0)) (.cat 16 56 (.ints .u8 16) (.cat 32 24 (.ints .u8 32) (.ints .u8 24))))))⟩,⟨none,none,.st 75 (.t 9) (.t 61)⟩])
   (.seq (.reg [0,1,33,35,34,36,5,3,6,59,60,58,9,10,2] [⟨some 63,none,.ld 75 true (.t 9)⟩,⟨some 64,none,.call 40 true [((.t 63),.v)]⟩,⟨some 62,none,.mv (.t 64)⟩,⟨some 65,none,.ext 0 (.t 62)⟩,⟨some 66,none,.ext 1 (.t 62)⟩,⟨some 10,none,.mv (.t 65)⟩,⟨some 11,none,.mv (.t 66)⟩])
   (.reg [0,1,33,35,34,36,5,3,6,59,60,58,9,10,2] [⟨some 67,none,.mv (.t 3)⟩,⟨some 68,none,.mv (.t 10)⟩,⟨some 69,none,.app (.i .u8) 1 (.t 67) (.t 68)⟩,⟨some 3,none,.mv (.t 69)⟩]))))
   (.reg [0,1,33,35,34,36,5,3,6,59,60,58,9,10,2] [⟨some 70,none,.ar .add .i64 (.t 59) (.c (.lit .i64 1))⟩,⟨some 59,none,.mv (.t 70)⟩])))))))
  (.seq (.reg [0,1,33,35,34,36,5,3,6,59,60,58,9,10,2] [⟨some 71,none,.mv (.t 3)⟩,⟨some 72,none,.appz (.i .u8) 1 (.t 71) (.c (.lit .i64 32))⟩,⟨some 2,none,.mv (.t 72)⟩])
  .ret)))))))⟩
/- 121 cloister/cloisterref09.first -/
def ic121 : IFn := ⟨1,67,[.t 2],
  (.seq (.reg [0,3,1,4,51,5,2] [⟨some 1,none,.box (.t 0)⟩,⟨some 2,none,.mv (.c .nsl)⟩])
  (.seq (.reg [0,3,1,4,51,5,2] [⟨some 7,none,.bsl (.i .u8) 8 [(0,(.c (.lit .u8 67))),(1,(.c (.lit .u8 76))),(2,(.c (.lit .u8 79))),(3,(.c (.lit .u8 73))),(4,(.c (.lit .u8 83))),(5,(.c (.lit .u8 84))),(6,(.c (.lit .u8 69))),(7,(.c (.lit .u8 82)))]⟩,⟨some 8,none,.mst (.t 7)⟩,⟨some 3,none,.mv (.t 8)⟩])
  (.seq (.reg [0,3,1,4,51,5,2] [⟨some 9,none,.mv (.t 3)⟩,⟨some 10,none,.fa 0 1 (.t 1)⟩,⟨some 11,none,.ld 1 false (.t 10)⟩,⟨some 12,none,.cv .u8 (.t 11)⟩,⟨some 13,none,.fa 1 1 (.t 1)⟩,⟨some 14,none,.ld 1 false (.t 13)⟩,⟨some 15,none,.cv .u8 (.t 14)⟩,⟨some 16,none,.fa 2 1 (.t 1)⟩,⟨some 17,none,.ld 1 false (.t 16)⟩,⟨some 18,none,.cv .u8 (.t 17)⟩,⟨some 19,none,.bsl (.i .u8) 8 [(0,(.c (.lit .u8 1))),(1,(.t 12)),(2,(.t 15)),(3,(.t 18)),(4,(.c (.lit .u8 0))),(5,(.c (.lit .u8 0))),(6,(.c (.lit .u8 0))),(7,(.c (.lit .u8 0)))]⟩,⟨some 20,none,.app (.i .u8) 1 (.t 9) (.t 19)⟩,⟨some 3,none,.mv (.t 20)⟩])
  (.seq (.reg [0,3,1,4,51,5,2] [⟨some 21,none,.mv (.t 3)⟩,⟨some 22,none,.fa 3 1 (.t 1)⟩,⟨some 23,none,.ld 1 false (.t 22)⟩,⟨some 24,none,.call 113 true [((.t 23),.v),((.c (.lit .i64 8)),.v)]⟩,⟨some 25,none,.app (.i .u8) 1 (.t 21) (.t 24)⟩,⟨some 3,none,.mv (.t 25)⟩])
  (.seq (.reg [0,3,1,4,51,5,2] [⟨some 26,none,.mv (.t 3)⟩,⟨some 27,none,.fa 4 1 (.t 1)⟩,⟨some 28,none,.ld 1 false (.t 27)⟩,⟨some 29,none,.cv .u64 (.t 28)⟩,⟨some 30,none,.call 113 true [((.t 29),.v),((.c (.lit .i64 8)),.v)]⟩,⟨some 31,none,.app (.i .u8) 1 (.t 26) (.t 30)⟩,⟨some 3,none,.mv (.t 31)⟩])
  (.seq (.reg [0,3,1,4,51,5,2] [⟨some 32,none,.mv (.t 3)⟩,⟨some 33,none,.fa 5 1 (.t 1)⟩,⟨some 34,none,.ld 1 false (.t 33)⟩,⟨some 35,none,.cv .u64 (.t 34)⟩,⟨some 36,none,.call 113 true [((.t 35),.v),((.c (.lit .i64 8)),.v)]⟩,⟨some 37,none,.app (.i .u8) 1 (.t 32) (.t 36)⟩,⟨some 3,none,.mv (.t 37)⟩])
  (.seq (.reg [0,3,1,4,51,5,2] [⟨some 38,none,.mv (.t 3)⟩,⟨some 39,none,.appz (.i .u8) 1 (.t 38) (.c (.lit .i64 16))⟩,⟨some 3,none,.mv (.t 39)⟩])
  (.seq (.reg [0,3,1,4,51,5,2] [⟨some 40,none,.mv (.t 3)⟩,⟨some 41,none,.fa 6 32 (.t 1)⟩,⟨some 42,none,.slA 32 1 (.t 41) none none⟩,⟨some 43,none,.app (.i .u8) 1 (.t 40) (.t 42)⟩,⟨some 3,none,.mv (.t 43)⟩])
  (.seq (.reg [0,3,1,4,51,5,2] [⟨some 44,none,.mv (.t 3)⟩,⟨some 45,none,.fa 38 16 (.t 1)⟩,⟨some 46,none,.slA 16 1 (.t 45) none none⟩,⟨some 47,none,.app (.i .u8) 1 (.t 44) (.t 46)⟩,⟨some 3,none,.mv (.t 47)⟩])
  (.seq (.reg [0,3,1,4,51,5,2] [⟨some 48,none,.mv (.t 3)⟩,⟨some 49,none,.appz (.i .u8) 1 (.t 48) (.c (.lit .i64 24))⟩,⟨some 3,none,.mv (.t 49)⟩])
  (.seq (.seq (.reg [0,3,1,4,51,5,2] [⟨some 4,none,.mv (.c (.lit .i64 0))⟩])
  (.block 0 (.loop 0 (.seq (.seq (.reg [0,3,1,4,51,5,2] [⟨some 50,none,.mv (.t 4)⟩,⟨some 51,none,.cmp .lss (.t 50) (.c (.lit .i64 4))⟩])
   (.cond (.t 51)
     .skip
     (.exit 0)))
   (.seq (.block 1 (.seq (.reg [0,3,1,4,51,5,2] [⟨some 55,none,.mv (.t 4)⟩,⟨some 56,none,.fa 54 300 (.t 1)⟩,⟨some 57,none,.iaA 4 75 (.t 56) (.t 55)⟩,⟨some 58,none,.ld 75 true (.t 57)⟩,⟨some 59,none,.call 41 true [((.t 58),.v)]⟩,⟨some 54,none,.mv (.t 59)⟩,⟨some 60,none,.ext 0 (.t 54)⟩,⟨some 61,none,.ext 1 (.t 54)⟩,⟨some 5,none,.mv (.t 60)⟩,⟨some 6,none,.mv (.t 61)⟩])
   (.reg [0,3,1,4,51,5,2] [⟨some 62,none,.mv (.t 3)⟩,⟨some 63,none,.mv (.t 5)⟩,⟨some 64,none,.app (.i .u8) 1 (.t 62) (.t 63)⟩,⟨some 3,none,.mv (.t 64)⟩])))
   (.reg [0,3,1,4,51,5,2] [⟨some 52,none,.mv (.t 4)⟩,⟨some 53,none,.ar .add .i64 (.t 52) (.c (.lit .i64 1))⟩,⟨some 4,none,.mv (.t 53)⟩]))))))
  (.seq (.reg [0,3,1,4,51,5,2] [⟨some 65,none,.mv (.t 3)⟩,⟨some 66,none,.appz (.i .u8) 1 (.t 65) (.c (.lit .i64 32))⟩,⟨some 2,none,.mv (.t 66)⟩])
  .ret))))))))))))⟩
/- 122 cloister/cloisterref09.Tag -/
def ic122 : IFn := ⟨2,14,[.t 4],
  (.seq (.reg [1,3,5,0,6,4] [⟨some 3,none,.box (.t 1)⟩,⟨some 4,none,.mv (.c (.str []))⟩])
  (.seq (.reg [1,3,5,0,6,4] [⟨some 7,none,.ld 32 true (.t 3)⟩,⟨some 8,none,.call 142 true [((.t 7),.v),((.c (.str [115,117,112,101,114])),.v)]⟩,⟨some 5,none,.alloc (.ints .u8 32)⟩,⟨none,none,.st 32 (.t 5) (.t 8)⟩])
  (.seq (.reg [1,3,5,0,6,4] [⟨some 9,none,.slA 32 1 (.t 5) none none⟩,⟨some 10,none,.mv (.t 0)⟩,⟨some 11,none,.call 141 true [((.t 9),.b (.i .u8)),((.t 10),.b (.i .u8))]⟩,⟨some 6,none,.alloc (.ints .u8 32)⟩,⟨none,none,.st 32 (.t 6) (.t 11)⟩])
  (.seq (.reg [1,3,5,0,6,4] [⟨some 12,none,.slA 32 1 (.t 6) none none⟩,⟨some 13,none,.b2s (.t 12)⟩,⟨some 4,none,.mv (.t 13)⟩])
  .ret))))⟩
/- 123 cloister/cloisterlaw09.plain -/
def ic123 : IFn := ⟨0,7,[.cell 0 354 true],
  (.seq (.reg [1,0] [⟨some 0,none,.alloc (.cat 1 353 (.v (.lit .i64 0)) (.cat 1 352 (.v (.lit .i64 0)) (.cat 1 351 (.v (.lit .i64 0)) (.cat 1 350 (.v (.lit .u64 0)) (.cat 1 349 (.v (.lit .i64 0)) (.cat 1 348 (.v (.lit .i64 0)) (.cat 32 316 (.ints .u8 32) (.cat 16 300 (.ints .u8 16) (.rows 75 4 (.cat 1 74 (.v .ff) (.cat 1 73 (.v (.lit .i64 0)) (.cat 1 72 (.v (.lit .i64 0)) (.cat 16 56 (.ints .u8 16) (.cat 32 24 (.ints .u8 32) (.ints .u8 24)))))))))))))))⟩])
  (.seq (.reg [1,0] [⟨some 2,none,.bldS (.cat 1 353 (.v (.lit .i64 0)) (.cat 1 352 (.v (.lit .i64 0)) (.cat 1 351 (.v (.lit .i64 0)) (.cat 1 350 (.v (.lit .u64 0)) (.cat 1 349 (.v (.lit .i64 0)) (.cat 1 348 (.v (.lit .i64 0)) (.cat 32 316 (.ints .u8 32) (.cat 16 300 (.ints .u8 16) (.rows 75 4 (.cat 1 74 (.v .ff) (.cat 1 73 (.v (.lit .i64 0)) (.cat 1 72 (.v (.lit .i64 0)) (.cat 16 56 (.ints .u8 16) (.cat 32 24 (.ints .u8 32) (.ints .u8 24))))))))))))))) [(1,1,(.c (.lit .i64 1))),(3,1,(.c (.lit .u64 1))),(4,1,(.c (.lit .i64 72)))]⟩,⟨some 1,none,.alloc (.cat 1 353 (.v (.lit .i64 0)) (.cat 1 352 (.v (.lit .i64 0)) (.cat 1 351 (.v (.lit .i64 0)) (.cat 1 350 (.v (.lit .u64 0)) (.cat 1 349 (.v (.lit .i64 0)) (.cat 1 348 (.v (.lit .i64 0)) (.cat 32 316 (.ints .u8 32) (.cat 16 300 (.ints .u8 16) (.rows 75 4 (.cat 1 74 (.v .ff) (.cat 1 73 (.v (.lit .i64 0)) (.cat 1 72 (.v (.lit .i64 0)) (.cat 16 56 (.ints .u8 16) (.cat 32 24 (.ints .u8 32) (.ints .u8 24)))))))))))))))⟩,⟨none,none,.st 354 (.t 1) (.t 2)⟩])
  (.seq (.reg [1,0] [⟨some 3,none,.bldS (.cat 1 74 (.v .ff) (.cat 1 73 (.v (.lit .i64 0)) (.cat 1 72 (.v (.lit .i64 0)) (.cat 16 56 (.ints .u8 16) (.cat 32 24 (.ints .u8 32) (.ints .u8 24)))))) [(0,1,(.c .tt)),(1,1,(.c (.lit .i64 1))),(2,1,(.c (.lit .i64 1)))]⟩,⟨some 4,none,.fa 54 300 (.t 1)⟩,⟨some 5,none,.iaA 4 75 (.t 4) (.c (.lit .i64 2))⟩,⟨none,none,.st 75 (.t 5) (.t 3)⟩])
  (.seq (.reg [1,0] [⟨some 6,none,.ld 354 true (.t 1)⟩,⟨none,none,.st 354 (.t 0) (.t 6)⟩])
  .ret))))⟩
/- 124 cloister/super.key -/
def ic124 : IFn := ⟨1,9,[.t 2],
  (.seq (.reg [0,2] [⟨some 2,none,.mv (.c .ff)⟩])
  (.seq (.reg [0,2] [⟨some 3,none,.mv (.t 0)⟩,⟨some 4,none,.cmp .geq (.t 3) (.c (.lit .i64 1))⟩,⟨some 5,none,.mv (.t 4)⟩,⟨some 6,some (5,true),.mv (.t 0)⟩,⟨some 7,some (5,true),.cmp .leq (.t 6) (.c (.lit .i64 255))⟩,⟨some 8,none,.pick (.t 5) (.t 7) (.c .ff)⟩,⟨some 2,none,.mv (.t 8)⟩])
  .ret))⟩
/- 125 cloister/super.slotted -/
def ic125 : IFn := ⟨1,55,[.t 2],
  (.seq (.reg [0,1,10,11,9,5,7,19,40,3,2] [⟨some 1,none,.box (.t 0)⟩,⟨some 2,none,.mv (.c .ff)⟩])
  (.seq (.reg [0,1,10,11,9,5,7,19,40,3,2] [⟨some 3,none,.mv (.c .ff)⟩])
  (.seq (.seq (.reg [0,1,10,11,9,5,7,19,40,3,2] [⟨some 8,none,.fa 54 300 (.t 1)⟩,⟨some 9,none,.ld 300 true (.t 8)⟩,⟨some 10,none,.mv (.c (.lit .i64 0))⟩])
  (.block 0 (.loop 0 (.seq (.reg [0,1,10,11,9,5,7,19,40,3,2] [⟨some 11,none,.cmp .lss (.t 10) (.c (.lit .i64 4))⟩])
   (.seq (.cond (.t 11)
     .skip
     (.exit 0))
   (.seq (.block 1 (.seq (.reg [0,1,10,11,9,5,7,19,40,3,2] [⟨some 12,none,.ixA 4 75 true (.t 9) (.t 10)⟩,⟨some 5,none,.alloc (.cat 1 74 (.v .ff) (.cat 1 73 (.v (.lit .i64 0)) (.cat 1 72 (.v (.lit .i64 0)) (.cat 16 56 (.ints .u8 16) (.cat 32 24 (.ints .u8 32) (.ints .u8 24))))))⟩,⟨none,none,.st 75 (.t 5) (.t 12)⟩])
   (.seq (.seq (.reg [0,1,10,11,9,5,7,19,40,3,2] [⟨some 14,none,.ld 75 true (.t 5)⟩,⟨some 15,none,.call 40 true [((.t 14),.v)]⟩,⟨some 13,none,.mv (.t 15)⟩,⟨some 16,none,.ext 0 (.t 13)⟩,⟨some 17,none,.ext 1 (.t 13)⟩,⟨some 6,none,.mv (.t 16)⟩,⟨some 7,none,.mv (.t 17)⟩])
   (.seq (.reg [0,1,10,11,9,5,7,19,40,3,2] [⟨some 18,none,.mv (.t 7)⟩,⟨some 19,none,.cmp .neq (.t 18) (.c (.lit .i64 0))⟩])
   (.cond (.t 19)
     (.seq (.reg [0,1,10,11,9,5,7,19,40,3,2] [⟨some 2,none,.mv (.c .ff)⟩])
     .ret)
     .skip)))
   (.seq (.seq (.reg [0,1,10,11,9,5,7,19,40,3,2] [⟨some 20,none,.fa 0 1 (.t 5)⟩,⟨some 21,none,.ld 1 false (.t 20)⟩,⟨some 22,none,.mv (.t 21)⟩,⟨some 23,some (22,true),.fa 1 1 (.t 5)⟩,⟨some 24,some (22,true),.ld 1 false (.t 23)⟩,⟨some 25,some (22,true),.fa 1 1 (.t 1)⟩,⟨some 26,some (22,true),.ld 1 false (.t 25)⟩,⟨some 27,some (22,true),.cmp .neq (.t 24) (.t 26)⟩,⟨some 28,none,.pick (.t 22) (.t 27) (.c .ff)⟩,⟨some 29,none,.mv (.t 28)⟩,⟨some 30,some (29,true),.fa 2 1 (.t 1)⟩,⟨some 31,some (29,true),.ld 1 false (.t 30)⟩,⟨some 32,some (29,true),.cmp .eql (.t 31) (.c (.lit .i64 0))⟩,⟨some 33,some (29,true),.mv (.t 32)⟩,⟨some 34,some (33,false),.fa 1 1 (.t 5)⟩,⟨some 35,some (33,false),.ld 1 false (.t 34)⟩,⟨some 36,some (33,false),.fa 2 1 (.t 1)⟩,⟨some 37,some (33,false),.ld 1 false (.t 36)⟩,⟨some 38,some (33,false),.cmp .neq (.t 35) (.t 37)⟩,⟨some 39,some (29,true),.pick (.t 33) (.c .tt) (.t 38)⟩,⟨some 40,none,.pick (.t 29) (.t 39) (.c .ff)⟩])
   (.cond (.t 40)
     (.seq (.reg [0,1,10,11,9,5,7,19,40,3,2] [⟨some 2,none,.mv (.c .ff)⟩])
     .ret)
     .skip))
   (.reg [0,1,10,11,9,5,7,19,40,3,2] [⟨some 41,none,.mv (.t 3)⟩,⟨some 42,none,.mv (.t 41)⟩,⟨some 43,some (42,false),.fa 0 1 (.t 5)⟩,⟨some 44,some (42,false),.ld 1 false (.t 43)⟩,⟨some 45,some (42,false),.mv (.t 44)⟩,⟨some 46,some (45,true),.fa 1 1 (.t 5)⟩,⟨some 47,some (45,true),.ld 1 false (.t 46)⟩,⟨some 48,some (45,true),.fa 1 1 (.t 1)⟩,⟨some 49,some (45,true),.ld 1 false (.t 48)⟩,⟨some 50,some (45,true),.cmp .eql (.t 47) (.t 49)⟩,⟨some 51,some (42,false),.pick (.t 45) (.t 50) (.c .ff)⟩,⟨some 52,none,.pick (.t 42) (.c .tt) (.t 51)⟩,⟨some 3,none,.mv (.t 52)⟩])))))
   (.reg [0,1,10,11,9,5,7,19,40,3,2] [⟨some 53,none,.ar .add .i64 (.t 10) (.c (.lit .i64 1))⟩,⟨some 10,none,.mv (.t 53)⟩])))))))
  (.seq (.reg [0,1,10,11,9,5,7,19,40,3,2] [⟨some 54,none,.mv (.t 3)⟩,⟨some 2,none,.mv (.t 54)⟩])
  .ret))))⟩
/- 126 cloister/super.small -/
def ic126 : IFn := ⟨1,6,[.t 2],
  (.seq (.reg [0,2] [⟨some 2,none,.mv (.c (.lit .i64 0))⟩])
  (.seq (.reg [0,2] [⟨some 3,none,.mv (.t 0)⟩,⟨some 4,none,.min2 (.t 3) (.c (.lit .u64 1099511627776))⟩,⟨some 5,none,.cv .i64 (.t 4)⟩,⟨some 2,none,.mv (.t 5)⟩])
  .ret))⟩
/- 128 cloister/super.tag -/
def ic128 : IFn := ⟨2,12,[.cell 4 32 true],
  (.seq (.reg [1,3,5,0,4] [⟨some 3,none,.box (.t 1)⟩,⟨some 4,none,.alloc (.ints .u8 32)⟩])
  (.seq (.reg [1,3,5,0,4] [⟨some 6,none,.ld 32 true (.t 3)⟩,⟨some 7,none,.call 119 true [((.t 6),.v),((.c (.str [115,117,112,101,114])),.v)]⟩,⟨some 5,none,.alloc (.ints .u8 32)⟩,⟨none,none,.st 32 (.t 5) (.t 7)⟩])
  (.seq (.dreg [1,3,5,0,4] [⟨⟨some 8,none,.slA 32 1 (.t 5) none none⟩,[],[],none⟩,⟨⟨some 9,none,.mv (.t 0)⟩,[],[],none⟩,⟨⟨some 10,none,.slS 1 (.t 9) none (some (.c (.lit .i64 480))) none⟩,[],[],none⟩,⟨⟨some 11,none,.call 120 true [((.t 8),.b (.i .u8)),((.t 10),.b (.i .u8))]⟩,[],[],none⟩,⟨⟨none,none,.st 32 (.t 4) (.t 11)⟩,[],[],none⟩])
  .ret)))⟩

theorem ok15 : fnOk Tryd.prog 15 = true := by kernel_rfl
theorem co15 : comp Tryd.prog pu 15 = some ic15 := by kernel_rfl
theorem ok16 : fnOk Tryd.prog 16 = true := by kernel_rfl
theorem co16 : comp Tryd.prog pu 16 = some ic16 := by kernel_rfl
theorem ok17 : fnOk Tryd.prog 17 = true := by kernel_rfl
theorem co17 : comp Tryd.prog pu 17 = some ic17 := by kernel_rfl
theorem ok53 : fnOk Tryd.prog 53 = true := by kernel_rfl
theorem co53 : comp Tryd.prog pu 53 = some ic53 := by kernel_rfl
theorem ok54 : fnOk Tryd.prog 54 = true := by kernel_rfl
theorem co54 : comp Tryd.prog pu 54 = some ic54 := by kernel_rfl
theorem ok55 : fnOk Tryd.prog 55 = true := by kernel_rfl
theorem co55 : comp Tryd.prog pu 55 = some ic55 := by kernel_rfl
theorem ok56 : fnOk Tryd.prog 56 = true := by kernel_rfl
theorem co56 : comp Tryd.prog pu 56 = some ic56 := by kernel_rfl
theorem ok57 : fnOk Tryd.prog 57 = true := by kernel_rfl
theorem co57 : comp Tryd.prog pu 57 = some ic57 := by kernel_rfl
theorem ok58 : fnOk Tryd.prog 58 = true := by kernel_rfl
theorem co58 : comp Tryd.prog pu 58 = some ic58 := by kernel_rfl
theorem ok59 : fnOk Tryd.prog 59 = true := by kernel_rfl
theorem co59 : comp Tryd.prog pu 59 = some ic59 := by kernel_rfl
theorem ok60 : fnOk Tryd.prog 60 = true := by kernel_rfl
theorem co60 : comp Tryd.prog pu 60 = some ic60 := by kernel_rfl
theorem ok61 : fnOk Tryd.prog 61 = true := by kernel_rfl
theorem co61 : comp Tryd.prog pu 61 = some ic61 := by kernel_rfl
theorem ok62 : fnOk Tryd.prog 62 = true := by kernel_rfl
theorem co62 : comp Tryd.prog pu 62 = some ic62 := by kernel_rfl
theorem ok63 : fnOk Tryd.prog 63 = true := by kernel_rfl
theorem co63 : comp Tryd.prog pu 63 = some ic63 := by kernel_rfl
theorem ok118 : fnOk Tryd.prog 118 = true := by kernel_rfl
theorem co118 : comp Tryd.prog pu 118 = some ic118 := by kernel_rfl
theorem ok121 : fnOk Tryd.prog 121 = true := by kernel_rfl
theorem co121 : comp Tryd.prog pu 121 = some ic121 := by kernel_rfl
theorem ok122 : fnOk Tryd.prog 122 = true := by kernel_rfl
theorem co122 : comp Tryd.prog pu 122 = some ic122 := by kernel_rfl
theorem ok123 : fnOk Tryd.prog 123 = true := by kernel_rfl
theorem co123 : comp Tryd.prog pu 123 = some ic123 := by kernel_rfl
theorem ok124 : fnOk Tryd.prog 124 = true := by kernel_rfl
theorem co124 : comp Tryd.prog pu 124 = some ic124 := by kernel_rfl
theorem ok125 : fnOk Tryd.prog 125 = true := by kernel_rfl
theorem co125 : comp Tryd.prog pu 125 = some ic125 := by kernel_rfl
theorem ok126 : fnOk Tryd.prog 126 = true := by kernel_rfl
theorem co126 : comp Tryd.prog pu 126 = some ic126 := by kernel_rfl
theorem ok128 : fnOk Tryd.prog 128 = true := by kernel_rfl
theorem co128 : comp Tryd.prog pu 128 = some ic128 := by kernel_rfl
end Go.Cx.Rb
