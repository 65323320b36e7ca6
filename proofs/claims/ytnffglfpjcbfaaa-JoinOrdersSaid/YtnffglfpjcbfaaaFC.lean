/- Part of a proof by an abstract run of the program's code: FC. No condition. -/
import Derived.Test.YtnffglfpjcbfaaaChecked
import Derived.Test.YtnffglfpjcbfaaaVmD
namespace Go.Proofs.Ytnffglfpjcbfaaa
open Go Vm
noncomputable def c3_0 : Vm.Sem := sSeq (sSeq (sRegion [iOp (put 33) (.v false (oEv (sel 12))),
    iOp (put 34) (.v false (oEv (sel 1))),
    iOp (put 35) (.v false (oLenS (sel 34))),
    iOp (put 36) (.v false (oInt2 fLss (sel 33) (sel 35)))])
  (sCond (sel 36)
    (sEx .normal)
    (sEx (.exit 0))))
 (sSeq (sBlock 1 (sSeq (sRegion [iOp (put 39) (.v false (oEv (sel 12))),
      iOp (put 40) (.v false (oConvInt .u32 (sel 39))),
      iOp (put 41) (.v false (oEv (sel 1))),
      iOp (put 42) (.v false (oEv (sel 12))),
      iOp (put 43) (.v false (oIndexAddrS 1 (sel 41) (sel 42))),
      iOp (put 44) (.v true (oLoad1 (sel 43))),
      iOp (put 45) (.v false (oInt2 fAnd (sel 44) ⟨fun _ => .int .i64 31⟩)),
      iOp (put 46) (.v false (oInt2 fAdd ⟨fun _ => .int .i64 1⟩ (sel 45))),
      iOp (put 47) (.a (aMakeSlice 5 1 [.int .u8 0] (sel 46) (sel 46))),
      iOp (put 48) (.v false (oBuild [.int .u16 0, .bool false, .int .u32 0, .slice none 0 0] [(0, 1, ⟨fun _ => .int .u16 1⟩), (2, 1, (sel 40)), (3, 1, (sel 47))])),
      iOp (put 13) (.a (aAlloc 30 [.int .u16 0, .bool false, .int .u32 0, .slice none 0 0])),
      iOp ⟨fun _ a => a⟩ (.e (eStore 4 (sel 13) (sel 48)))])
    (sSeq (sRegion [iOp (put 49) (.v false (oFieldAddr 3 (sel 13))),
       iOp (put 50) (.v true (oLoad1 (sel 49))),
       iOp (put 51) (.v false (oEv (sel 12))),
       iOp (put 52) (.v false (oConvInt .u8 (sel 51))),
       iOp (put 53) (.v false (oIndexAddrS 1 (sel 50) ⟨fun _ => .int .i64 0⟩)),
       iOp ⟨fun _ a => a⟩ (.e (eStore 1 (sel 53) (sel 52)))])
     (sSeq (sRegion [iOp (put 55) (.v true (oLoadN 4 (sel 13))),
        iOp (put 56) (.v false (oEv (sel 0))),
        iOp (put 57) (.v false (oEv (sel 11))),
        iOp (put 58) (.v false (oLenS (sel 57))),
        iOp (put 59) (.v false (oConvInt .u32 (sel 58))),
        iOp (put 60) (.v false (oInt2 fAdd (sel 56) (sel 59))),
        iOp (put 61) (.v false (oEv (sel 12))),
        iOp (put 62) (.v false (oConvInt .u16 (sel 61))),
        iOp (put 63) (.v false (oEv (sel 2))),
        iOp (put 64) (.e (eCallF 9 [(sel 55), (sel 60), (sel 62), (sel 63)])),
        iOp (put 54) (.v false (oEv (sel 64))),
        iOp (put 65) (.v false (oExtract (sel 54) 0)),
        iOp (put 66) (.v false (oExtract (sel 54) 1)),
        iOp (put 14) (.v false (oEv (sel 65))),
        iOp (put 15) (.v false (oEv (sel 66)))])
      (sSeq (sRegion [iOp (put 67) (.v false (oEv (sel 10))),
         iOp (put 68) (.v true (oLoadN 4 (sel 13))),
         iOp (put 69) (.a (aBuildSlice 30 1 (rep 1 [.int .u16 0, .bool false, .int .u32 0, .slice none 0 0]) [(0, 4, (sel 68))])),
         iOp (put 70) (.e (eAppend 30 4 32 (sel 67) (sel 69))),
         iOp (put 10) (.v false (oEv (sel 70)))])
       (sRegion [iOp (put 71) (.v false (oEv (sel 11))),
         iOp (put 72) (.v false (oEv (sel 14))),
         iOp (put 73) (.e (eAppend 42 12 144 (sel 71) (sel 72))),
         iOp (put 11) (.v false (oEv (sel 73)))]))))))
  (sRegion [iOp (put 37) (.v false (oEv (sel 12))),
    iOp (put 38) (.v false (oInt2 fAdd (sel 37) ⟨fun _ => .int .i64 1⟩)),
    iOp (put 12) (.v false (oEv (sel 38)))]))
noncomputable def c3_1 : Vm.Sem := sSeq (sSeq (sRegion [iOp (put 75) (.v false (oEv (sel 11))),
    iOp (put 76) (.v false (oLenS (sel 75))),
    iOp (put 77) (.v false (oInt2 fGtr (sel 76) ⟨fun _ => .int .i64 0⟩))])
  (sCond (sel 77)
    (sEx .normal)
    (sEx (.exit 2))))
 (sSeq (sBlock 3 (sSeq (sRegion [iOp (put 18) (.v false (oEv ⟨fun _ => .int .i64 0⟩))])
    (sSeq (sSeq (sRegion [iOp (put 80) (.v false (oEv (sel 17))),
        iOp (put 81) (.v false (oEv (sel 3))),
        iOp (put 82) (.v false (oLenS (sel 81))),
        iOp (put 83) (.v false (oInt2 fLss (sel 80) (sel 82)))])
      (sCond (sel 83)
        (sRegion [iOp (put 84) (.v false (oEv (sel 3))),
          iOp (put 85) (.v false (oEv (sel 17))),
          iOp (put 86) (.v false (oIndexAddrS 1 (sel 84) (sel 85))),
          iOp (put 87) (.v true (oLoad1 (sel 86))),
          iOp (put 88) (.v false (oInt2 fAnd (sel 87) ⟨fun _ => .int .i64 65535⟩)),
          iOp (put 89) (.v false (oEv (sel 11))),
          iOp (put 90) (.v false (oLenS (sel 89))),
          iOp (put 91) (.v false (oInt2 fRem (sel 88) (sel 90))),
          iOp (put 18) (.v false (oEv (sel 91)))])
        (sEx .normal)))
     (sSeq (sSeq (sRegion [iOp (put 92) (.v false (oEv (sel 16))),
         iOp (put 93) (.v false (oEv (sel 11))),
         iOp (put 94) (.v false (oEv (sel 18))),
         iOp (put 95) (.v false (oIndexAddrS 12 (sel 93) (sel 94))),
         iOp (put 96) (.v true (oLoadN 12 (sel 95))),
         iOp (put 97) (.e (eCallF 11 [(sel 92), (sel 96)])),
         iOp (put 98) (.v false (oNe (.one 1) (sel 97) ⟨fun _ => .int .i64 0⟩))])
       (sCond (sel 98)
         (sSeq (sRegion [iOp (put 8) (.v false (oEv ⟨fun _ => .bool false⟩))])
          (sEx .ret))
         (sEx .normal)))
      (sSeq (sRegion [iOp (put 99) (.v false (oEv (sel 16))),
         iOp (put 100) (.v false (oEv (sel 11))),
         iOp (put 101) (.v false (oEv (sel 18))),
         iOp (put 102) (.v false (oIndexAddrS 12 (sel 100) (sel 101))),
         iOp (put 103) (.v true (oLoadN 12 (sel 102))),
         iOp (put 104) (.e (eCallF 11 [(sel 99), (sel 103)]))])
       (sRegion [iOp (put 105) (.a (aBuildSlice 42 0 (rep 0 [.int .u8 0, .int .u8 0, .int .u32 0, .int .u32 0, .int .u16 0, .int .u16 0, .int .u32 0, .slice none 0 0, .slice none 0 0, .slice none 0 0, .slice none 0 0, .slice none 0 0]) [])),
         iOp (put 106) (.v false (oEv (sel 11))),
         iOp (put 107) (.v false (oEv (sel 18))),
         iOp (put 108) (.v false (oSlice 12 (sel 106) none (some (sel 107)) none)),
         iOp (put 109) (.e (eAppend 42 12 144 (sel 105) (sel 108))),
         iOp (put 110) (.v false (oEv (sel 11))),
         iOp (put 111) (.v false (oEv (sel 18))),
         iOp (put 112) (.v false (oInt2 fAdd (sel 111) ⟨fun _ => .int .i64 1⟩)),
         iOp (put 113) (.v false (oSlice 12 (sel 110) (some (sel 112)) none none)),
         iOp (put 114) (.e (eAppend 42 12 144 (sel 109) (sel 113))),
         iOp (put 11) (.v false (oEv (sel 114)))]))))))
  (sRegion [iOp (put 78) (.v false (oEv (sel 17))),
    iOp (put 79) (.v false (oInt2 fAdd (sel 78) ⟨fun _ => .int .i64 1⟩)),
    iOp (put 17) (.v false (oEv (sel 79)))]))
/-- bollard/bollardlaw14.JoinOrders -/
noncomputable def c3 : CF := ⟨129, [.tmp (sel 8)],
  sSeq (sRegion [iOp (put 8) (.v false (oEv ⟨fun _ => .bool false⟩))])
  (sSeq (sRegion [iOp (put 20) (.e (eCallF 8 [])),
     iOp (put 9) (.v false (oEv (sel 20)))])
   (sSeq (sSeq (sRegion [iOp (put 21) (.v false (oEv (sel 1))),
       iOp (put 22) (.v false (oLenS (sel 21))),
       iOp (put 23) (.v false (oInt2 fGtr (sel 22) ⟨fun _ => .int .i64 20⟩)),
       iOp (put 24) (.v false (oEv (sel 23))),
       iGuard (sel 24) false (put 25) (iOp (put 25) (.v false (oEv (sel 2)))),
       iGuard (sel 24) false (put 26) (iOp (put 26) (.v false (oInt2 fLss (sel 25) ⟨fun _ => .int .i64 1⟩))),
       iOp (put 27) (.v false (oPick (sel 24) ⟨fun _ => .bool true⟩ (sel 26))),
       iOp (put 28) (.v false (oEv (sel 27))),
       iGuard (sel 28) false (put 29) (iOp (put 29) (.v false (oEv (sel 2)))),
       iGuard (sel 28) false (put 30) (iOp (put 30) (.v false (oInt2 fGtr (sel 29) ⟨fun _ => .int .i64 1172⟩))),
       iOp (put 31) (.v false (oPick (sel 28) ⟨fun _ => .bool true⟩ (sel 30)))])
     (sCond (sel 31)
       (sSeq (sRegion [iOp (put 32) (.v false (oEv (sel 9))),
          iOp (put 8) (.v false (oEv (sel 32)))])
        (sEx .ret))
       (sEx .normal)))
    (sSeq (sRegion [iOp (put 10) (.v false (oEv ⟨fun _ => .slice none 0 0⟩))])
     (sSeq (sRegion [iOp (put 11) (.v false (oEv ⟨fun _ => .slice none 0 0⟩))])
      (sSeq (sSeq (sRegion [iOp (put 12) (.v false (oEv ⟨fun _ => .int .i64 0⟩))])
        (sBlock 0 (sLoop c3_0)))
       (sSeq (sRegion [iOp (put 74) (.e (eCallF 10 [⟨fun _ => .int .i64 2⟩])),
          iOp (put 16) (.v false (oEv (sel 74)))])
        (sSeq (sSeq (sRegion [iOp (put 17) (.v false (oEv ⟨fun _ => .int .i64 0⟩))])
          (sBlock 2 (sLoop c3_1)))
         (sSeq (sRegion [iOp (put 115) (.v false (oEv (sel 16))),
            iOp (put 116) (.e (eCallF 12 [(sel 115)])),
            iOp (put 19) (.v false (oEv (sel 116)))])
          (sSeq (sRegion [iOp (put 117) (.v false (oEv (sel 9))),
             iOp (put 118) (.v false (oEv (sel 117))),
             iGuard (sel 118) true (put 119) (iOp (put 119) (.v false (oEv (sel 19)))),
             iGuard (sel 118) true (put 120) (iOp (put 120) (.v false (oEv (sel 10)))),
             iGuard (sel 118) true (put 121) (iOp (put 121) (.e (eCallF 13 [(sel 119), (sel 120)]))),
             iOp (put 122) (.v false (oPick (sel 118) (sel 121) ⟨fun _ => .bool false⟩)),
             iOp (put 123) (.v false (oEv (sel 122))),
             iGuard (sel 123) true (put 124) (iOp (put 124) (.v false (oEv (sel 16)))),
             iGuard (sel 123) true (put 125) (iOp (put 125) (.e (eCallF 12 [(sel 124)]))),
             iGuard (sel 123) true (put 126) (iOp (put 126) (.v false (oLenS (sel 125)))),
             iGuard (sel 123) true (put 127) (iOp (put 127) (.v false (oEq (.one 1) (sel 126) ⟨fun _ => .int .i64 0⟩))),
             iOp (put 128) (.v false (oPick (sel 123) (sel 127) ⟨fun _ => .bool false⟩)),
             iOp (put 8) (.v false (oEv (sel 128)))])
           (sEx .ret))))))))))⟩
theorem d3 : denF Try.prog 3 = some c3 := denF_of (by kernel_rfl)
noncomputable def c4_0 : Vm.Sem := sSeq (sSeq (sRegion [iOp (put 56) (.v false (oEv (sel 14))),
    iOp (put 57) (.v false (oInt2 fGeq (sel 56) ⟨fun _ => .int .i64 0⟩))])
  (sCond (sel 57)
    (sEx .normal)
    (sEx (.exit 0))))
 (sSeq (sBlock 1 (sSeq (sRegion [iOp (put 60) (.v false (oEv (sel 10))),
      iOp (put 61) (.e (eCallF 12 [(sel 60)])),
      iOp (put 62) (.v false (oLenS (sel 61))),
      iOp (put 63) (.v false (oInt2 fGtr (sel 62) ⟨fun _ => .int .i64 0⟩)),
      iOp (put 64) (.v false (oEv (sel 63))),
      iGuard (sel 64) false (put 65) (iOp (put 65) (.v false (oEv (sel 10)))),
      iGuard (sel 64) false (put 66) (iOp (put 66) (.v false (oEv (sel 12)))),
      iGuard (sel 64) false (put 67) (iOp (put 67) (.v false (oEv (sel 14)))),
      iGuard (sel 64) false (put 68) (iOp (put 68) (.v false (oIndexAddrS 12 (sel 66) (sel 67)))),
      iGuard (sel 64) false (put 69) (iOp (put 69) (.v true (oLoadN 12 (sel 68)))),
      iGuard (sel 64) false (put 70) (iOp (put 70) (.e (eCallF 11 [(sel 65), (sel 69)]))),
      iGuard (sel 64) false (put 71) (iOp (put 71) (.v false (oNe (.one 1) (sel 70) ⟨fun _ => .int .i64 0⟩))),
      iOp (put 72) (.v false (oPick (sel 64) ⟨fun _ => .bool true⟩ (sel 71)))])
    (sCond (sel 72)
      (sSeq (sRegion [iOp (put 8) (.v false (oEv ⟨fun _ => .bool false⟩))])
       (sEx .ret))
      (sEx .normal))))
  (sRegion [iOp (put 58) (.v false (oEv (sel 14))),
    iOp (put 59) (.v false (oInt2 fSub (sel 58) ⟨fun _ => .int .i64 1⟩)),
    iOp (put 14) (.v false (oEv (sel 59)))]))
/-- bollard/bollardlaw14.JoinFree -/
noncomputable def c4 : CF := ⟨94, [.tmp (sel 8)],
  sSeq (sRegion [iOp (put 8) (.v false (oEv ⟨fun _ => .bool false⟩))])
  (sSeq (sRegion [iOp (put 16) (.e (eCallF 8 [])),
     iOp (put 9) (.v false (oEv (sel 16)))])
   (sSeq (sSeq (sRegion [iOp (put 17) (.v false (oEv (sel 1))),
       iOp (put 18) (.v false (oLenS (sel 17))),
       iOp (put 19) (.v false (oEq (.one 1) (sel 18) ⟨fun _ => .int .i64 0⟩)),
       iOp (put 20) (.v false (oEv (sel 19))),
       iGuard (sel 20) false (put 21) (iOp (put 21) (.v false (oEv (sel 1)))),
       iGuard (sel 20) false (put 22) (iOp (put 22) (.v false (oLenS (sel 21)))),
       iGuard (sel 20) false (put 23) (iOp (put 23) (.v false (oInt2 fGtr (sel 22) ⟨fun _ => .int .i64 1000⟩))),
       iOp (put 24) (.v false (oPick (sel 20) ⟨fun _ => .bool true⟩ (sel 23))),
       iOp (put 25) (.v false (oEv (sel 24))),
       iGuard (sel 25) false (put 26) (iOp (put 26) (.v false (oEv (sel 2)))),
       iGuard (sel 25) false (put 27) (iOp (put 27) (.v false (oInt2 fLss (sel 26) ⟨fun _ => .int .i64 1⟩))),
       iOp (put 28) (.v false (oPick (sel 25) ⟨fun _ => .bool true⟩ (sel 27))),
       iOp (put 29) (.v false (oEv (sel 28))),
       iGuard (sel 29) false (put 30) (iOp (put 30) (.v false (oEv (sel 2)))),
       iGuard (sel 29) false (put 31) (iOp (put 31) (.v false (oInt2 fGtr (sel 30) ⟨fun _ => .int .i64 1172⟩))),
       iOp (put 32) (.v false (oPick (sel 29) ⟨fun _ => .bool true⟩ (sel 31)))])
     (sCond (sel 32)
       (sSeq (sRegion [iOp (put 33) (.v false (oEv (sel 9))),
          iOp (put 8) (.v false (oEv (sel 33)))])
        (sEx .ret))
       (sEx .normal)))
    (sSeq (sRegion [iOp (put 34) (.e (eCallF 10 [⟨fun _ => .int .i64 2⟩])),
       iOp (put 10) (.v false (oEv (sel 34)))])
     (sSeq (sSeq (sRegion [iOp (put 35) (.v false (oEv (sel 3))),
         iOp (put 36) (.v false (oEv (sel 35))),
         iGuard (sel 36) true (put 37) (iOp (put 37) (.v false (oEv (sel 10)))),
         iGuard (sel 36) true (put 38) (iOp (put 38) (.v false (oEv (sel 0)))),
         iGuard (sel 36) true (put 39) (iOp (put 39) (.v false (oInt2 fSub (sel 38) ⟨fun _ => .int .u32 5⟩))),
         iGuard (sel 36) true (put 40) (iOp (put 40) (.e (eCallF 14 [(sel 39), ⟨fun _ => .int .u16 1⟩, ⟨fun _ => .int .u16 7⟩, ⟨fun _ => .int .u8 3⟩, ⟨fun _ => .int .u8 1⟩]))),
         iGuard (sel 36) true (put 41) (iOp (put 41) (.e (eCallF 11 [(sel 37), (sel 40)]))),
         iGuard (sel 36) true (put 42) (iOp (put 42) (.v false (oNe (.one 1) (sel 41) ⟨fun _ => .int .i64 0⟩))),
         iOp (put 43) (.v false (oPick (sel 36) (sel 42) ⟨fun _ => .bool false⟩))])
       (sCond (sel 43)
         (sSeq (sRegion [iOp (put 8) (.v false (oEv ⟨fun _ => .bool false⟩))])
          (sEx .ret))
         (sEx .normal)))
      (sSeq (sRegion [iOp (put 44) (.v false (oEv (sel 1))),
         iOp (put 45) (.v false (oBuild [.int .u16 0, .bool false, .int .u32 0, .slice none 0 0] [(0, 1, ⟨fun _ => .int .u16 1⟩), (1, 1, ⟨fun _ => .bool true⟩), (2, 1, ⟨fun _ => .int .u32 9⟩), (3, 1, (sel 44))])),
         iOp (put 11) (.a (aAlloc 30 [.int .u16 0, .bool false, .int .u32 0, .slice none 0 0])),
         iOp ⟨fun _ a => a⟩ (.e (eStore 4 (sel 11) (sel 45)))])
       (sSeq (sRegion [iOp (put 47) (.v true (oLoadN 4 (sel 11))),
          iOp (put 48) (.v false (oEv (sel 0))),
          iOp (put 49) (.v false (oEv (sel 2))),
          iOp (put 50) (.e (eCallF 9 [(sel 47), (sel 48), ⟨fun _ => .int .u16 0⟩, (sel 49)])),
          iOp (put 46) (.v false (oEv (sel 50))),
          iOp (put 51) (.v false (oExtract (sel 46) 0)),
          iOp (put 52) (.v false (oExtract (sel 46) 1)),
          iOp (put 12) (.v false (oEv (sel 51))),
          iOp (put 13) (.v false (oEv (sel 52)))])
        (sSeq (sSeq (sRegion [iOp (put 53) (.v false (oEv (sel 12))),
            iOp (put 54) (.v false (oLenS (sel 53))),
            iOp (put 55) (.v false (oInt2 fSub (sel 54) ⟨fun _ => .int .i64 1⟩)),
            iOp (put 14) (.v false (oEv (sel 55)))])
          (sBlock 0 (sLoop c4_0)))
         (sSeq (sRegion [iOp (put 73) (.v false (oEv (sel 10))),
            iOp (put 74) (.e (eCallF 12 [(sel 73)])),
            iOp (put 15) (.v false (oEv (sel 74)))])
          (sSeq (sRegion [iOp (put 75) (.v false (oEv (sel 9))),
             iOp (put 76) (.v false (oEv (sel 75))),
             iGuard (sel 76) true (put 77) (iOp (put 77) (.v false (oEv (sel 15)))),
             iGuard (sel 76) true (put 78) (iOp (put 78) (.v false (oLenS (sel 77)))),
             iGuard (sel 76) true (put 79) (iOp (put 79) (.v false (oEq (.one 1) (sel 78) ⟨fun _ => .int .i64 1⟩))),
             iOp (put 80) (.v false (oPick (sel 76) (sel 79) ⟨fun _ => .bool false⟩)),
             iOp (put 81) (.v false (oEv (sel 80))),
             iGuard (sel 81) true (put 82) (iOp (put 82) (.v false (oEv (sel 15)))),
             iGuard (sel 81) true (put 83) (iOp (put 83) (.v false (oIndexAddrS 4 (sel 82) ⟨fun _ => .int .i64 0⟩))),
             iGuard (sel 81) true (put 84) (iOp (put 84) (.v true (oLoadN 4 (sel 83)))),
             iGuard (sel 81) true (put 85) (iOp (put 85) (.v true (oLoadN 4 (sel 11)))),
             iGuard (sel 81) true (put 86) (iOp (put 86) (.e (eCallF 15 [(sel 84), (sel 85)]))),
             iOp (put 87) (.v false (oPick (sel 81) (sel 86) ⟨fun _ => .bool false⟩)),
             iOp (put 88) (.v false (oEv (sel 87))),
             iGuard (sel 88) true (put 89) (iOp (put 89) (.v false (oEv (sel 10)))),
             iGuard (sel 88) true (put 90) (iOp (put 90) (.e (eCallF 12 [(sel 89)]))),
             iGuard (sel 88) true (put 91) (iOp (put 91) (.v false (oLenS (sel 90)))),
             iGuard (sel 88) true (put 92) (iOp (put 92) (.v false (oEq (.one 1) (sel 91) ⟨fun _ => .int .i64 0⟩))),
             iOp (put 93) (.v false (oPick (sel 88) (sel 92) ⟨fun _ => .bool false⟩)),
             iOp (put 8) (.v false (oEv (sel 93)))])
           (sEx .ret))))))))))⟩
theorem d4 : denF Try.prog 4 = some c4 := denF_of (by kernel_rfl)
noncomputable def c9_0 : Vm.Sem := sSeq (sSeq (sRegion [iOp (put 34) (.v false (oEv (sel 11))),
    iOp (put 35) (.v false (oLenS (sel 34))),
    iOp (put 36) (.v false (oInt2 fGtr (sel 35) ⟨fun _ => .int .i64 0⟩))])
  (sCond (sel 36)
    (sEx .normal)
    (sEx (.exit 0))))
 (sBlock 1 (sSeq (sRegion [iOp (put 37) (.v false (oEv (sel 3))),
     iOp (put 38) (.v false (oEv (sel 11))),
     iOp (put 39) (.v false (oLenS (sel 38))),
     iOp (put 40) (.v false (oBest true (sel 37) [(sel 39)])),
     iOp (put 12) (.v false (oEv (sel 40)))])
   (sSeq (sRegion [iOp (put 41) (.v false (oEv (sel 1))),
      iOp (put 42) (.v false (oEv (sel 10))),
      iOp (put 43) (.v false (oLenS (sel 42))),
      iOp (put 44) (.v false (oConvInt .u32 (sel 43))),
      iOp (put 45) (.v false (oInt2 fAdd (sel 41) (sel 44))),
      iOp (put 46) (.v false (oFieldAddr 0 (sel 4))),
      iOp (put 47) (.v true (oLoad1 (sel 46))),
      iOp (put 48) (.v false (oEv (sel 2))),
      iOp (put 49) (.v false (oFieldAddr 2 (sel 4))),
      iOp (put 50) (.v true (oLoad1 (sel 49))),
      iOp (put 51) (.v false (oEv (sel 11))),
      iOp (put 52) (.v false (oEv (sel 12))),
      iOp (put 53) (.v false (oSlice 1 (sel 51) none (some (sel 52)) none)),
      iOp (put 54) (.v false (oBuild [.int .u8 0, .int .u8 0, .int .u32 0, .int .u32 0, .int .u16 0, .int .u16 0, .int .u32 0, .slice none 0 0, .slice none 0 0, .slice none 0 0, .slice none 0 0, .slice none 0 0] [(0, 1, ⟨fun _ => .int .u8 0⟩), (2, 1, (sel 45)), (4, 1, (sel 47)), (5, 1, (sel 48)), (6, 1, (sel 50)), (11, 1, (sel 53))])),
      iOp (put 13) (.a (aAlloc 42 [.int .u8 0, .int .u8 0, .int .u32 0, .int .u32 0, .int .u16 0, .int .u16 0, .int .u32 0, .slice none 0 0, .slice none 0 0, .slice none 0 0, .slice none 0 0, .slice none 0 0])),
      iOp ⟨fun _ a => a⟩ (.e (eStore 12 (sel 13) (sel 54)))])
    (sSeq (sSeq (sRegion [iOp (put 55) (.v false (oEv (sel 10))),
        iOp (put 56) (.v false (oLenS (sel 55))),
        iOp (put 57) (.v false (oEq (.one 1) (sel 56) ⟨fun _ => .int .i64 0⟩))])
      (sCond (sel 57)
        (sRegion [iOp (put 58) (.v false (oFieldAddr 1 (sel 13))),
          iOp (put 59) (.v true (oLoad1 (sel 58))),
          iOp (put 60) (.v false (oInt2 fAdd (sel 59) ⟨fun _ => .int .u8 2⟩)),
          iOp (put 61) (.v false (oFieldAddr 1 (sel 13))),
          iOp ⟨fun _ a => a⟩ (.e (eStore 1 (sel 61) (sel 60)))])
        (sEx .normal)))
     (sSeq (sSeq (sRegion [iOp (put 62) (.v false (oEv (sel 12))),
         iOp (put 63) (.v false (oEv (sel 11))),
         iOp (put 64) (.v false (oLenS (sel 63))),
         iOp (put 65) (.v false (oEq (.one 1) (sel 62) (sel 64)))])
       (sCond (sel 65)
         (sRegion [iOp (put 66) (.v false (oFieldAddr 1 (sel 13))),
           iOp (put 67) (.v true (oLoad1 (sel 66))),
           iOp (put 68) (.v false (oInt2 fAdd (sel 67) ⟨fun _ => .int .u8 1⟩)),
           iOp (put 69) (.v false (oFieldAddr 1 (sel 13))),
           iOp ⟨fun _ a => a⟩ (.e (eStore 1 (sel 69) (sel 68)))])
         (sEx .normal)))
      (sSeq (sSeq (sRegion [iOp (put 70) (.v false (oFieldAddr 1 (sel 4))),
          iOp (put 71) (.v true (oLoad1 (sel 70)))])
        (sCond (sel 71)
          (sRegion [iOp (put 72) (.v false (oFieldAddr 1 (sel 13))),
            iOp (put 73) (.v true (oLoad1 (sel 72))),
            iOp (put 74) (.v false (oInt2 fAdd (sel 73) ⟨fun _ => .int .u8 4⟩)),
            iOp (put 75) (.v false (oFieldAddr 1 (sel 13))),
            iOp ⟨fun _ a => a⟩ (.e (eStore 1 (sel 75) (sel 74)))])
          (sEx .normal)))
       (sSeq (sRegion [iOp (put 76) (.v false (oEv (sel 10))),
          iOp (put 77) (.v true (oLoadN 12 (sel 13))),
          iOp (put 78) (.a (aBuildSlice 42 1 (rep 1 [.int .u8 0, .int .u8 0, .int .u32 0, .int .u32 0, .int .u16 0, .int .u16 0, .int .u32 0, .slice none 0 0, .slice none 0 0, .slice none 0 0, .slice none 0 0, .slice none 0 0]) [(0, 12, (sel 77))])),
          iOp (put 79) (.e (eAppend 42 12 144 (sel 76) (sel 78))),
          iOp (put 10) (.v false (oEv (sel 79)))])
        (sRegion [iOp (put 80) (.v false (oEv (sel 11))),
          iOp (put 81) (.v false (oEv (sel 12))),
          iOp (put 82) (.v false (oSlice 1 (sel 80) (some (sel 81)) none none)),
          iOp (put 11) (.v false (oEv (sel 82)))]))))))))
/-- bollard/bollardref13.Split -/
noncomputable def c9 : CF := ⟨84, [.tmp (sel 8), .tmp (sel 9)],
  sSeq (sRegion [iOp (put 4) (.a (aBox 30 (sel 0))),
    iOp (put 8) (.v false (oEv ⟨fun _ => .slice none 0 0⟩)),
    iOp (put 9) (.v false (oEv ⟨fun _ => .int .i64 0⟩))])
  (sSeq (sSeq (sRegion [iOp (put 14) (.v false (oFieldAddr 3 (sel 4))),
      iOp (put 15) (.v true (oLoad1 (sel 14))),
      iOp (put 16) (.v false (oLenS (sel 15))),
      iOp (put 17) (.v false (oEq (.one 1) (sel 16) ⟨fun _ => .int .i64 0⟩)),
      iOp (put 18) (.v false (oEv (sel 17))),
      iGuard (sel 18) false (put 19) (iOp (put 19) (.v false (oEv (sel 3)))),
      iGuard (sel 18) false (put 20) (iOp (put 20) (.v false (oInt2 fLss (sel 19) ⟨fun _ => .int .i64 1⟩))),
      iOp (put 21) (.v false (oPick (sel 18) ⟨fun _ => .bool true⟩ (sel 20))),
      iOp (put 22) (.v false (oEv (sel 21))),
      iGuard (sel 22) false (put 23) (iOp (put 23) (.v false (oEv (sel 3)))),
      iGuard (sel 22) false (put 24) (iOp (put 24) (.v false (oInt2 fGtr (sel 23) ⟨fun _ => .int .i64 1172⟩))),
      iOp (put 25) (.v false (oPick (sel 22) ⟨fun _ => .bool true⟩ (sel 24)))])
    (sCond (sel 25)
      (sSeq (sRegion [iOp (put 8) (.v false (oEv ⟨fun _ => .slice none 0 0⟩)),
         iOp (put 9) (.v false (oEv ⟨fun _ => .int .i64 1⟩))])
       (sEx .ret))
      (sEx .normal)))
   (sSeq (sSeq (sRegion [iOp (put 26) (.v false (oFieldAddr 3 (sel 4))),
       iOp (put 27) (.v true (oLoad1 (sel 26))),
       iOp (put 28) (.v false (oLenS (sel 27))),
       iOp (put 29) (.v false (oInt2 fGtr (sel 28) ⟨fun _ => .int .i64 16384⟩))])
     (sCond (sel 29)
       (sSeq (sRegion [iOp (put 8) (.v false (oEv ⟨fun _ => .slice none 0 0⟩)),
          iOp (put 9) (.v false (oEv ⟨fun _ => .int .i64 10⟩))])
        (sEx .ret))
       (sEx .normal)))
    (sSeq (sSeq (sRegion [iOp (put 30) (.v false (oFieldAddr 1 (sel 4))),
        iOp (put 31) (.v true (oLoad1 (sel 30)))])
      (sCond (sel 31)
        (sRegion [iOp (put 2) (.v false (oEv ⟨fun _ => .int .u16 0⟩))])
        (sEx .normal)))
     (sSeq (sRegion [iOp (put 10) (.v false (oEv ⟨fun _ => .slice none 0 0⟩))])
      (sSeq (sRegion [iOp (put 32) (.v false (oFieldAddr 3 (sel 4))),
         iOp (put 33) (.v true (oLoad1 (sel 32))),
         iOp (put 11) (.v false (oEv (sel 33)))])
       (sSeq (sBlock 0 (sLoop c9_0))
        (sSeq (sRegion [iOp (put 83) (.v false (oEv (sel 10))),
           iOp (put 8) (.v false (oEv (sel 83))),
           iOp (put 9) (.v false (oEv ⟨fun _ => .int .i64 0⟩))])
         (sEx .ret))))))))⟩
theorem d9 : denF Try.prog 9 = some c9 := denF_of (by kernel_rfl)
/-- bollard/join.New -/
noncomputable def c10 : CF := ⟨15, [.tmp (sel 2)],
  sSeq (sRegion [iOp (put 2) (.v false (oEv ⟨fun _ => .pointer none⟩))])
  (sSeq (sSeq (sRegion [iOp (put 3) (.v false (oEv (sel 0))),
      iOp (put 4) (.v false (oInt2 fLss (sel 3) ⟨fun _ => .int .i64 1⟩)),
      iOp (put 5) (.v false (oEv (sel 4))),
      iGuard (sel 5) false (put 6) (iOp (put 6) (.v false (oEv (sel 0)))),
      iGuard (sel 5) false (put 7) (iOp (put 7) (.v false (oInt2 fGtr (sel 6) ⟨fun _ => .int .i64 64⟩))),
      iOp (put 8) (.v false (oPick (sel 5) ⟨fun _ => .bool true⟩ (sel 7)))])
    (sCond (sel 8)
      (sRegion [iOp (put 0) (.v false (oEv ⟨fun _ => .int .i64 64⟩))])
      (sEx .normal)))
   (sSeq (sRegion [iOp (put 9) (.v false (oEv (sel 0))),
      iOp (put 10) (.a (aMakeSlice 27 2 [.int .u16 0] (sel 9) (sel 9))),
      iOp (put 11) (.a aMakeMap),
      iOp (put 12) (.a aMakeMap),
      iOp (put 13) (.v false (oBuild [.slice none 0 0, .map none, .map none, .slice none 0 0, .int .i64 0] [(0, 1, (sel 10)), (1, 1, (sel 11)), (2, 1, (sel 12))])),
      iOp (put 14) (.a (aBox 64 (sel 13))),
      iOp (put 2) (.v false (oEv (sel 14)))])
    (sEx .ret)))⟩
theorem d10 : denF Try.prog 10 = some c10 := denF_of (by kernel_rfl)
noncomputable def c11_0 : Vm.Sem := sSeq (sRegion [iOp (put 83) (.v false (oInt2 fLss (sel 82) (sel 81)))])
 (sSeq (sCond (sel 83)
    (sEx .normal)
    (sEx (.exit 1)))
  (sSeq (sBlock 2 (sSeq (sRegion [iOp (put 84) (.v false (oIndexAddrS 12 (sel 80) (sel 82))),
       iOp (put 85) (.v true (oLoadN 12 (sel 84))),
       iOp (put 9) (.a (aAlloc 42 [.int .u8 0, .int .u8 0, .int .u32 0, .int .u32 0, .int .u16 0, .int .u16 0, .int .u32 0, .slice none 0 0, .slice none 0 0, .slice none 0 0, .slice none 0 0, .slice none 0 0])),
       iOp ⟨fun _ a => a⟩ (.e (eStore 12 (sel 9) (sel 85)))])
     (sRegion [iOp (put 86) (.v false (oEv (sel 0))),
       iOp (put 87) (.v false (oNilCheck (sel 86))),
       iOp (put 88) (.v false (oFieldAddr 1 (sel 87))),
       iOp (put 89) (.v true (oLoad1 (sel 88))),
       iOp (put 90) (.v false (oFieldAddr 2 (sel 9))),
       iOp (put 91) (.v true (oLoad1 (sel 90))),
       iOp ⟨fun _ a => a⟩ (.e (eDelete (.one 1) (sel 89) (sel 91)))])))
   (sRegion [iOp (put 92) (.v false (oInt2 fAdd (sel 82) ⟨fun _ => .int .i64 1⟩)),
     iOp (put 82) (.v false (oEv (sel 92)))])))
/-- (*bollard/join.Join).Add -/
noncomputable def c11 : CF := ⟨105, [.tmp (sel 4)],
  sSeq (sRegion [iOp (put 3) (.a (aBox 42 (sel 1))),
    iOp (put 4) (.v false (oEv ⟨fun _ => .int .i64 0⟩))])
  (sSeq (sSeq (sRegion [iOp (put 12) (.v false (oEv (sel 0))),
      iOp (put 13) (.v false (oEq (.one 3) (sel 12) ⟨fun _ => .pointer none⟩)),
      iOp (put 14) (.v false (oEv (sel 13))),
      iGuard (sel 14) false (put 15) (iOp (put 15) (.v false (oFieldAddr 0 (sel 3)))),
      iGuard (sel 14) false (put 16) (iOp (put 16) (.v true (oLoad1 (sel 15)))),
      iGuard (sel 14) false (put 17) (iOp (put 17) (.v false (oNe (.one 1) (sel 16) ⟨fun _ => .int .u8 0⟩))),
      iOp (put 18) (.v false (oPick (sel 14) ⟨fun _ => .bool true⟩ (sel 17))),
      iOp (put 19) (.v false (oEv (sel 18))),
      iGuard (sel 19) false (put 20) (iOp (put 20) (.v false (oFieldAddr 11 (sel 3)))),
      iGuard (sel 19) false (put 21) (iOp (put 21) (.v true (oLoad1 (sel 20)))),
      iGuard (sel 19) false (put 22) (iOp (put 22) (.v false (oLenS (sel 21)))),
      iGuard (sel 19) false (put 23) (iOp (put 23) (.v false (oEq (.one 1) (sel 22) ⟨fun _ => .int .i64 0⟩))),
      iOp (put 24) (.v false (oPick (sel 19) ⟨fun _ => .bool true⟩ (sel 23)))])
    (sCond (sel 24)
      (sSeq (sRegion [iOp (put 4) (.v false (oEv ⟨fun _ => .int .i64 1⟩))])
       (sEx .ret))
      (sEx .normal)))
   (sSeq (sRegion [iOp (put 26) (.v false (oEv (sel 0))),
      iOp (put 27) (.v false (oNilCheck (sel 26))),
      iOp (put 28) (.v false (oFieldAddr 1 (sel 27))),
      iOp (put 29) (.v true (oLoad1 (sel 28))),
      iOp (put 30) (.v false (oFieldAddr 2 (sel 3))),
      iOp (put 31) (.v true (oLoad1 (sel 30))),
      iOp (put 32) (.v true (oLookup (.one 1) (.agg #[.int .u8 0, .int .u8 0, .int .u32 0, .int .u32 0, .int .u16 0, .int .u16 0, .int .u32 0, .slice none 0 0, .slice none 0 0, .slice none 0 0, .slice none 0 0, .slice none 0 0]) true (sel 29) (sel 31))),
      iOp (put 25) (.v false (oEv (sel 32))),
      iOp (put 33) (.v false (oExtract (sel 25) 0)),
      iOp (put 34) (.v false (oExtract (sel 25) 1)),
      iOp (put 5) (.a (aAlloc 42 [.int .u8 0, .int .u8 0, .int .u32 0, .int .u32 0, .int .u16 0, .int .u16 0, .int .u32 0, .slice none 0 0, .slice none 0 0, .slice none 0 0, .slice none 0 0, .slice none 0 0])),
      iOp ⟨fun _ a => a⟩ (.e (eStore 12 (sel 5) (sel 33))),
      iOp (put 6) (.v false (oEv (sel 34)))])
    (sSeq (sBlock 0 (sSeq (sRegion [iOp (put 36) (.v false (oEv (sel 0))),
         iOp (put 37) (.v false (oFieldAddr 4 (sel 3))),
         iOp (put 38) (.v true (oLoad1 (sel 37))),
         iOp (put 39) (.e (eCallF 19 [(sel 36), (sel 38)])),
         iOp (put 40) (.v false (oNot (sel 39))),
         iOp (put 35) (.v false (oEv (sel 40)))])
       (sCond (sel 35)
         (sSeq (sRegion [iOp (put 4) (.v false (oEv ⟨fun _ => .int .i64 12⟩))])
          (sEx .ret))
         (sSeq (sRegion [iOp (put 42) (.v false (oEv (sel 6))),
            iOp (put 41) (.v false (oEv (sel 42)))])
          (sCond (sel 41)
            (sSeq (sRegion [iOp (put 4) (.v false (oEv ⟨fun _ => .int .i64 8⟩))])
             (sEx .ret))
            (sSeq (sRegion [iOp (put 44) (.v false (oEv (sel 0))),
               iOp (put 45) (.v false (oNilCheck (sel 44))),
               iOp (put 46) (.v false (oFieldAddr 4 (sel 45))),
               iOp (put 47) (.v true (oLoad1 (sel 46))),
               iOp (put 48) (.v false (oFieldAddr 11 (sel 3))),
               iOp (put 49) (.v true (oLoad1 (sel 48))),
               iOp (put 50) (.v false (oLenS (sel 49))),
               iOp (put 51) (.v false (oInt2 fAdd (sel 47) (sel 50))),
               iOp (put 52) (.v false (oInt2 fGtr (sel 51) ⟨fun _ => .int .i64 65536⟩)),
               iOp (put 43) (.v false (oEv (sel 52)))])
             (sCond (sel 43)
               (sSeq (sRegion [iOp (put 4) (.v false (oEv ⟨fun _ => .int .i64 9⟩))])
                (sEx .ret))
               (sEx .normal))))))))
     (sSeq (sRegion [iOp (put 53) (.v false (oFieldAddr 11 (sel 3))),
        iOp (put 54) (.v true (oLoad1 (sel 53))),
        iOp (put 55) (.e (eCallF 20 [(sel 54)])),
        iOp (put 56) (.v false (oFieldAddr 11 (sel 3))),
        iOp ⟨fun _ a => a⟩ (.e (eStore 1 (sel 56) (sel 55)))])
      (sSeq (sRegion [iOp (put 57) (.v false (oEv (sel 0))),
         iOp (put 58) (.v false (oNilCheck (sel 57))),
         iOp (put 59) (.v false (oFieldAddr 1 (sel 58))),
         iOp (put 60) (.v true (oLoad1 (sel 59))),
         iOp (put 61) (.v false (oFieldAddr 2 (sel 3))),
         iOp (put 62) (.v true (oLoad1 (sel 61))),
         iOp (put 63) (.v true (oLoadN 12 (sel 3))),
         iOp ⟨fun _ a => a⟩ (.e (eMapUpdate (.one 1) (sel 60) (sel 62) (sel 63)))])
       (sSeq (sRegion [iOp (put 64) (.v false (oEv (sel 0))),
          iOp (put 65) (.v false (oNilCheck (sel 64))),
          iOp (put 66) (.v false (oFieldAddr 4 (sel 65))),
          iOp (put 67) (.v true (oLoad1 (sel 66))),
          iOp (put 68) (.v false (oFieldAddr 11 (sel 3))),
          iOp (put 69) (.v true (oLoad1 (sel 68))),
          iOp (put 70) (.v false (oLenS (sel 69))),
          iOp (put 71) (.v false (oInt2 fAdd (sel 67) (sel 70))),
          iOp (put 72) (.v false (oNilCheck (sel 64))),
          iOp (put 73) (.v false (oFieldAddr 4 (sel 72))),
          iOp ⟨fun _ a => a⟩ (.e (eStore 1 (sel 73) (sel 71)))])
        (sSeq (sSeq (sRegion [iOp (put 74) (.v false (oEv (sel 0))),
            iOp (put 75) (.v true (oLoadN 12 (sel 3))),
            iOp (put 76) (.e (eCallF 21 [(sel 74), (sel 75)])),
            iOp (put 7) (.v false (oEv (sel 76)))])
          (sSeq (sRegion [iOp (put 77) (.v false (oEv (sel 7))),
             iOp (put 78) (.v false (oLenS (sel 77))),
             iOp (put 79) (.v false (oInt2 fGtr (sel 78) ⟨fun _ => .int .i64 0⟩))])
           (sCond (sel 79)
             (sSeq (sSeq (sRegion [iOp (put 80) (.v false (oEv (sel 7))),
                 iOp (put 81) (.v false (oLenS (sel 80))),
                 iOp (put 82) (.v false (oEv ⟨fun _ => .int .i64 0⟩))])
               (sBlock 1 (sLoop c11_0)))
              (sSeq (sRegion [iOp (put 94) (.v false (oEv (sel 7))),
                 iOp (put 95) (.e (eCallF 22 [(sel 94)])),
                 iOp (put 93) (.v false (oEv (sel 95))),
                 iOp (put 96) (.v false (oExtract (sel 93) 0)),
                 iOp (put 97) (.v false (oExtract (sel 93) 1)),
                 iOp (put 10) (.a (aAlloc 30 [.int .u16 0, .bool false, .int .u32 0, .slice none 0 0])),
                 iOp ⟨fun _ a => a⟩ (.e (eStore 4 (sel 10) (sel 96))),
                 iOp (put 11) (.v false (oEv (sel 97)))])
               (sRegion [iOp (put 98) (.v false (oEv (sel 0))),
                 iOp (put 99) (.v true (oLoadN 4 (sel 10))),
                 iOp (put 100) (.v false (oEv (sel 7))),
                 iOp (put 101) (.v false (oIndexAddrS 12 (sel 100) ⟨fun _ => .int .i64 0⟩)),
                 iOp (put 102) (.v false (oFieldAddr 5 (sel 101))),
                 iOp (put 103) (.v true (oLoad1 (sel 102))),
                 iOp (put 104) (.e (eCallF 23 [(sel 98), (sel 99), (sel 103)]))])))
             (sEx .normal))))
         (sSeq (sRegion [iOp (put 4) (.v false (oEv ⟨fun _ => .int .i64 0⟩))])
          (sEx .ret)))))))))⟩
theorem d11 : denF Try.prog 11 = some c11 := denF_of (by kernel_rfl)
noncomputable def c12_0 : Vm.Sem := sSeq (sRegion [iOp (put 15) (.v false (oInt2 fLss (sel 14) (sel 13)))])
 (sSeq (sCond (sel 15)
    (sEx .normal)
    (sEx (.exit 0)))
  (sSeq (sBlock 1 (sSeq (sRegion [iOp (put 16) (.v false (oIndexAddrS 4 (sel 12) (sel 14))),
       iOp (put 17) (.v true (oLoadN 4 (sel 16))),
       iOp (put 5) (.a (aAlloc 30 [.int .u16 0, .bool false, .int .u32 0, .slice none 0 0])),
       iOp ⟨fun _ a => a⟩ (.e (eStore 4 (sel 5) (sel 17)))])
     (sRegion [iOp (put 18) (.v false (oEv (sel 0))),
       iOp (put 19) (.v false (oNilCheck (sel 18))),
       iOp (put 20) (.v false (oFieldAddr 4 (sel 19))),
       iOp (put 21) (.v true (oLoad1 (sel 20))),
       iOp (put 22) (.v false (oFieldAddr 3 (sel 5))),
       iOp (put 23) (.v true (oLoad1 (sel 22))),
       iOp (put 24) (.v false (oLenS (sel 23))),
       iOp (put 25) (.v false (oInt2 fSub (sel 21) (sel 24))),
       iOp (put 26) (.v false (oNilCheck (sel 18))),
       iOp (put 27) (.v false (oFieldAddr 4 (sel 26))),
       iOp ⟨fun _ a => a⟩ (.e (eStore 1 (sel 27) (sel 25)))])))
   (sRegion [iOp (put 28) (.v false (oInt2 fAdd (sel 14) ⟨fun _ => .int .i64 1⟩)),
     iOp (put 14) (.v false (oEv (sel 28)))])))
/-- (*bollard/join.Join).Take -/
noncomputable def c12 : CF := ⟨33, [.tmp (sel 2)],
  sSeq (sRegion [iOp (put 2) (.v false (oEv ⟨fun _ => .slice none 0 0⟩))])
  (sSeq (sSeq (sRegion [iOp (put 6) (.v false (oEv (sel 0))),
      iOp (put 7) (.v false (oEq (.one 3) (sel 6) ⟨fun _ => .pointer none⟩))])
    (sCond (sel 7)
      (sSeq (sRegion [iOp (put 2) (.v false (oEv ⟨fun _ => .slice none 0 0⟩))])
       (sEx .ret))
      (sEx .normal)))
   (sSeq (sRegion [iOp (put 8) (.v false (oEv (sel 0))),
      iOp (put 9) (.v false (oNilCheck (sel 8))),
      iOp (put 10) (.v false (oFieldAddr 3 (sel 9))),
      iOp (put 11) (.v true (oLoad1 (sel 10))),
      iOp (put 3) (.v false (oEv (sel 11)))])
    (sSeq (sSeq (sRegion [iOp (put 12) (.v false (oEv (sel 3))),
        iOp (put 13) (.v false (oLenS (sel 12))),
        iOp (put 14) (.v false (oEv ⟨fun _ => .int .i64 0⟩))])
      (sBlock 0 (sLoop c12_0)))
     (sSeq (sRegion [iOp (put 29) (.v false (oEv (sel 0))),
        iOp (put 30) (.v false (oNilCheck (sel 29))),
        iOp (put 31) (.v false (oFieldAddr 3 (sel 30))),
        iOp ⟨fun _ a => a⟩ (.e (eStore 1 (sel 31) ⟨fun _ => .slice none 0 0⟩))])
      (sSeq (sRegion [iOp (put 32) (.v false (oEv (sel 3))),
         iOp (put 2) (.v false (oEv (sel 32)))])
       (sEx .ret))))))⟩
theorem d12 : denF Try.prog 12 = some c12 := denF_of (by kernel_rfl)
noncomputable def c13_0 : Vm.Sem := sSeq (sSeq (sRegion [iOp (put 11) (.v false (oEv (sel 5))),
    iOp (put 12) (.v false (oEv (sel 0))),
    iOp (put 13) (.v false (oLenS (sel 12))),
    iOp (put 14) (.v false (oInt2 fLss (sel 11) (sel 13)))])
  (sCond (sel 14)
    (sEx .normal)
    (sEx (.exit 0))))
 (sSeq (sBlock 1 (sSeq (sRegion [iOp (put 17) (.v false (oEv (sel 0))),
      iOp (put 18) (.v false (oEv (sel 5))),
      iOp (put 19) (.v false (oIndexAddrS 4 (sel 17) (sel 18))),
      iOp (put 20) (.v true (oLoadN 4 (sel 19))),
      iOp (put 21) (.v false (oEv (sel 1))),
      iOp (put 22) (.v false (oEv (sel 5))),
      iOp (put 23) (.v false (oIndexAddrS 4 (sel 21) (sel 22))),
      iOp (put 24) (.v true (oLoadN 4 (sel 23))),
      iOp (put 25) (.e (eCallF 15 [(sel 20), (sel 24)])),
      iOp (put 26) (.v false (oNot (sel 25)))])
    (sCond (sel 26)
      (sSeq (sRegion [iOp (put 4) (.v false (oEv ⟨fun _ => .bool false⟩))])
       (sEx .ret))
      (sEx .normal))))
  (sRegion [iOp (put 15) (.v false (oEv (sel 5))),
    iOp (put 16) (.v false (oInt2 fAdd (sel 15) ⟨fun _ => .int .i64 1⟩)),
    iOp (put 5) (.v false (oEv (sel 16)))]))
/-- bollard/bollardref13.SameAll -/
noncomputable def c13 : CF := ⟨27, [.tmp (sel 4)],
  sSeq (sRegion [iOp (put 4) (.v false (oEv ⟨fun _ => .bool false⟩))])
  (sSeq (sSeq (sRegion [iOp (put 6) (.v false (oEv (sel 0))),
      iOp (put 7) (.v false (oLenS (sel 6))),
      iOp (put 8) (.v false (oEv (sel 1))),
      iOp (put 9) (.v false (oLenS (sel 8))),
      iOp (put 10) (.v false (oNe (.one 1) (sel 7) (sel 9)))])
    (sCond (sel 10)
      (sSeq (sRegion [iOp (put 4) (.v false (oEv ⟨fun _ => .bool false⟩))])
       (sEx .ret))
      (sEx .normal)))
   (sSeq (sSeq (sRegion [iOp (put 5) (.v false (oEv ⟨fun _ => .int .i64 0⟩))])
     (sBlock 0 (sLoop c13_0)))
    (sSeq (sRegion [iOp (put 4) (.v false (oEv ⟨fun _ => .bool true⟩))])
     (sEx .ret))))⟩
theorem d13 : denF Try.prog 13 = some c13 := denF_of (by kernel_rfl)
/-- bollard/bollardlaw14.piece -/
noncomputable def c14 : CF := ⟨18, [.agg (sel 10) 12],
  sSeq (sRegion [iOp (put 10) (.a (aAlloc 42 [.int .u8 0, .int .u8 0, .int .u32 0, .int .u32 0, .int .u16 0, .int .u16 0, .int .u32 0, .slice none 0 0, .slice none 0 0, .slice none 0 0, .slice none 0 0, .slice none 0 0]))])
  (sSeq (sRegion [iOp (put 11) (.v false (oEv (sel 3))),
     iOp (put 12) (.v false (oEv (sel 0))),
     iOp (put 13) (.v false (oEv (sel 1))),
     iOp (put 14) (.v false (oEv (sel 2))),
     iOp (put 15) (.v false (oEv (sel 4))),
     iOp (put 16) (.a (aBuildSlice 5 1 (rep 1 [.int .u8 0]) [(0, 1, (sel 15))])),
     iOp (put 17) (.v false (oBuild [.int .u8 0, .int .u8 0, .int .u32 0, .int .u32 0, .int .u16 0, .int .u16 0, .int .u32 0, .slice none 0 0, .slice none 0 0, .slice none 0 0, .slice none 0 0, .slice none 0 0] [(0, 1, ⟨fun _ => .int .u8 0⟩), (1, 1, (sel 11)), (2, 1, (sel 12)), (4, 1, (sel 13)), (5, 1, (sel 14)), (11, 1, (sel 16))])),
     iOp ⟨fun _ a => a⟩ (.e (eStore 12 (sel 10) (sel 17)))])
   (sEx .ret))⟩
theorem d14 : denF Try.prog 14 = some c14 := denF_of (by kernel_rfl)
/-- bollard/bollardref13.Same -/
noncomputable def c15 : CF := ⟨33, [.tmp (sel 4)],
  sSeq (sRegion [iOp (put 2) (.a (aBox 30 (sel 0))),
    iOp (put 3) (.a (aBox 30 (sel 1))),
    iOp (put 4) (.v false (oEv ⟨fun _ => .bool false⟩))])
  (sSeq (sRegion [iOp (put 5) (.v false (oFieldAddr 0 (sel 2))),
     iOp (put 6) (.v true (oLoad1 (sel 5))),
     iOp (put 7) (.v false (oFieldAddr 0 (sel 3))),
     iOp (put 8) (.v true (oLoad1 (sel 7))),
     iOp (put 9) (.v false (oEq (.one 1) (sel 6) (sel 8))),
     iOp (put 10) (.v false (oEv (sel 9))),
     iGuard (sel 10) true (put 11) (iOp (put 11) (.v false (oFieldAddr 1 (sel 2)))),
     iGuard (sel 10) true (put 12) (iOp (put 12) (.v true (oLoad1 (sel 11)))),
     iGuard (sel 10) true (put 13) (iOp (put 13) (.v false (oFieldAddr 1 (sel 3)))),
     iGuard (sel 10) true (put 14) (iOp (put 14) (.v true (oLoad1 (sel 13)))),
     iGuard (sel 10) true (put 15) (iOp (put 15) (.v false (oEq (.one 0) (sel 12) (sel 14)))),
     iOp (put 16) (.v false (oPick (sel 10) (sel 15) ⟨fun _ => .bool false⟩)),
     iOp (put 17) (.v false (oEv (sel 16))),
     iGuard (sel 17) true (put 18) (iOp (put 18) (.v false (oFieldAddr 2 (sel 2)))),
     iGuard (sel 17) true (put 19) (iOp (put 19) (.v true (oLoad1 (sel 18)))),
     iGuard (sel 17) true (put 20) (iOp (put 20) (.v false (oFieldAddr 2 (sel 3)))),
     iGuard (sel 17) true (put 21) (iOp (put 21) (.v true (oLoad1 (sel 20)))),
     iGuard (sel 17) true (put 22) (iOp (put 22) (.v false (oEq (.one 1) (sel 19) (sel 21)))),
     iOp (put 23) (.v false (oPick (sel 17) (sel 22) ⟨fun _ => .bool false⟩)),
     iOp (put 24) (.v false (oEv (sel 23))),
     iGuard (sel 24) true (put 25) (iOp (put 25) (.v false (oFieldAddr 3 (sel 2)))),
     iGuard (sel 24) true (put 26) (iOp (put 26) (.v true (oLoad1 (sel 25)))),
     iGuard (sel 24) true (put 27) (iOp (put 27) (.v true (oToString (sel 26)))),
     iGuard (sel 24) true (put 28) (iOp (put 28) (.v false (oFieldAddr 3 (sel 3)))),
     iGuard (sel 24) true (put 29) (iOp (put 29) (.v true (oLoad1 (sel 28)))),
     iGuard (sel 24) true (put 30) (iOp (put 30) (.v true (oToString (sel 29)))),
     iGuard (sel 24) true (put 31) (iOp (put 31) (.v false (oEq (.one 2) (sel 27) (sel 30)))),
     iOp (put 32) (.v false (oPick (sel 24) (sel 31) ⟨fun _ => .bool false⟩)),
     iOp (put 4) (.v false (oEv (sel 32)))])
   (sEx .ret))⟩
theorem d15 : denF Try.prog 15 = some c15 := denF_of (by kernel_rfl)
/-- (*bollard/join.Join).knows -/
noncomputable def c19 : CF := ⟨17, [.tmp (sel 4)],
  sSeq (sRegion [iOp (put 4) (.v false (oEv ⟨fun _ => .bool false⟩))])
  (sSeq (sRegion [iOp (put 5) (.v false (oEv (sel 0))),
     iOp (put 6) (.v false (oNe (.one 3) (sel 5) ⟨fun _ => .pointer none⟩)),
     iOp (put 7) (.v false (oEv (sel 6))),
     iGuard (sel 7) true (put 8) (iOp (put 8) (.v false (oEv (sel 1)))),
     iGuard (sel 7) true (put 9) (iOp (put 9) (.v false (oConvInt .i64 (sel 8)))),
     iGuard (sel 7) true (put 10) (iOp (put 10) (.v false (oEv (sel 0)))),
     iGuard (sel 7) true (put 11) (iOp (put 11) (.v false (oNilCheck (sel 10)))),
     iGuard (sel 7) true (put 12) (iOp (put 12) (.v false (oFieldAddr 0 (sel 11)))),
     iGuard (sel 7) true (put 13) (iOp (put 13) (.v true (oLoad1 (sel 12)))),
     iGuard (sel 7) true (put 14) (iOp (put 14) (.v false (oLenS (sel 13)))),
     iGuard (sel 7) true (put 15) (iOp (put 15) (.v false (oInt2 fLss (sel 9) (sel 14)))),
     iOp (put 16) (.v false (oPick (sel 7) (sel 15) ⟨fun _ => .bool false⟩)),
     iOp (put 4) (.v false (oEv (sel 16)))])
   (sEx .ret))⟩
theorem d19 : denF Try.prog 19 = some c19 := denF_of (by kernel_rfl)
/-- slices.Clone[[]byte,byte] -/
noncomputable def c20 : CF := ⟨8, [.tmp (sel 2)],
  sSeq (sRegion [iOp (put 2) (.v false (oEv ⟨fun _ => .slice none 0 0⟩))])
  (sSeq (sSeq (sRegion [iOp (put 3) (.v false (oEv (sel 0))),
      iOp (put 4) (.v false (oEq (.one 4) (sel 3) ⟨fun _ => .slice none 0 0⟩))])
    (sCond (sel 4)
      (sSeq (sRegion [iOp (put 2) (.v false (oEv ⟨fun _ => .slice none 0 0⟩))])
       (sEx .ret))
      (sEx .normal)))
   (sSeq (sRegion [iOp (put 5) (.a (aBuildSlice 5 0 (rep 0 [.int .u8 0]) [])),
      iOp (put 6) (.v false (oEv (sel 0))),
      iOp (put 7) (.e (eAppend 5 1 1 (sel 5) (sel 6))),
      iOp (put 2) (.v false (oEv (sel 7)))])
    (sEx .ret)))⟩
theorem d20 : denF Try.prog 20 = some c20 := denF_of (by kernel_rfl)
noncomputable def c21_0 : Vm.Sem := sSeq (sSeq (sRegion [iOp (put 13) (.v false (oFieldAddr 1 (sel 5))),
    iOp (put 14) (.v true (oLoad1 (sel 13))),
    iOp (put 15) (.v false (oInt2 fAnd (sel 14) ⟨fun _ => .int .u8 2⟩)),
    iOp (put 16) (.v false (oEq (.one 1) (sel 15) ⟨fun _ => .int .u8 0⟩))])
  (sCond (sel 16)
    (sEx .normal)
    (sEx (.exit 0))))
 (sBlock 1 (sSeq (sRegion [iOp (put 18) (.v false (oEv (sel 0))),
     iOp (put 19) (.v false (oNilCheck (sel 18))),
     iOp (put 20) (.v false (oFieldAddr 1 (sel 19))),
     iOp (put 21) (.v true (oLoad1 (sel 20))),
     iOp (put 22) (.v false (oFieldAddr 2 (sel 5))),
     iOp (put 23) (.v true (oLoad1 (sel 22))),
     iOp (put 24) (.v false (oInt2 fSub (sel 23) ⟨fun _ => .int .u32 1⟩)),
     iOp (put 25) (.v true (oLookup (.one 1) (.agg #[.int .u8 0, .int .u8 0, .int .u32 0, .int .u32 0, .int .u16 0, .int .u16 0, .int .u32 0, .slice none 0 0, .slice none 0 0, .slice none 0 0, .slice none 0 0, .slice none 0 0]) true (sel 21) (sel 24))),
     iOp (put 17) (.v false (oEv (sel 25))),
     iOp (put 26) (.v false (oExtract (sel 17) 0)),
     iOp (put 27) (.v false (oExtract (sel 17) 1)),
     iOp (put 6) (.a (aAlloc 42 [.int .u8 0, .int .u8 0, .int .u32 0, .int .u32 0, .int .u16 0, .int .u16 0, .int .u32 0, .slice none 0 0, .slice none 0 0, .slice none 0 0, .slice none 0 0, .slice none 0 0])),
     iOp ⟨fun _ a => a⟩ (.e (eStore 12 (sel 6) (sel 26))),
     iOp (put 7) (.v false (oEv (sel 27)))])
   (sSeq (sSeq (sRegion [iOp (put 28) (.v false (oEv (sel 7))),
       iOp (put 29) (.v false (oNot (sel 28))),
       iOp (put 30) (.v false (oEv (sel 29))),
       iGuard (sel 30) false (put 31) (iOp (put 31) (.v true (oLoadN 12 (sel 6)))),
       iGuard (sel 30) false (put 32) (iOp (put 32) (.v true (oLoadN 12 (sel 5)))),
       iGuard (sel 30) false (put 33) (iOp (put 33) (.e (eCallF 30 [(sel 31), (sel 32)]))),
       iGuard (sel 30) false (put 34) (iOp (put 34) (.v false (oNot (sel 33)))),
       iOp (put 35) (.v false (oPick (sel 30) ⟨fun _ => .bool true⟩ (sel 34)))])
     (sCond (sel 35)
       (sSeq (sRegion [iOp (put 4) (.v false (oEv ⟨fun _ => .slice none 0 0⟩))])
        (sEx .ret))
       (sEx .normal)))
    (sRegion [iOp (put 36) (.v true (oLoadN 12 (sel 6))),
      iOp ⟨fun _ a => a⟩ (.e (eStore 12 (sel 5) (sel 36)))]))))
noncomputable def c21_1 : Vm.Sem := sSeq (sSeq (sRegion [iOp (put 40) (.v false (oFieldAddr 1 (sel 9))),
    iOp (put 41) (.v true (oLoad1 (sel 40))),
    iOp (put 42) (.v false (oInt2 fAnd (sel 41) ⟨fun _ => .int .u8 1⟩)),
    iOp (put 43) (.v false (oEq (.one 1) (sel 42) ⟨fun _ => .int .u8 0⟩))])
  (sCond (sel 43)
    (sEx .normal)
    (sEx (.exit 2))))
 (sSeq (sBlock 3 (sSeq (sRegion [iOp (put 49) (.v false (oEv (sel 0))),
      iOp (put 50) (.v false (oNilCheck (sel 49))),
      iOp (put 51) (.v false (oFieldAddr 1 (sel 50))),
      iOp (put 52) (.v true (oLoad1 (sel 51))),
      iOp (put 53) (.v false (oFieldAddr 2 (sel 9))),
      iOp (put 54) (.v true (oLoad1 (sel 53))),
      iOp (put 55) (.v false (oInt2 fAdd (sel 54) ⟨fun _ => .int .u32 1⟩)),
      iOp (put 56) (.v true (oLookup (.one 1) (.agg #[.int .u8 0, .int .u8 0, .int .u32 0, .int .u32 0, .int .u16 0, .int .u16 0, .int .u32 0, .slice none 0 0, .slice none 0 0, .slice none 0 0, .slice none 0 0, .slice none 0 0]) true (sel 52) (sel 55))),
      iOp (put 48) (.v false (oEv (sel 56))),
      iOp (put 57) (.v false (oExtract (sel 48) 0)),
      iOp (put 58) (.v false (oExtract (sel 48) 1)),
      iOp (put 10) (.a (aAlloc 42 [.int .u8 0, .int .u8 0, .int .u32 0, .int .u32 0, .int .u16 0, .int .u16 0, .int .u32 0, .slice none 0 0, .slice none 0 0, .slice none 0 0, .slice none 0 0, .slice none 0 0])),
      iOp ⟨fun _ a => a⟩ (.e (eStore 12 (sel 10) (sel 57))),
      iOp (put 11) (.v false (oEv (sel 58)))])
    (sSeq (sSeq (sRegion [iOp (put 59) (.v false (oEv (sel 11))),
        iOp (put 60) (.v false (oNot (sel 59))),
        iOp (put 61) (.v false (oEv (sel 60))),
        iGuard (sel 61) false (put 62) (iOp (put 62) (.v true (oLoadN 12 (sel 9)))),
        iGuard (sel 61) false (put 63) (iOp (put 63) (.v true (oLoadN 12 (sel 10)))),
        iGuard (sel 61) false (put 64) (iOp (put 64) (.e (eCallF 30 [(sel 62), (sel 63)]))),
        iGuard (sel 61) false (put 65) (iOp (put 65) (.v false (oNot (sel 64)))),
        iOp (put 66) (.v false (oPick (sel 61) ⟨fun _ => .bool true⟩ (sel 65)))])
      (sCond (sel 66)
        (sSeq (sRegion [iOp (put 4) (.v false (oEv ⟨fun _ => .slice none 0 0⟩))])
         (sEx .ret))
        (sEx .normal)))
     (sRegion [iOp (put 67) (.v true (oLoadN 12 (sel 10))),
       iOp ⟨fun _ a => a⟩ (.e (eStore 12 (sel 9) (sel 67)))]))))
  (sSeq (sSeq (sRegion [iOp (put 68) (.v true (oLoadN 12 (sel 9)))])
    (sRegion [iOp (put 9) (.a (aAlloc 42 [.int .u8 0, .int .u8 0, .int .u32 0, .int .u32 0, .int .u16 0, .int .u16 0, .int .u32 0, .slice none 0 0, .slice none 0 0, .slice none 0 0, .slice none 0 0, .slice none 0 0])),
      iOp ⟨fun _ a => a⟩ (.e (eStore 12 (sel 9) (sel 68)))]))
   (sRegion [iOp (put 44) (.v false (oEv (sel 8))),
     iOp (put 45) (.v true (oLoadN 12 (sel 9))),
     iOp (put 46) (.a (aBuildSlice 42 1 (rep 1 [.int .u8 0, .int .u8 0, .int .u32 0, .int .u32 0, .int .u16 0, .int .u16 0, .int .u32 0, .slice none 0 0, .slice none 0 0, .slice none 0 0, .slice none 0 0, .slice none 0 0]) [(0, 12, (sel 45))])),
     iOp (put 47) (.e (eAppend 42 12 144 (sel 44) (sel 46))),
     iOp (put 8) (.v false (oEv (sel 47)))])))
/-- (*bollard/join.Join).run -/
noncomputable def c21 : CF := ⟨70, [.tmp (sel 4)],
  sSeq (sRegion [iOp (put 3) (.a (aBox 42 (sel 1))),
    iOp (put 4) (.v false (oEv ⟨fun _ => .slice none 0 0⟩))])
  (sSeq (sRegion [iOp (put 12) (.v true (oLoadN 12 (sel 3))),
     iOp (put 5) (.a (aAlloc 42 [.int .u8 0, .int .u8 0, .int .u32 0, .int .u32 0, .int .u16 0, .int .u16 0, .int .u32 0, .slice none 0 0, .slice none 0 0, .slice none 0 0, .slice none 0 0, .slice none 0 0])),
     iOp ⟨fun _ a => a⟩ (.e (eStore 12 (sel 5) (sel 12)))])
   (sSeq (sBlock 0 (sLoop c21_0))
    (sSeq (sRegion [iOp (put 37) (.v true (oLoadN 12 (sel 5))),
       iOp (put 38) (.a (aBuildSlice 42 1 (rep 1 [.int .u8 0, .int .u8 0, .int .u32 0, .int .u32 0, .int .u16 0, .int .u16 0, .int .u32 0, .slice none 0 0, .slice none 0 0, .slice none 0 0, .slice none 0 0, .slice none 0 0]) [(0, 12, (sel 37))])),
       iOp (put 8) (.v false (oEv (sel 38)))])
     (sSeq (sSeq (sRegion [iOp (put 39) (.v true (oLoadN 12 (sel 5))),
         iOp (put 9) (.a (aAlloc 42 [.int .u8 0, .int .u8 0, .int .u32 0, .int .u32 0, .int .u16 0, .int .u16 0, .int .u32 0, .slice none 0 0, .slice none 0 0, .slice none 0 0, .slice none 0 0, .slice none 0 0])),
         iOp ⟨fun _ a => a⟩ (.e (eStore 12 (sel 9) (sel 39)))])
       (sBlock 2 (sLoop c21_1)))
      (sSeq (sRegion [iOp (put 69) (.v false (oEv (sel 8))),
         iOp (put 4) (.v false (oEv (sel 69)))])
       (sEx .ret))))))⟩
theorem d21 : denF Try.prog 21 = some c21 := denF_of (by kernel_rfl)
noncomputable def c22_0 : Vm.Sem := sSeq (sRegion [iOp (put 55) (.v false (oInt2 fLss (sel 54) (sel 53)))])
 (sSeq (sCond (sel 55)
    (sEx .normal)
    (sEx (.exit 0)))
  (sSeq (sBlock 1 (sSeq (sRegion [iOp (put 56) (.v false (oEv (sel 54))),
       iOp (put 57) (.v false (oIndexAddrS 12 (sel 52) (sel 54))),
       iOp (put 58) (.v true (oLoadN 12 (sel 57))),
       iOp (put 6) (.a (aAlloc 42 [.int .u8 0, .int .u8 0, .int .u32 0, .int .u32 0, .int .u16 0, .int .u16 0, .int .u32 0, .slice none 0 0, .slice none 0 0, .slice none 0 0, .slice none 0 0, .slice none 0 0])),
       iOp (put 5) (.v false (oEv (sel 56))),
       iOp ⟨fun _ a => a⟩ (.e (eStore 12 (sel 6) (sel 58)))])
     (sSeq (sSeq (sRegion [iOp (put 59) (.v false (oEv (sel 5))),
         iOp (put 60) (.v false (oInt2 fGtr (sel 59) ⟨fun _ => .int .i64 0⟩)),
         iOp (put 61) (.v false (oEv (sel 60))),
         iGuard (sel 61) true (put 62) (iOp (put 62) (.v false (oEv (sel 0)))),
         iGuard (sel 61) true (put 63) (iOp (put 63) (.v false (oEv (sel 5)))),
         iGuard (sel 61) true (put 64) (iOp (put 64) (.v false (oInt2 fSub (sel 63) ⟨fun _ => .int .i64 1⟩))),
         iGuard (sel 61) true (put 65) (iOp (put 65) (.v false (oIndexAddrS 12 (sel 62) (sel 64)))),
         iGuard (sel 61) true (put 66) (iOp (put 66) (.v true (oLoadN 12 (sel 65)))),
         iGuard (sel 61) true (put 67) (iOp (put 67) (.v true (oLoadN 12 (sel 6)))),
         iGuard (sel 61) true (put 68) (iOp (put 68) (.e (eCallF 30 [(sel 66), (sel 67)]))),
         iGuard (sel 61) true (put 69) (iOp (put 69) (.v false (oNot (sel 68)))),
         iOp (put 70) (.v false (oPick (sel 61) (sel 69) ⟨fun _ => .bool false⟩))])
       (sCond (sel 70)
         (sSeq (sRegion [iOp (put 71) (.v false (oBuild [.int .u16 0, .bool false, .int .u32 0, .slice none 0 0] [])),
            iOp ⟨fun _ a => a⟩ (.e (eStore 4 (sel 2) (sel 71))),
            iOp (put 3) (.v false (oEv ⟨fun _ => .bool false⟩))])
          (sEx .ret))
         (sEx .normal)))
      (sRegion [iOp (put 72) (.v false (oFieldAddr 3 (sel 4))),
        iOp (put 73) (.v true (oLoad1 (sel 72))),
        iOp (put 74) (.v false (oFieldAddr 11 (sel 6))),
        iOp (put 75) (.v true (oLoad1 (sel 74))),
        iOp (put 76) (.e (eAppend 5 1 1 (sel 73) (sel 75))),
        iOp (put 77) (.v false (oFieldAddr 3 (sel 4))),
        iOp ⟨fun _ a => a⟩ (.e (eStore 1 (sel 77) (sel 76)))]))))
   (sRegion [iOp (put 78) (.v false (oInt2 fAdd (sel 54) ⟨fun _ => .int .i64 1⟩)),
     iOp (put 54) (.v false (oEv (sel 78)))])))
/-- bollard/split.Whole -/
noncomputable def c22 : CF := ⟨80, [.agg (sel 2) 4, .tmp (sel 3)],
  sSeq (sRegion [iOp (put 2) (.a (aAlloc 30 [.int .u16 0, .bool false, .int .u32 0, .slice none 0 0])),
    iOp (put 3) (.v false (oEv ⟨fun _ => .bool false⟩))])
  (sSeq (sSeq (sRegion [iOp (put 7) (.v false (oEv (sel 0))),
      iOp (put 8) (.v false (oLenS (sel 7))),
      iOp (put 9) (.v false (oEq (.one 1) (sel 8) ⟨fun _ => .int .i64 0⟩)),
      iOp (put 10) (.v false (oEv (sel 9))),
      iGuard (sel 10) false (put 11) (iOp (put 11) (.v false (oEv (sel 0)))),
      iGuard (sel 10) false (put 12) (iOp (put 12) (.v false (oIndexAddrS 12 (sel 11) ⟨fun _ => .int .i64 0⟩))),
      iGuard (sel 10) false (put 13) (iOp (put 13) (.v false (oFieldAddr 0 (sel 12)))),
      iGuard (sel 10) false (put 14) (iOp (put 14) (.v true (oLoad1 (sel 13)))),
      iGuard (sel 10) false (put 15) (iOp (put 15) (.v false (oNe (.one 1) (sel 14) ⟨fun _ => .int .u8 0⟩))),
      iOp (put 16) (.v false (oPick (sel 10) ⟨fun _ => .bool true⟩ (sel 15))),
      iOp (put 17) (.v false (oEv (sel 16))),
      iGuard (sel 17) false (put 18) (iOp (put 18) (.v false (oEv (sel 0)))),
      iGuard (sel 17) false (put 19) (iOp (put 19) (.v false (oIndexAddrS 12 (sel 18) ⟨fun _ => .int .i64 0⟩))),
      iGuard (sel 17) false (put 20) (iOp (put 20) (.v false (oFieldAddr 1 (sel 19)))),
      iGuard (sel 17) false (put 21) (iOp (put 21) (.v true (oLoad1 (sel 20)))),
      iGuard (sel 17) false (put 22) (iOp (put 22) (.v false (oInt2 fAnd (sel 21) ⟨fun _ => .int .u8 2⟩))),
      iGuard (sel 17) false (put 23) (iOp (put 23) (.v false (oEq (.one 1) (sel 22) ⟨fun _ => .int .u8 0⟩))),
      iOp (put 24) (.v false (oPick (sel 17) ⟨fun _ => .bool true⟩ (sel 23))),
      iOp (put 25) (.v false (oEv (sel 24))),
      iGuard (sel 25) false (put 26) (iOp (put 26) (.v false (oEv (sel 0)))),
      iGuard (sel 25) false (put 27) (iOp (put 27) (.v false (oEv (sel 0)))),
      iGuard (sel 25) false (put 28) (iOp (put 28) (.v false (oLenS (sel 27)))),
      iGuard (sel 25) false (put 29) (iOp (put 29) (.v false (oInt2 fSub (sel 28) ⟨fun _ => .int .i64 1⟩))),
      iGuard (sel 25) false (put 30) (iOp (put 30) (.v false (oIndexAddrS 12 (sel 26) (sel 29)))),
      iGuard (sel 25) false (put 31) (iOp (put 31) (.v false (oFieldAddr 1 (sel 30)))),
      iGuard (sel 25) false (put 32) (iOp (put 32) (.v true (oLoad1 (sel 31)))),
      iGuard (sel 25) false (put 33) (iOp (put 33) (.v false (oInt2 fAnd (sel 32) ⟨fun _ => .int .u8 1⟩))),
      iGuard (sel 25) false (put 34) (iOp (put 34) (.v false (oEq (.one 1) (sel 33) ⟨fun _ => .int .u8 0⟩))),
      iOp (put 35) (.v false (oPick (sel 25) ⟨fun _ => .bool true⟩ (sel 34)))])
    (sCond (sel 35)
      (sSeq (sRegion [iOp (put 36) (.v false (oBuild [.int .u16 0, .bool false, .int .u32 0, .slice none 0 0] [])),
         iOp ⟨fun _ a => a⟩ (.e (eStore 4 (sel 2) (sel 36))),
         iOp (put 3) (.v false (oEv ⟨fun _ => .bool false⟩))])
       (sEx .ret))
      (sEx .normal)))
   (sSeq (sRegion [iOp (put 37) (.v false (oEv (sel 0))),
      iOp (put 38) (.v false (oIndexAddrS 12 (sel 37) ⟨fun _ => .int .i64 0⟩)),
      iOp (put 39) (.v false (oFieldAddr 4 (sel 38))),
      iOp (put 40) (.v true (oLoad1 (sel 39))),
      iOp (put 41) (.v false (oEv (sel 0))),
      iOp (put 42) (.v false (oIndexAddrS 12 (sel 41) ⟨fun _ => .int .i64 0⟩)),
      iOp (put 43) (.v false (oFieldAddr 1 (sel 42))),
      iOp (put 44) (.v true (oLoad1 (sel 43))),
      iOp (put 45) (.v false (oInt2 fAnd (sel 44) ⟨fun _ => .int .u8 4⟩)),
      iOp (put 46) (.v false (oNe (.one 1) (sel 45) ⟨fun _ => .int .u8 0⟩)),
      iOp (put 47) (.v false (oEv (sel 0))),
      iOp (put 48) (.v false (oIndexAddrS 12 (sel 47) ⟨fun _ => .int .i64 0⟩)),
      iOp (put 49) (.v false (oFieldAddr 6 (sel 48))),
      iOp (put 50) (.v true (oLoad1 (sel 49))),
      iOp (put 51) (.v false (oBuild [.int .u16 0, .bool false, .int .u32 0, .slice none 0 0] [(0, 1, (sel 40)), (1, 1, (sel 46)), (2, 1, (sel 50))])),
      iOp (put 4) (.a (aAlloc 30 [.int .u16 0, .bool false, .int .u32 0, .slice none 0 0])),
      iOp ⟨fun _ a => a⟩ (.e (eStore 4 (sel 4) (sel 51)))])
    (sSeq (sSeq (sRegion [iOp (put 52) (.v false (oEv (sel 0))),
        iOp (put 53) (.v false (oLenS (sel 52))),
        iOp (put 54) (.v false (oEv ⟨fun _ => .int .i64 0⟩))])
      (sBlock 0 (sLoop c22_0)))
     (sSeq (sRegion [iOp (put 79) (.v true (oLoadN 4 (sel 4))),
        iOp ⟨fun _ a => a⟩ (.e (eStore 4 (sel 2) (sel 79))),
        iOp (put 3) (.v false (oEv ⟨fun _ => .bool true⟩))])
      (sEx .ret)))))⟩
theorem d22 : denF Try.prog 22 = some c22 := denF_of (by kernel_rfl)
/-- (*bollard/join.Join).keep -/
noncomputable def c23 : CF := ⟨69, [],
  sSeq (sRegion [iOp (put 4) (.a (aBox 30 (sel 1)))])
  (sSeq (sRegion [iOp (put 9) (.v false (oFieldAddr 0 (sel 4))),
     iOp (put 10) (.v true (oLoad1 (sel 9))),
     iOp (put 11) (.v false (oEv (sel 2))),
     iOp (put 12) (.v false (oBuild [.int .u16 0, .int .u16 0] [(0, 1, (sel 10)), (1, 1, (sel 11))])),
     iOp (put 6) (.a (aAlloc 78 [.int .u16 0, .int .u16 0])),
     iOp ⟨fun _ a => a⟩ (.e (eStore 2 (sel 6) (sel 12)))])
   (sSeq (sRegion [iOp (put 14) (.v false (oEv (sel 0))),
      iOp (put 15) (.v false (oNilCheck (sel 14))),
      iOp (put 16) (.v false (oFieldAddr 2 (sel 15))),
      iOp (put 17) (.v true (oLoad1 (sel 16))),
      iOp (put 18) (.v true (oLoadN 2 (sel 6))),
      iOp (put 19) (.v true (oLookup (.agg [1, 1]) (.agg #[.int .u16 0, .bool false, .int .u32 0, .slice none 0 0]) true (sel 17) (sel 18))),
      iOp (put 13) (.v false (oEv (sel 19))),
      iOp (put 20) (.v false (oExtract (sel 13) 0)),
      iOp (put 21) (.v false (oExtract (sel 13) 1)),
      iOp (put 7) (.a (aAlloc 30 [.int .u16 0, .bool false, .int .u32 0, .slice none 0 0])),
      iOp ⟨fun _ a => a⟩ (.e (eStore 4 (sel 7) (sel 20))),
      iOp (put 8) (.v false (oEv (sel 21)))])
    (sBlock 0 (sSeq (sRegion [iOp (put 33) (.v false (oFieldAddr 1 (sel 4))),
        iOp (put 34) (.v true (oLoad1 (sel 33))),
        iOp (put 32) (.v false (oEv (sel 34)))])
      (sCond (sel 32)
        (sRegion [iOp (put 35) (.v false (oEv (sel 0))),
          iOp (put 36) (.v false (oEv (sel 0))),
          iOp (put 37) (.v false (oNilCheck (sel 36))),
          iOp (put 38) (.v false (oFieldAddr 3 (sel 37))),
          iOp (put 39) (.v true (oLoad1 (sel 38))),
          iOp (put 40) (.v true (oLoadN 4 (sel 4))),
          iOp (put 41) (.a (aBuildSlice 30 1 (rep 1 [.int .u16 0, .bool false, .int .u32 0, .slice none 0 0]) [(0, 4, (sel 40))])),
          iOp (put 42) (.e (eAppend 30 4 32 (sel 39) (sel 41))),
          iOp (put 43) (.v false (oNilCheck (sel 35))),
          iOp (put 44) (.v false (oFieldAddr 3 (sel 43))),
          iOp ⟨fun _ a => a⟩ (.e (eStore 1 (sel 44) (sel 42)))])
        (sSeq (sRegion [iOp (put 46) (.v false (oEv (sel 8))),
           iOp (put 47) (.v false (oEv (sel 46))),
           iGuard (sel 47) false (put 48) (iOp (put 48) (.v false (oEv (sel 2)))),
           iGuard (sel 47) false (put 49) (iOp (put 49) (.v false (oEv (sel 0)))),
           iGuard (sel 47) false (put 50) (iOp (put 50) (.v false (oNilCheck (sel 49)))),
           iGuard (sel 47) false (put 51) (iOp (put 51) (.v false (oFieldAddr 0 (sel 50)))),
           iGuard (sel 47) false (put 52) (iOp (put 52) (.v true (oLoad1 (sel 51)))),
           iGuard (sel 47) false (put 53) (iOp (put 53) (.v false (oFieldAddr 0 (sel 4)))),
           iGuard (sel 47) false (put 54) (iOp (put 54) (.v true (oLoad1 (sel 53)))),
           iGuard (sel 47) false (put 55) (iOp (put 55) (.v false (oIndexAddrS 1 (sel 52) (sel 54)))),
           iGuard (sel 47) false (put 56) (iOp (put 56) (.v true (oLoad1 (sel 55)))),
           iGuard (sel 47) false (put 57) (iOp (put 57) (.e (eCallF 31 [(sel 48), (sel 56)]))),
           iOp (put 58) (.v false (oPick (sel 47) ⟨fun _ => .bool true⟩ (sel 57))),
           iOp (put 45) (.v false (oEv (sel 58)))])
         (sCond (sel 45)
           (sRegion [iOp (put 59) (.v false (oEv (sel 0))),
             iOp (put 60) (.v false (oNilCheck (sel 59))),
             iOp (put 61) (.v false (oFieldAddr 4 (sel 60))),
             iOp (put 62) (.v true (oLoad1 (sel 61))),
             iOp (put 63) (.v false (oFieldAddr 3 (sel 4))),
             iOp (put 64) (.v true (oLoad1 (sel 63))),
             iOp (put 65) (.v false (oLenS (sel 64))),
             iOp (put 66) (.v false (oInt2 fSub (sel 62) (sel 65))),
             iOp (put 67) (.v false (oNilCheck (sel 59))),
             iOp (put 68) (.v false (oFieldAddr 4 (sel 67))),
             iOp ⟨fun _ a => a⟩ (.e (eStore 1 (sel 68) (sel 66)))])
           (sSeq (sRegion [iOp (put 22) (.v false (oEv (sel 0))),
              iOp (put 23) (.v false (oNilCheck (sel 22))),
              iOp (put 24) (.v false (oFieldAddr 2 (sel 23))),
              iOp (put 25) (.v true (oLoad1 (sel 24))),
              iOp (put 26) (.v true (oLoadN 2 (sel 6))),
              iOp (put 27) (.v true (oLoadN 4 (sel 4))),
              iOp ⟨fun _ a => a⟩ (.e (eMapUpdate (.agg [1, 1]) (sel 25) (sel 26) (sel 27)))])
            (sRegion [iOp (put 28) (.v false (oEv (sel 0))),
              iOp (put 29) (.v false (oFieldAddr 0 (sel 4))),
              iOp (put 30) (.v true (oLoad1 (sel 29))),
              iOp (put 31) (.e (eCallF 32 [(sel 28), (sel 30)]))])))))))))⟩
theorem d23 : denF Try.prog 23 = some c23 := denF_of (by kernel_rfl)
/-- bollard/split.Follows -/
noncomputable def c30 : CF := ⟨67, [.tmp (sel 4)],
  sSeq (sRegion [iOp (put 2) (.a (aBox 42 (sel 0))),
    iOp (put 3) (.a (aBox 42 (sel 1))),
    iOp (put 4) (.v false (oEv ⟨fun _ => .bool false⟩))])
  (sSeq (sRegion [iOp (put 7) (.v false (oFieldAddr 0 (sel 2))),
     iOp (put 8) (.v true (oLoad1 (sel 7))),
     iOp (put 9) (.v false (oEq (.one 1) (sel 8) ⟨fun _ => .int .u8 0⟩)),
     iOp (put 10) (.v false (oEv (sel 9))),
     iGuard (sel 10) true (put 11) (iOp (put 11) (.v false (oFieldAddr 0 (sel 3)))),
     iGuard (sel 10) true (put 12) (iOp (put 12) (.v true (oLoad1 (sel 11)))),
     iGuard (sel 10) true (put 13) (iOp (put 13) (.v false (oEq (.one 1) (sel 12) ⟨fun _ => .int .u8 0⟩))),
     iOp (put 14) (.v false (oPick (sel 10) (sel 13) ⟨fun _ => .bool false⟩)),
     iOp (put 5) (.v false (oEv (sel 14)))])
   (sSeq (sRegion [iOp (put 15) (.v false (oFieldAddr 4 (sel 2))),
      iOp (put 16) (.v true (oLoad1 (sel 15))),
      iOp (put 17) (.v false (oFieldAddr 4 (sel 3))),
      iOp (put 18) (.v true (oLoad1 (sel 17))),
      iOp (put 19) (.v false (oEq (.one 1) (sel 16) (sel 18))),
      iOp (put 20) (.v false (oEv (sel 19))),
      iGuard (sel 20) true (put 21) (iOp (put 21) (.v false (oFieldAddr 5 (sel 2)))),
      iGuard (sel 20) true (put 22) (iOp (put 22) (.v true (oLoad1 (sel 21)))),
      iGuard (sel 20) true (put 23) (iOp (put 23) (.v false (oFieldAddr 5 (sel 3)))),
      iGuard (sel 20) true (put 24) (iOp (put 24) (.v true (oLoad1 (sel 23)))),
      iGuard (sel 20) true (put 25) (iOp (put 25) (.v false (oEq (.one 1) (sel 22) (sel 24)))),
      iOp (put 26) (.v false (oPick (sel 20) (sel 25) ⟨fun _ => .bool false⟩)),
      iOp (put 27) (.v false (oEv (sel 26))),
      iGuard (sel 27) true (put 28) (iOp (put 28) (.v false (oFieldAddr 6 (sel 2)))),
      iGuard (sel 27) true (put 29) (iOp (put 29) (.v true (oLoad1 (sel 28)))),
      iGuard (sel 27) true (put 30) (iOp (put 30) (.v false (oFieldAddr 6 (sel 3)))),
      iGuard (sel 27) true (put 31) (iOp (put 31) (.v true (oLoad1 (sel 30)))),
      iGuard (sel 27) true (put 32) (iOp (put 32) (.v false (oEq (.one 1) (sel 29) (sel 31)))),
      iOp (put 33) (.v false (oPick (sel 27) (sel 32) ⟨fun _ => .bool false⟩)),
      iOp (put 34) (.v false (oEv (sel 33))),
      iGuard (sel 34) true (put 35) (iOp (put 35) (.v false (oFieldAddr 1 (sel 2)))),
      iGuard (sel 34) true (put 36) (iOp (put 36) (.v true (oLoad1 (sel 35)))),
      iGuard (sel 34) true (put 37) (iOp (put 37) (.v false (oFieldAddr 1 (sel 3)))),
      iGuard (sel 34) true (put 38) (iOp (put 38) (.v true (oLoad1 (sel 37)))),
      iGuard (sel 34) true (put 39) (iOp (put 39) (.v false (oInt2 fXor (sel 36) (sel 38)))),
      iGuard (sel 34) true (put 40) (iOp (put 40) (.v false (oInt2 fAnd (sel 39) ⟨fun _ => .int .u8 4⟩))),
      iGuard (sel 34) true (put 41) (iOp (put 41) (.v false (oEq (.one 1) (sel 40) ⟨fun _ => .int .u8 0⟩))),
      iOp (put 42) (.v false (oPick (sel 34) (sel 41) ⟨fun _ => .bool false⟩)),
      iOp (put 6) (.v false (oEv (sel 42)))])
    (sSeq (sRegion [iOp (put 43) (.v false (oEv (sel 5))),
       iOp (put 44) (.v false (oEv (sel 43))),
       iGuard (sel 44) true (put 45) (iOp (put 45) (.v false (oEv (sel 6)))),
       iOp (put 46) (.v false (oPick (sel 44) (sel 45) ⟨fun _ => .bool false⟩)),
       iOp (put 47) (.v false (oEv (sel 46))),
       iGuard (sel 47) true (put 48) (iOp (put 48) (.v false (oFieldAddr 2 (sel 3)))),
       iGuard (sel 47) true (put 49) (iOp (put 49) (.v true (oLoad1 (sel 48)))),
       iGuard (sel 47) true (put 50) (iOp (put 50) (.v false (oFieldAddr 2 (sel 2)))),
       iGuard (sel 47) true (put 51) (iOp (put 51) (.v true (oLoad1 (sel 50)))),
       iGuard (sel 47) true (put 52) (iOp (put 52) (.v false (oInt2 fAdd (sel 51) ⟨fun _ => .int .u32 1⟩))),
       iGuard (sel 47) true (put 53) (iOp (put 53) (.v false (oEq (.one 1) (sel 49) (sel 52)))),
       iOp (put 54) (.v false (oPick (sel 47) (sel 53) ⟨fun _ => .bool false⟩)),
       iOp (put 55) (.v false (oEv (sel 54))),
       iGuard (sel 55) true (put 56) (iOp (put 56) (.v false (oFieldAddr 1 (sel 2)))),
       iGuard (sel 55) true (put 57) (iOp (put 57) (.v true (oLoad1 (sel 56)))),
       iGuard (sel 55) true (put 58) (iOp (put 58) (.v false (oInt2 fAnd (sel 57) ⟨fun _ => .int .u8 1⟩))),
       iGuard (sel 55) true (put 59) (iOp (put 59) (.v false (oEq (.one 1) (sel 58) ⟨fun _ => .int .u8 0⟩))),
       iOp (put 60) (.v false (oPick (sel 55) (sel 59) ⟨fun _ => .bool false⟩)),
       iOp (put 61) (.v false (oEv (sel 60))),
       iGuard (sel 61) true (put 62) (iOp (put 62) (.v false (oFieldAddr 1 (sel 3)))),
       iGuard (sel 61) true (put 63) (iOp (put 63) (.v true (oLoad1 (sel 62)))),
       iGuard (sel 61) true (put 64) (iOp (put 64) (.v false (oInt2 fAnd (sel 63) ⟨fun _ => .int .u8 2⟩))),
       iGuard (sel 61) true (put 65) (iOp (put 65) (.v false (oEq (.one 1) (sel 64) ⟨fun _ => .int .u8 0⟩))),
       iOp (put 66) (.v false (oPick (sel 61) (sel 65) ⟨fun _ => .bool false⟩)),
       iOp (put 4) (.v false (oEv (sel 66)))])
     (sEx .ret))))⟩
theorem d30 : denF Try.prog 30 = some c30 := denF_of (by kernel_rfl)
/-- bollard/serial.Less16 -/
noncomputable def c31 : CF := ⟨8, [.tmp (sel 4)],
  sSeq (sRegion [iOp (put 4) (.v false (oEv ⟨fun _ => .bool false⟩))])
  (sSeq (sRegion [iOp (put 5) (.v false (oEv (sel 0))),
     iOp (put 6) (.v false (oEv (sel 1))),
     iOp (put 7) (.e (eCallF 39 [(sel 5), (sel 6)])),
     iOp (put 4) (.v false (oEv (sel 7)))])
   (sEx .ret))⟩
theorem d31 : denF Try.prog 31 = some c31 := denF_of (by kernel_rfl)
noncomputable def c32_0 : Vm.Sem := sSeq (sSeq (sRegion [iOp (put 4) (.v false (oEv (sel 0))),
    iOp (put 5) (.v false (oEv (sel 1))),
    iOp (put 6) (.v false (oEv (sel 0))),
    iOp (put 7) (.v false (oNilCheck (sel 6))),
    iOp (put 8) (.v false (oFieldAddr 0 (sel 7))),
    iOp (put 9) (.v true (oLoad1 (sel 8))),
    iOp (put 10) (.v false (oEv (sel 1))),
    iOp (put 11) (.v false (oIndexAddrS 1 (sel 9) (sel 10))),
    iOp (put 12) (.v true (oLoad1 (sel 11))),
    iOp (put 13) (.v false (oBuild [.int .u16 0, .int .u16 0] [(0, 1, (sel 5)), (1, 1, (sel 12))])),
    iOp (put 14) (.e (eCallF 38 [(sel 4), (sel 13)]))])
  (sCond (sel 14)
    (sEx .normal)
    (sEx (.exit 0))))
 (sBlock 1 (sRegion [iOp (put 15) (.v false (oEv (sel 0))),
    iOp (put 16) (.v false (oNilCheck (sel 15))),
    iOp (put 17) (.v false (oFieldAddr 0 (sel 16))),
    iOp (put 18) (.v true (oLoad1 (sel 17))),
    iOp (put 19) (.v false (oEv (sel 1))),
    iOp (put 20) (.v false (oIndexAddrS 1 (sel 18) (sel 19))),
    iOp (put 21) (.v true (oLoad1 (sel 20))),
    iOp (put 22) (.v false (oInt2 fAdd (sel 21) ⟨fun _ => .int .u16 1⟩)),
    iOp (put 23) (.v false (oIndexAddrS 1 (sel 18) (sel 19))),
    iOp ⟨fun _ a => a⟩ (.e (eStore 1 (sel 23) (sel 22)))]))
/-- (*bollard/join.Join).tell -/
noncomputable def c32 : CF := ⟨24, [],
  sBlock 0 (sLoop c32_0)⟩
theorem d32 : denF Try.prog 32 = some c32 := denF_of (by kernel_rfl)
/-- bollard/serial.less[uint32] -/
noncomputable def c33 : CF := ⟨18, [.tmp (sel 4)],
  sSeq (sRegion [iOp (put 4) (.v false (oEv ⟨fun _ => .bool false⟩))])
  (sSeq (sRegion [iOp (put 6) (.v false (oEv (sel 1))),
     iOp (put 7) (.v false (oEv (sel 0))),
     iOp (put 8) (.v false (oInt2 fSub (sel 6) (sel 7))),
     iOp (put 5) (.v false (oEv (sel 8)))])
   (sSeq (sRegion [iOp (put 9) (.v false (oEv (sel 5))),
      iOp (put 10) (.v false (oNe (.one 1) (sel 9) ⟨fun _ => .int .u32 0⟩)),
      iOp (put 11) (.v false (oEv (sel 10))),
      iGuard (sel 11) true (put 12) (iOp (put 12) (.v false (oEv (sel 5)))),
      iGuard (sel 11) true (put 13) (iOp (put 13) (.v false (oConvInt .u32 ⟨fun _ => .int .i64 0⟩))),
      iGuard (sel 11) true (put 14) (iOp (put 14) (.v false (oCom (sel 13)))),
      iGuard (sel 11) true (put 15) (iOp (put 15) (.v false (oSh fShr (sel 14) ⟨fun _ => .int .u64 1⟩))),
      iGuard (sel 11) true (put 16) (iOp (put 16) (.v false (oInt2 fLeq (sel 12) (sel 15)))),
      iOp (put 17) (.v false (oPick (sel 11) (sel 16) ⟨fun _ => .bool false⟩)),
      iOp (put 4) (.v false (oEv (sel 17)))])
    (sEx .ret)))⟩
theorem d33 : denF Try.prog 33 = some c33 := denF_of (by kernel_rfl)
/-- (*bollard/join.Join).pull -/
noncomputable def c38 : CF := ⟨33, [.tmp (sel 4)],
  sSeq (sRegion [iOp (put 3) (.a (aBox 78 (sel 1))),
    iOp (put 4) (.v false (oEv ⟨fun _ => .bool false⟩))])
  (sSeq (sRegion [iOp (put 8) (.v false (oEv (sel 0))),
     iOp (put 9) (.v false (oNilCheck (sel 8))),
     iOp (put 10) (.v false (oFieldAddr 2 (sel 9))),
     iOp (put 11) (.v true (oLoad1 (sel 10))),
     iOp (put 12) (.v true (oLoadN 2 (sel 3))),
     iOp (put 13) (.v true (oLookup (.agg [1, 1]) (.agg #[.int .u16 0, .bool false, .int .u32 0, .slice none 0 0]) true (sel 11) (sel 12))),
     iOp (put 7) (.v false (oEv (sel 13))),
     iOp (put 14) (.v false (oExtract (sel 7) 0)),
     iOp (put 15) (.v false (oExtract (sel 7) 1)),
     iOp (put 5) (.a (aAlloc 30 [.int .u16 0, .bool false, .int .u32 0, .slice none 0 0])),
     iOp ⟨fun _ a => a⟩ (.e (eStore 4 (sel 5) (sel 14))),
     iOp (put 6) (.v false (oEv (sel 15)))])
   (sSeq (sSeq (sRegion [iOp (put 16) (.v false (oEv (sel 6)))])
     (sCond (sel 16)
       (sSeq (sRegion [iOp (put 17) (.v false (oEv (sel 0))),
          iOp (put 18) (.v false (oEv (sel 0))),
          iOp (put 19) (.v false (oNilCheck (sel 18))),
          iOp (put 20) (.v false (oFieldAddr 3 (sel 19))),
          iOp (put 21) (.v true (oLoad1 (sel 20))),
          iOp (put 22) (.v true (oLoadN 4 (sel 5))),
          iOp (put 23) (.a (aBuildSlice 30 1 (rep 1 [.int .u16 0, .bool false, .int .u32 0, .slice none 0 0]) [(0, 4, (sel 22))])),
          iOp (put 24) (.e (eAppend 30 4 32 (sel 21) (sel 23))),
          iOp (put 25) (.v false (oNilCheck (sel 17))),
          iOp (put 26) (.v false (oFieldAddr 3 (sel 25))),
          iOp ⟨fun _ a => a⟩ (.e (eStore 1 (sel 26) (sel 24)))])
        (sRegion [iOp (put 27) (.v false (oEv (sel 0))),
          iOp (put 28) (.v false (oNilCheck (sel 27))),
          iOp (put 29) (.v false (oFieldAddr 2 (sel 28))),
          iOp (put 30) (.v true (oLoad1 (sel 29))),
          iOp (put 31) (.v true (oLoadN 2 (sel 3))),
          iOp ⟨fun _ a => a⟩ (.e (eDelete (.agg [1, 1]) (sel 30) (sel 31)))]))
       (sEx .normal)))
    (sSeq (sRegion [iOp (put 32) (.v false (oEv (sel 6))),
       iOp (put 4) (.v false (oEv (sel 32)))])
     (sEx .ret))))⟩
theorem d38 : denF Try.prog 38 = some c38 := denF_of (by kernel_rfl)
/-- bollard/serial.less[uint16] -/
noncomputable def c39 : CF := ⟨18, [.tmp (sel 4)],
  sSeq (sRegion [iOp (put 4) (.v false (oEv ⟨fun _ => .bool false⟩))])
  (sSeq (sRegion [iOp (put 6) (.v false (oEv (sel 1))),
     iOp (put 7) (.v false (oEv (sel 0))),
     iOp (put 8) (.v false (oInt2 fSub (sel 6) (sel 7))),
     iOp (put 5) (.v false (oEv (sel 8)))])
   (sSeq (sRegion [iOp (put 9) (.v false (oEv (sel 5))),
      iOp (put 10) (.v false (oNe (.one 1) (sel 9) ⟨fun _ => .int .u16 0⟩)),
      iOp (put 11) (.v false (oEv (sel 10))),
      iGuard (sel 11) true (put 12) (iOp (put 12) (.v false (oEv (sel 5)))),
      iGuard (sel 11) true (put 13) (iOp (put 13) (.v false (oConvInt .u16 ⟨fun _ => .int .i64 0⟩))),
      iGuard (sel 11) true (put 14) (iOp (put 14) (.v false (oCom (sel 13)))),
      iGuard (sel 11) true (put 15) (iOp (put 15) (.v false (oSh fShr (sel 14) ⟨fun _ => .int .u64 1⟩))),
      iGuard (sel 11) true (put 16) (iOp (put 16) (.v false (oInt2 fLeq (sel 12) (sel 15)))),
      iOp (put 17) (.v false (oPick (sel 11) (sel 16) ⟨fun _ => .bool false⟩)),
      iOp (put 4) (.v false (oEv (sel 17)))])
    (sEx .ret)))⟩
theorem d39 : denF Try.prog 39 = some c39 := denF_of (by kernel_rfl)
end Go.Proofs.Ytnffglfpjcbfaaa

