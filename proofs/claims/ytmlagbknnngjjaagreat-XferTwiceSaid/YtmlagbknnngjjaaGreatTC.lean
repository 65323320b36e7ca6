/- Part of a proof by an abstract run of the program's code: TC. No condition. -/
import Derived.Test.YtmlagbknnngjjaaGreatChecked
import Derived.Test.YtmlagbknnngjjaaGreatVmD
namespace Go.Proofs.YtmlagbknnngjjaaGreat
open Go Vm
/-- bollard/bollardlaw16.XferTwice -/
noncomputable def c4 : CF := ⟨139, [.tmp (sel 8)],
  sSeq (sRegion [iOp (put 8) (.v false (oEv ⟨fun _ => .bool false⟩))])
  (sSeq (sRegion [iOp (put 18) (.e (eCallF 7 [])),
     iOp (put 9) (.v false (oEv (sel 18)))])
   (sSeq (sSeq (sRegion [iOp (put 19) (.v false (oEv (sel 2))),
       iOp (put 20) (.v false (oLenS (sel 19))),
       iOp (put 21) (.v false (oEq (.one 1) (sel 20) ⟨fun _ => .int .i64 0⟩)),
       iOp (put 22) (.v false (oEv (sel 21))),
       iGuard (sel 22) false (put 23) (iOp (put 23) (.v false (oEv (sel 2)))),
       iGuard (sel 22) false (put 24) (iOp (put 24) (.v false (oLenS (sel 23)))),
       iGuard (sel 22) false (put 25) (iOp (put 25) (.v false (oInt2 fGtr (sel 24) ⟨fun _ => .int .i64 1000⟩))),
       iOp (put 26) (.v false (oPick (sel 22) ⟨fun _ => .bool true⟩ (sel 25)))])
     (sCond (sel 26)
       (sSeq (sRegion [iOp (put 27) (.v false (oEv (sel 9))),
          iOp (put 8) (.v false (oEv (sel 27)))])
        (sEx .ret))
       (sEx .normal)))
    (sSeq (sRegion [iOp (put 29) (.v false (oEv (sel 0))),
       iOp (put 30) (.v false (oEv (sel 1))),
       iOp (put 31) (.e (eCallF 11 [(sel 29), (sel 30), ⟨fun _ => .int .i64 1200⟩])),
       iOp (put 28) (.v false (oEv (sel 31))),
       iOp (put 32) (.v false (oExtract (sel 28) 0)),
       iOp (put 33) (.v false (oExtract (sel 28) 1)),
       iOp (put 10) (.v false (oEv (sel 32))),
       iOp (put 11) (.v false (oEv (sel 33)))])
     (sSeq (sSeq (sRegion [iOp (put 34) (.v false (oEv (sel 10))),
         iOp (put 35) (.v false (oEv (sel 2))),
         iOp (put 36) (.v false (oBuild [.int .u16 0, .bool false, .int .u32 0, .slice none 0 0] [(0, 1, ⟨fun _ => .int .u16 3⟩), (2, 1, ⟨fun _ => .int .u32 7⟩), (3, 1, (sel 35))])),
         iOp (put 37) (.v false (oEv (sel 3))),
         iOp (put 38) (.e (eCallF 9 [(sel 34), (sel 36), ⟨fun _ => .int .i64 (-1)⟩, ⟨fun _ => .int .i64 (-1)⟩, (sel 37)])),
         iOp (put 39) (.v false (oNe (.one 1) (sel 38) ⟨fun _ => .int .i64 0⟩))])
       (sCond (sel 39)
         (sSeq (sRegion [iOp (put 8) (.v false (oEv ⟨fun _ => .bool false⟩))])
          (sEx .ret))
         (sEx .normal)))
      (sSeq (sRegion [iOp (put 40) (.v false (oEv (sel 10))),
         iOp (put 41) (.v false (oEv (sel 3))),
         iOp (put 42) (.e (eCallF 10 [(sel 40), (sel 41)])),
         iOp (put 12) (.v false (oEv (sel 42)))])
       (sSeq (sSeq (sRegion [iOp (put 43) (.v false (oEv (sel 12))),
           iOp (put 44) (.v false (oLenS (sel 43))),
           iOp (put 45) (.v false (oNe (.one 1) (sel 44) ⟨fun _ => .int .i64 1⟩))])
         (sCond (sel 45)
           (sSeq (sRegion [iOp (put 8) (.v false (oEv ⟨fun _ => .bool false⟩))])
            (sEx .ret))
           (sEx .normal)))
        (sSeq (sRegion [iOp (put 46) (.v false (oEv (sel 11))),
           iOp (put 47) (.v false (oEv (sel 12))),
           iOp (put 48) (.v false (oIndexAddrS 12 (sel 47) ⟨fun _ => .int .i64 0⟩)),
           iOp (put 49) (.v true (oLoadN 12 (sel 48))),
           iOp (put 50) (.v false (oEv (sel 3))),
           iOp (put 51) (.e (eCallF 12 [(sel 46), (sel 49), (sel 50)])),
           iOp (put 13) (.v false (oEv (sel 51)))])
         (sSeq (sRegion [iOp (put 52) (.v false (oEv (sel 11))),
            iOp (put 53) (.v false (oEv (sel 3))),
            iOp (put 54) (.e (eCallF 10 [(sel 52), (sel 53)])),
            iOp (put 14) (.v false (oEv (sel 54)))])
          (sSeq (sRegion [iOp (put 55) (.v false (oEv (sel 11))),
             iOp (put 56) (.v false (oEv (sel 12))),
             iOp (put 57) (.v false (oIndexAddrS 12 (sel 56) ⟨fun _ => .int .i64 0⟩)),
             iOp (put 58) (.v true (oLoadN 12 (sel 57))),
             iOp (put 59) (.v false (oEv (sel 3))),
             iOp (put 60) (.e (eCallF 12 [(sel 55), (sel 58), (sel 59)])),
             iOp (put 15) (.v false (oEv (sel 60)))])
           (sSeq (sRegion [iOp (put 61) (.v false (oEv (sel 11))),
              iOp (put 62) (.v false (oEv (sel 3))),
              iOp (put 63) (.e (eCallF 10 [(sel 61), (sel 62)])),
              iOp (put 16) (.v false (oEv (sel 63)))])
            (sSeq (sRegion [iOp (put 64) (.v false (oEv (sel 11))),
               iOp (put 65) (.e (eCallF 13 [(sel 64)])),
               iOp (put 17) (.v false (oEv (sel 65)))])
             (sSeq (sRegion [iOp (put 66) (.v false (oEv (sel 9))),
                iOp (put 67) (.v false (oEv (sel 66))),
                iGuard (sel 67) true (put 68) (iOp (put 68) (.v false (oEv (sel 13)))),
                iGuard (sel 67) true (put 69) (iOp (put 69) (.v false (oEq (.one 1) (sel 68) ⟨fun _ => .int .i64 0⟩))),
                iOp (put 70) (.v false (oPick (sel 67) (sel 69) ⟨fun _ => .bool false⟩)),
                iOp (put 71) (.v false (oEv (sel 70))),
                iGuard (sel 71) true (put 72) (iOp (put 72) (.v false (oEv (sel 15)))),
                iGuard (sel 71) true (put 73) (iOp (put 73) (.v false (oEq (.one 1) (sel 72) ⟨fun _ => .int .i64 0⟩))),
                iOp (put 74) (.v false (oPick (sel 71) (sel 73) ⟨fun _ => .bool false⟩)),
                iOp (put 75) (.v false (oEv (sel 74))),
                iGuard (sel 75) true (put 76) (iOp (put 76) (.v false (oEv (sel 14)))),
                iGuard (sel 75) true (put 77) (iOp (put 77) (.v false (oLenS (sel 76)))),
                iGuard (sel 75) true (put 78) (iOp (put 78) (.v false (oEq (.one 1) (sel 77) ⟨fun _ => .int .i64 1⟩))),
                iOp (put 79) (.v false (oPick (sel 75) (sel 78) ⟨fun _ => .bool false⟩)),
                iOp (put 80) (.v false (oEv (sel 79))),
                iGuard (sel 80) true (put 81) (iOp (put 81) (.v false (oEv (sel 16)))),
                iGuard (sel 80) true (put 82) (iOp (put 82) (.v false (oLenS (sel 81)))),
                iGuard (sel 80) true (put 83) (iOp (put 83) (.v false (oEq (.one 1) (sel 82) ⟨fun _ => .int .i64 1⟩))),
                iOp (put 84) (.v false (oPick (sel 80) (sel 83) ⟨fun _ => .bool false⟩)),
                iOp (put 85) (.v false (oEv (sel 84))),
                iGuard (sel 85) true (put 86) (iOp (put 86) (.v false (oEv (sel 14)))),
                iGuard (sel 85) true (put 87) (iOp (put 87) (.v false (oIndexAddrS 12 (sel 86) ⟨fun _ => .int .i64 0⟩))),
                iGuard (sel 85) true (put 88) (iOp (put 88) (.v false (oFieldAddr 8 (sel 87)))),
                iGuard (sel 85) true (put 89) (iOp (put 89) (.v true (oLoad1 (sel 88)))),
                iGuard (sel 85) true (put 90) (iOp (put 90) (.v false (oLenS (sel 89)))),
                iGuard (sel 85) true (put 91) (iOp (put 91) (.v false (oEq (.one 1) (sel 90) ⟨fun _ => .int .i64 0⟩))),
                iOp (put 92) (.v false (oPick (sel 85) (sel 91) ⟨fun _ => .bool false⟩)),
                iOp (put 93) (.v false (oEv (sel 92))),
                iGuard (sel 93) true (put 94) (iOp (put 94) (.v false (oEv (sel 16)))),
                iGuard (sel 93) true (put 95) (iOp (put 95) (.v false (oIndexAddrS 12 (sel 94) ⟨fun _ => .int .i64 0⟩))),
                iGuard (sel 93) true (put 96) (iOp (put 96) (.v false (oFieldAddr 8 (sel 95)))),
                iGuard (sel 93) true (put 97) (iOp (put 97) (.v true (oLoad1 (sel 96)))),
                iGuard (sel 93) true (put 98) (iOp (put 98) (.v false (oLenS (sel 97)))),
                iGuard (sel 93) true (put 99) (iOp (put 99) (.v false (oEq (.one 1) (sel 98) ⟨fun _ => .int .i64 1⟩))),
                iOp (put 100) (.v false (oPick (sel 93) (sel 99) ⟨fun _ => .bool false⟩)),
                iOp (put 101) (.v false (oEv (sel 100))),
                iGuard (sel 101) true (put 102) (iOp (put 102) (.v false (oEv (sel 16)))),
                iGuard (sel 101) true (put 103) (iOp (put 103) (.v false (oIndexAddrS 12 (sel 102) ⟨fun _ => .int .i64 0⟩))),
                iGuard (sel 101) true (put 104) (iOp (put 104) (.v false (oFieldAddr 8 (sel 103)))),
                iGuard (sel 101) true (put 105) (iOp (put 105) (.v true (oLoad1 (sel 104)))),
                iGuard (sel 101) true (put 106) (iOp (put 106) (.v false (oIndexAddrS 1 (sel 105) ⟨fun _ => .int .i64 0⟩))),
                iGuard (sel 101) true (put 107) (iOp (put 107) (.v true (oLoad1 (sel 106)))),
                iGuard (sel 101) true (put 108) (iOp (put 108) (.v false (oEv (sel 0)))),
                iGuard (sel 101) true (put 109) (iOp (put 109) (.v false (oEq (.one 1) (sel 107) (sel 108)))),
                iOp (put 110) (.v false (oPick (sel 101) (sel 109) ⟨fun _ => .bool false⟩)),
                iOp (put 111) (.v false (oEv (sel 110))),
                iGuard (sel 111) true (put 112) (iOp (put 112) (.v false (oEv (sel 17)))),
                iGuard (sel 111) true (put 113) (iOp (put 113) (.v false (oLenS (sel 112)))),
                iGuard (sel 111) true (put 114) (iOp (put 114) (.v false (oEq (.one 1) (sel 113) ⟨fun _ => .int .i64 1⟩))),
                iOp (put 115) (.v false (oPick (sel 111) (sel 114) ⟨fun _ => .bool false⟩)),
                iOp (put 116) (.v false (oEv (sel 115))),
                iGuard (sel 116) true (put 117) (iOp (put 117) (.v false (oEv (sel 17)))),
                iGuard (sel 116) true (put 118) (iOp (put 118) (.v false (oIndexAddrS 4 (sel 117) ⟨fun _ => .int .i64 0⟩))),
                iGuard (sel 116) true (put 119) (iOp (put 119) (.v false (oFieldAddr 3 (sel 118)))),
                iGuard (sel 116) true (put 120) (iOp (put 120) (.v true (oLoad1 (sel 119)))),
                iGuard (sel 116) true (put 121) (iOp (put 121) (.v true (oToString (sel 120)))),
                iGuard (sel 116) true (put 122) (iOp (put 122) (.v false (oEv (sel 2)))),
                iGuard (sel 116) true (put 123) (iOp (put 123) (.v true (oToString (sel 122)))),
                iGuard (sel 116) true (put 124) (iOp (put 124) (.v false (oEq (.one 2) (sel 121) (sel 123)))),
                iOp (put 125) (.v false (oPick (sel 116) (sel 124) ⟨fun _ => .bool false⟩)),
                iOp (put 126) (.v false (oEv (sel 125))),
                iGuard (sel 126) true (put 127) (iOp (put 127) (.v false (oEv (sel 10)))),
                iGuard (sel 126) true (put 128) (iOp (put 128) (.v false (oEv (sel 16)))),
                iGuard (sel 126) true (put 129) (iOp (put 129) (.v false (oIndexAddrS 12 (sel 128) ⟨fun _ => .int .i64 0⟩))),
                iGuard (sel 126) true (put 130) (iOp (put 130) (.v true (oLoadN 12 (sel 129)))),
                iGuard (sel 126) true (put 131) (iOp (put 131) (.v false (oEv (sel 3)))),
                iGuard (sel 126) true (put 132) (iOp (put 132) (.e (eCallF 12 [(sel 127), (sel 130), (sel 131)]))),
                iGuard (sel 126) true (put 133) (iOp (put 133) (.v false (oEq (.one 1) (sel 132) ⟨fun _ => .int .i64 0⟩))),
                iOp (put 134) (.v false (oPick (sel 126) (sel 133) ⟨fun _ => .bool false⟩)),
                iOp (put 135) (.v false (oEv (sel 134))),
                iGuard (sel 135) true (put 136) (iOp (put 136) (.v false (oEv (sel 10)))),
                iGuard (sel 135) true (put 137) (iOp (put 137) (.e (eCallF 14 [(sel 136)]))),
                iOp (put 138) (.v false (oPick (sel 135) (sel 137) ⟨fun _ => .bool false⟩)),
                iOp (put 8) (.v false (oEv (sel 138)))])
              (sEx .ret)))))))))))))⟩
theorem d4 : denF Tryz.prog 4 = some c4 := denF_of (by kernel_rfl)
/-- bollard/xfer.New -/
noncomputable def c8 : CF := ⟨37, [.tmp (sel 2)],
  sSeq (sRegion [iOp (put 1) (.a (aBox 28 (sel 0))),
    iOp (put 2) (.v false (oEv ⟨fun _ => .pointer none⟩))])
  (sSeq (sSeq (sRegion [iOp (put 4) (.v false (oFieldAddr 3 (sel 1))),
      iOp (put 5) (.v true (oLoad1 (sel 4))),
      iOp (put 6) (.v false (oInt2 fLss (sel 5) ⟨fun _ => .int .i64 1⟩)),
      iOp (put 7) (.v false (oEv (sel 6))),
      iGuard (sel 7) false (put 8) (iOp (put 8) (.v false (oFieldAddr 3 (sel 1)))),
      iGuard (sel 7) false (put 9) (iOp (put 9) (.v true (oLoad1 (sel 8)))),
      iGuard (sel 7) false (put 10) (iOp (put 10) (.v false (oInt2 fGtr (sel 9) ⟨fun _ => .int .i64 64⟩))),
      iOp (put 11) (.v false (oPick (sel 7) ⟨fun _ => .bool true⟩ (sel 10)))])
    (sCond (sel 11)
      (sRegion [iOp (put 12) (.v false (oFieldAddr 3 (sel 1))),
        iOp ⟨fun _ a => a⟩ (.e (eStore 1 (sel 12) ⟨fun _ => .int .i64 64⟩))])
      (sEx .normal)))
   (sSeq (sDr [iOp (put 13) (.v false (oFieldAddr 0 (sel 1))),
      iOp (put 14) (.v true (oLoad1 (sel 13))),
      iOp (put 15) (.e (eCallF 22 [(sel 14)])),
      iOp (put 16) (.v false (oFieldAddr 5 (sel 1))),
      iOp (put 17) (.v true (oLoad1 (sel 16))),
      iOp (put 18) (.e (eCallF 23 [(sel 17)])),
      iOp (put 19) (.e (eCallF 24 [])),
      iOp (put 20) (.v false (oFieldAddr 2 (sel 1))),
      iOp (put 21) (.v true (oLoad1 (sel 20))),
      iOp (put 22) (.v false (oConvInt .i64 (sel 21))),
      iOp (put 23) (.v false (oFieldAddr 3 (sel 1))),
      iOp (put 24) (.v true (oLoad1 (sel 23))),
      iOp (put 25) (.a (aMakeSlice 32 2 [.int .u16 0] (sel 24) (sel 24))),
      iOp (put 26) (.v false (oBuild [.pointer none, .int .i64 0, .int .i64 0, .int .i64 0, .int .i64 0, .bool false, .int .u32 0, .int .i64 0, .int .i64 0, .int .i64 0, .bool false, .int .i64 0, .slice none 0 0, .bool false, .int .i64 0, .bool false, .int .u32 0, .int .i64 0] [(0, 1, (sel 15)), (1, 6, (sel 18)), (7, 4, (sel 19)), (11, 1, (sel 22)), (12, 1, (sel 25))])),
      iOp (put 3) (.a (aAlloc 71 [.pointer none, .int .i64 0, .int .i64 0, .int .i64 0, .int .i64 0, .bool false, .int .u32 0, .int .i64 0, .int .i64 0, .int .i64 0, .bool false, .int .i64 0, .slice none 0 0, .bool false, .int .i64 0, .bool false, .int .u32 0, .int .i64 0])),
      iOp ⟨fun _ a => a⟩ (.e (eStore 18 (sel 3) (sel 26)))]
      [(4, none, (oLoad1 (sel 16)), [0, 3]), (8, none, (oLoad1 (sel 20)), [0, 3, 6, 7]), (11, none, (oLoad1 (sel 23)), [0, 3, 6, 7])])
    (sSeq (sDr [iOp (put 27) (.v true (oLoadN 18 (sel 3))),
       iOp (put 28) (.v false (oFieldAddr 1 (sel 1))),
       iOp (put 29) (.v true (oLoad1 (sel 28))),
       iOp (put 30) (.e (eCallF 25 [(sel 29)])),
       iOp (put 31) (.v false (oFieldAddr 4 (sel 1))),
       iOp (put 32) (.v true (oLoad1 (sel 31))),
       iOp (put 33) (.e (eCallF 26 [(sel 32)])),
       iOp (put 34) (.v false (oBuild [.pointer none, .pointer none, .bool false] [(0, 1, (sel 30)), (1, 1, (sel 33))])),
       iOp (put 35) (.v false (oBuild [.pointer none, .int .i64 0, .int .i64 0, .int .i64 0, .int .i64 0, .bool false, .int .u32 0, .int .i64 0, .int .i64 0, .int .i64 0, .bool false, .int .i64 0, .slice none 0 0, .bool false, .int .i64 0, .bool false, .int .u32 0, .int .i64 0, .pointer none, .pointer none, .bool false] [(0, 18, (sel 27)), (18, 3, (sel 34))])),
       iOp (put 36) (.a (aBox 79 (sel 35))),
       iOp (put 2) (.v false (oEv (sel 36)))]
       [(0, none, (oLoadN 18 (sel 3)), [0, 4, 7]), (5, none, (oLoad1 (sel 31)), [0, 4])])
     (sEx .ret))))⟩
theorem d8 : denF Tryz.prog 8 = some c8 := denF_of (by kernel_rfl)
/-- (*bollard/xfer.End).Send -/
noncomputable def c9 : CF := ⟨98, [.tmp (sel 10)],
  sSeq (sRegion [iOp (put 6) (.a (aBox 34 (sel 1))),
    iOp (put 10) (.v false (oEv ⟨fun _ => .int .i64 0⟩))])
  (sSeq (sBlock 0 (sSeq (sRegion [iOp (put 16) (.v false (oEv (sel 0))),
       iOp (put 17) (.v false (oEq (.one 3) (sel 16) ⟨fun _ => .pointer none⟩)),
       iOp (put 15) (.v false (oEv (sel 17)))])
     (sCond (sel 15)
       (sSeq (sRegion [iOp (put 10) (.v false (oEv ⟨fun _ => .int .i64 1⟩))])
        (sEx .ret))
       (sSeq (sRegion [iOp (put 19) (.v false (oEv (sel 0))),
          iOp (put 20) (.v false (oNilCheck (sel 19))),
          iOp (put 21) (.v false (oFieldAddr 0 (sel 20))),
          iOp (put 22) (.v false (oFieldAddr 0 (sel 6))),
          iOp (put 23) (.v true (oLoad1 (sel 22))),
          iOp (put 24) (.e (eCallF 27 [(sel 21), (sel 23)])),
          iOp (put 25) (.v false (oNot (sel 24))),
          iOp (put 18) (.v false (oEv (sel 25)))])
        (sCond (sel 18)
          (sSeq (sRegion [iOp (put 10) (.v false (oEv ⟨fun _ => .int .i64 12⟩))])
           (sEx .ret))
          (sEx .normal))))))
   (sSeq (sRegion [iOp (put 27) (.v true (oLoadN 4 (sel 6))),
      iOp (put 28) (.v false (oEv (sel 0))),
      iOp (put 29) (.v false (oNilCheck (sel 28))),
      iOp (put 30) (.v false (oFieldAddr 0 (sel 29))),
      iOp (put 31) (.v false (oFieldAddr 12 (sel 30))),
      iOp (put 32) (.v true (oLoad1 (sel 31))),
      iOp (put 33) (.v false (oFieldAddr 0 (sel 6))),
      iOp (put 34) (.v true (oLoad1 (sel 33))),
      iOp (put 35) (.v false (oIndexAddrS 1 (sel 32) (sel 34))),
      iOp (put 36) (.v true (oLoad1 (sel 35))),
      iOp (put 37) (.v false (oEv (sel 0))),
      iOp (put 38) (.v false (oNilCheck (sel 37))),
      iOp (put 39) (.v false (oFieldAddr 0 (sel 38))),
      iOp (put 40) (.v false (oFieldAddr 1 (sel 39))),
      iOp (put 41) (.v false (oFieldAddr 3 (sel 40))),
      iOp (put 42) (.v true (oLoad1 (sel 41))),
      iOp (put 43) (.v false (oInt2 fSub (sel 42) ⟨fun _ => .int .i64 28⟩)),
      iOp (put 44) (.v false (oBest true ⟨fun _ => .int .i64 1172⟩ [(sel 43)])),
      iOp (put 45) (.v false (oBest false ⟨fun _ => .int .i64 1⟩ [(sel 44)])),
      iOp (put 46) (.e (eCallF 28 [(sel 27), ⟨fun _ => .int .u32 0⟩, (sel 36), (sel 45)])),
      iOp (put 26) (.v false (oEv (sel 46))),
      iOp (put 47) (.v false (oExtract (sel 26) 0)),
      iOp (put 48) (.v false (oExtract (sel 26) 1)),
      iOp (put 11) (.v false (oEv (sel 47))),
      iOp (put 12) (.v false (oEv (sel 48)))])
    (sSeq (sBlock 1 (sSeq (sRegion [iOp (put 50) (.v false (oEv (sel 12))),
         iOp (put 51) (.v false (oNe (.one 1) (sel 50) ⟨fun _ => .int .i64 0⟩)),
         iOp (put 49) (.v false (oEv (sel 51)))])
       (sCond (sel 49)
         (sSeq (sRegion [iOp (put 52) (.v false (oEv (sel 12))),
            iOp (put 10) (.v false (oEv (sel 52)))])
          (sEx .ret))
         (sSeq (sDr [iOp (put 54) (.v false (oEv (sel 0))),
            iOp (put 55) (.v false (oNilCheck (sel 54))),
            iOp (put 56) (.v false (oFieldAddr 0 (sel 55))),
            iOp (put 57) (.v false (oFieldAddr 0 (sel 56))),
            iOp (put 58) (.v true (oLoad1 (sel 57))),
            iOp (put 59) (.e (eCallF 29 [(sel 58)])),
            iOp (put 60) (.v false (oFieldAddr 3 (sel 6))),
            iOp (put 61) (.v true (oLoad1 (sel 60))),
            iOp (put 62) (.v false (oLenS (sel 61))),
            iOp (put 63) (.v false (oInt2 fAdd (sel 59) (sel 62))),
            iOp (put 64) (.v false (oInt2 fGtr (sel 63) ⟨fun _ => .int .i64 65536⟩)),
            iOp (put 53) (.v false (oEv (sel 64)))]
            [(7, none, (oLoad1 (sel 60)), [0, 6])])
          (sCond (sel 53)
            (sSeq (sRegion [iOp (put 10) (.v false (oEv ⟨fun _ => .int .i64 9⟩))])
             (sEx .ret))
            (sEx .normal))))))
     (sSeq (sRegion [iOp (put 13) (.v false (oEv ⟨fun _ => .int .i64 (-1)⟩))])
      (sSeq (sSeq (sRegion [iOp (put 65) (.v false (oEv (sel 2))),
          iOp (put 66) (.v false (oInt2 fGeq (sel 65) ⟨fun _ => .int .i64 0⟩))])
        (sCond (sel 66)
          (sRegion [iOp (put 67) (.v false (oEv (sel 4))),
            iOp (put 68) (.e (eCallF 30 [(sel 67)])),
            iOp (put 69) (.v false (oEv (sel 2))),
            iOp (put 70) (.e (eCallF 30 [(sel 69)])),
            iOp (put 71) (.v false (oInt2 fAdd (sel 68) (sel 70))),
            iOp (put 13) (.v false (oEv (sel 71)))])
          (sEx .normal)))
       (sSeq (sSeq (sRegion [iOp (put 72) (.v false (oEv (sel 0))),
           iOp (put 73) (.v false (oNilCheck (sel 72))),
           iOp (put 74) (.v false (oFieldAddr 0 (sel 73))),
           iOp (put 75) (.v false (oFieldAddr 0 (sel 74))),
           iOp (put 76) (.v true (oLoad1 (sel 75))),
           iOp (put 77) (.v false (oEv (sel 11))),
           iOp (put 78) (.v false (oEv (sel 13))),
           iOp (put 79) (.v false (oEv (sel 3))),
           iOp (put 80) (.e (eCallF 31 [(sel 76), (sel 77), (sel 78), (sel 79)])),
           iOp (put 14) (.v false (oEv (sel 80)))])
         (sSeq (sRegion [iOp (put 81) (.v false (oEv (sel 14))),
            iOp (put 82) (.v false (oNe (.one 1) (sel 81) ⟨fun _ => .int .i64 0⟩))])
          (sCond (sel 82)
            (sSeq (sRegion [iOp (put 83) (.v false (oEv (sel 14))),
               iOp (put 10) (.v false (oEv (sel 83)))])
             (sEx .ret))
            (sEx .normal))))
        (sSeq (sSeq (sRegion [iOp (put 84) (.v false (oFieldAddr 1 (sel 6))),
            iOp (put 85) (.v true (oLoad1 (sel 84))),
            iOp (put 86) (.v false (oNot (sel 85)))])
          (sCond (sel 86)
            (sRegion [iOp (put 87) (.v false (oEv (sel 0))),
              iOp (put 88) (.v false (oNilCheck (sel 87))),
              iOp (put 89) (.v false (oFieldAddr 0 (sel 88))),
              iOp (put 90) (.v false (oFieldAddr 12 (sel 89))),
              iOp (put 91) (.v true (oLoad1 (sel 90))),
              iOp (put 92) (.v false (oFieldAddr 0 (sel 6))),
              iOp (put 93) (.v true (oLoad1 (sel 92))),
              iOp (put 94) (.v false (oIndexAddrS 1 (sel 91) (sel 93))),
              iOp (put 95) (.v true (oLoad1 (sel 94))),
              iOp (put 96) (.v false (oInt2 fAdd (sel 95) ⟨fun _ => .int .u16 1⟩)),
              iOp (put 97) (.v false (oIndexAddrS 1 (sel 91) (sel 93))),
              iOp ⟨fun _ a => a⟩ (.e (eStore 1 (sel 97) (sel 96)))])
            (sEx .normal)))
         (sSeq (sRegion [iOp (put 10) (.v false (oEv ⟨fun _ => .int .i64 0⟩))])
          (sEx .ret)))))))))⟩
theorem d9 : denF Tryz.prog 9 = some c9 := denF_of (by kernel_rfl)
/-- (*bollard/xfer.End).Tell -/
noncomputable def c10 : CF := ⟨20, [.tmp (sel 4)],
  sSeq (sRegion [iOp (put 4) (.v false (oEv ⟨fun _ => .slice none 0 0⟩))])
  (sSeq (sSeq (sRegion [iOp (put 6) (.v false (oEv (sel 0))),
      iOp (put 7) (.v false (oEq (.one 3) (sel 6) ⟨fun _ => .pointer none⟩))])
    (sCond (sel 7)
      (sSeq (sRegion [iOp (put 4) (.v false (oEv ⟨fun _ => .slice none 0 0⟩))])
       (sEx .ret))
      (sEx .normal)))
   (sSeq (sRegion [iOp (put 8) (.v false (oEv (sel 0))),
      iOp (put 9) (.v false (oNilCheck (sel 8))),
      iOp (put 10) (.v false (oFieldAddr 18 (sel 9))),
      iOp (put 11) (.e (eCallF 32 [(sel 10)])),
      iOp (put 5) (.v false (oEv (sel 11)))])
    (sSeq (sRegion [iOp (put 12) (.v false (oEv (sel 5))),
       iOp (put 13) (.v false (oEv (sel 0))),
       iOp (put 14) (.v false (oNilCheck (sel 13))),
       iOp (put 15) (.v false (oFieldAddr 0 (sel 14))),
       iOp (put 16) (.v false (oEv (sel 1))),
       iOp (put 17) (.e (eCallF 30 [(sel 16)])),
       iOp (put 18) (.e (eCallF 33 [(sel 15), (sel 17)])),
       iOp (put 19) (.e (eAppend 42 12 144 (sel 12) (sel 18))),
       iOp (put 4) (.v false (oEv (sel 19)))])
     (sEx .ret))))⟩
theorem d10 : denF Tryz.prog 10 = some c10 := denF_of (by kernel_rfl)
/-- bollard/bollardlaw16.pair -/
noncomputable def c11 : CF := ⟨18, [.tmp (sel 6), .tmp (sel 7)],
  sSeq (sRegion [iOp (put 6) (.v false (oEv ⟨fun _ => .pointer none⟩)),
    iOp (put 7) (.v false (oEv ⟨fun _ => .pointer none⟩))])
  (sSeq (sRegion [iOp (put 8) (.v false (oEv (sel 0))),
     iOp (put 9) (.v false (oEv (sel 1))),
     iOp (put 10) (.v false (oEv (sel 2))),
     iOp (put 11) (.v false (oBuild [.int .u32 0, .int .u32 0, .int .u32 0, .int .i64 0, .int .i64 0, .int .i64 0] [(0, 1, (sel 8)), (1, 1, (sel 9)), (2, 1, ⟨fun _ => .int .u32 65536⟩), (3, 1, ⟨fun _ => .int .i64 4⟩), (4, 1, ⟨fun _ => .int .i64 4⟩), (5, 1, (sel 10))])),
     iOp (put 12) (.e (eCallF 8 [(sel 11)])),
     iOp (put 13) (.v false (oEv (sel 1))),
     iOp (put 14) (.v false (oEv (sel 0))),
     iOp (put 15) (.v false (oEv (sel 2))),
     iOp (put 16) (.v false (oBuild [.int .u32 0, .int .u32 0, .int .u32 0, .int .i64 0, .int .i64 0, .int .i64 0] [(0, 1, (sel 13)), (1, 1, (sel 14)), (2, 1, ⟨fun _ => .int .u32 65536⟩), (3, 1, ⟨fun _ => .int .i64 4⟩), (4, 1, ⟨fun _ => .int .i64 4⟩), (5, 1, (sel 15))])),
     iOp (put 17) (.e (eCallF 8 [(sel 16)])),
     iOp (put 6) (.v false (oEv (sel 12))),
     iOp (put 7) (.v false (oEv (sel 17)))])
   (sEx .ret))⟩
theorem d11 : denF Tryz.prog 11 = some c11 := denF_of (by kernel_rfl)
/-- (*bollard/xfer.End).Hear -/
noncomputable def c12 : CF := ⟨34, [.tmp (sel 6)],
  sSeq (sRegion [iOp (put 4) (.a (aBox 42 (sel 1))),
    iOp (put 6) (.v false (oEv ⟨fun _ => .int .i64 0⟩))])
  (sSeq (sSeq (sRegion [iOp (put 7) (.v false (oEv (sel 0))),
      iOp (put 8) (.v false (oEq (.one 3) (sel 7) ⟨fun _ => .pointer none⟩))])
    (sCond (sel 8)
      (sSeq (sRegion [iOp (put 6) (.v false (oEv ⟨fun _ => .int .i64 1⟩))])
       (sEx .ret))
      (sEx .normal)))
   (sSeq (sSeq (sRegion [iOp (put 9) (.v false (oFieldAddr 0 (sel 4))),
       iOp (put 10) (.v true (oLoad1 (sel 9)))])
     (sBlock 0 (sSeq (sRegion [iOp (put 12) (.v false (oEq (.one 1) (sel 10) ⟨fun _ => .int .u8 0⟩)),
         iOp (put 11) (.v false (oEv (sel 12)))])
       (sCond (sel 11)
         (sSeq (sRegion [iOp (put 13) (.v false (oEv (sel 0))),
            iOp (put 14) (.v false (oNilCheck (sel 13))),
            iOp (put 15) (.v false (oFieldAddr 18 (sel 14))),
            iOp (put 16) (.v true (oLoadN 12 (sel 4))),
            iOp (put 17) (.e (eCallF 34 [(sel 15), (sel 16)])),
            iOp (put 6) (.v false (oEv (sel 17)))])
          (sEx .ret))
         (sSeq (sRegion [iOp (put 19) (.v false (oEq (.one 1) (sel 10) ⟨fun _ => .int .u8 3⟩)),
            iOp (put 18) (.v false (oEv (sel 19)))])
          (sCond (sel 18)
            (sSeq (sDr [iOp (put 20) (.v false (oEv (sel 0))),
               iOp (put 21) (.v false (oNilCheck (sel 20))),
               iOp (put 22) (.v false (oFieldAddr 0 (sel 21))),
               iOp (put 23) (.v true (oLoadN 12 (sel 4))),
               iOp (put 24) (.v false (oEv (sel 2))),
               iOp (put 25) (.e (eCallF 30 [(sel 24)])),
               iOp (put 26) (.e (eCallF 35 [(sel 22), (sel 23), (sel 25)])),
               iOp (put 6) (.v false (oEv (sel 26)))]
               [(3, none, (oLoadN 12 (sel 4)), [0, 6])])
             (sEx .ret))
            (sSeq (sRegion [iOp (put 28) (.v false (oEq (.one 1) (sel 10) ⟨fun _ => .int .u8 192⟩)),
               iOp (put 27) (.v false (oEv (sel 28)))])
             (sCond (sel 27)
               (sSeq (sRegion [iOp (put 29) (.v false (oEv (sel 0))),
                  iOp (put 30) (.v false (oNilCheck (sel 29))),
                  iOp (put 31) (.v false (oFieldAddr 18 (sel 30))),
                  iOp (put 32) (.v true (oLoadN 12 (sel 4))),
                  iOp (put 33) (.e (eCallF 36 [(sel 31), (sel 32)]))])
                (sSeq (sRegion [iOp (put 6) (.v false (oEv ⟨fun _ => .int .i64 0⟩))])
                 (sEx .ret)))
               (sEx .normal)))))))))
    (sSeq (sRegion [iOp (put 6) (.v false (oEv ⟨fun _ => .int .i64 1⟩))])
     (sEx .ret))))⟩
theorem d12 : denF Tryz.prog 12 = some c12 := denF_of (by kernel_rfl)
/-- (*bollard/xfer.End).Messages -/
noncomputable def c13 : CF := ⟨11, [.tmp (sel 2)],
  sSeq (sRegion [iOp (put 2) (.v false (oEv ⟨fun _ => .slice none 0 0⟩))])
  (sSeq (sSeq (sRegion [iOp (put 3) (.v false (oEv (sel 0))),
      iOp (put 4) (.v false (oEq (.one 3) (sel 3) ⟨fun _ => .pointer none⟩))])
    (sCond (sel 4)
      (sSeq (sRegion [iOp (put 2) (.v false (oEv ⟨fun _ => .slice none 0 0⟩))])
       (sEx .ret))
      (sEx .normal)))
   (sSeq (sRegion [iOp (put 5) (.v false (oEv (sel 0))),
      iOp (put 6) (.v false (oNilCheck (sel 5))),
      iOp (put 7) (.v false (oFieldAddr 18 (sel 6))),
      iOp (put 8) (.v false (oFieldAddr 1 (sel 7))),
      iOp (put 9) (.v true (oLoad1 (sel 8))),
      iOp (put 10) (.e (eCallF 37 [(sel 9)])),
      iOp (put 2) (.v false (oEv (sel 10)))])
    (sEx .ret)))⟩
theorem d13 : denF Tryz.prog 13 = some c13 := denF_of (by kernel_rfl)
/-- (*bollard/xfer.End).Idle -/
noncomputable def c14 : CF := ⟨22, [.tmp (sel 2)],
  sSeq (sRegion [iOp (put 2) (.v false (oEv ⟨fun _ => .bool false⟩))])
  (sSeq (sRegion [iOp (put 3) (.v false (oEv (sel 0))),
     iOp (put 4) (.v false (oEq (.one 3) (sel 3) ⟨fun _ => .pointer none⟩)),
     iOp (put 5) (.v false (oEv (sel 4))),
     iGuard (sel 5) false (put 6) (iOp (put 6) (.v false (oEv (sel 0)))),
     iGuard (sel 5) false (put 7) (iOp (put 7) (.v false (oNilCheck (sel 6)))),
     iGuard (sel 5) false (put 8) (iOp (put 8) (.v false (oFieldAddr 0 (sel 7)))),
     iGuard (sel 5) false (put 9) (iOp (put 9) (.v false (oFieldAddr 0 (sel 8)))),
     iGuard (sel 5) false (put 10) (iOp (put 10) (.v true (oLoad1 (sel 9)))),
     iGuard (sel 5) false (put 11) (iOp (put 11) (.e (eCallF 38 [(sel 10)]))),
     iGuard (sel 5) false (put 12) (iOp (put 12) (.v false (oEq (.one 1) (sel 11) ⟨fun _ => .int .i64 0⟩))),
     iGuard (sel 5) false (put 13) (iOp (put 13) (.v false (oEv (sel 12)))),
     iGuard (sel 13) true (put 14) (iOp (put 14) (.v false (oEv (sel 0)))),
     iGuard (sel 13) true (put 15) (iOp (put 15) (.v false (oNilCheck (sel 14)))),
     iGuard (sel 13) true (put 16) (iOp (put 16) (.v false (oFieldAddr 18 (sel 15)))),
     iGuard (sel 13) true (put 17) (iOp (put 17) (.v false (oFieldAddr 2 (sel 16)))),
     iGuard (sel 13) true (put 18) (iOp (put 18) (.v true (oLoad1 (sel 17)))),
     iGuard (sel 13) true (put 19) (iOp (put 19) (.v false (oNot (sel 18)))),
     iGuard (sel 5) false (put 20) (iOp (put 20) (.v false (oPick (sel 13) (sel 19) ⟨fun _ => .bool false⟩))),
     iOp (put 21) (.v false (oPick (sel 5) ⟨fun _ => .bool true⟩ (sel 20))),
     iOp (put 2) (.v false (oEv (sel 21)))])
   (sEx .ret))⟩
theorem d14 : denF Tryz.prog 14 = some c14 := denF_of (by kernel_rfl)
/-- (*bollard/xfer.End).Due -/
noncomputable def c15 : CF := ⟨21, [.tmp (sel 2), .tmp (sel 3)],
  sSeq (sRegion [iOp (put 2) (.v false (oEv ⟨fun _ => .int .i64 0⟩)),
    iOp (put 3) (.v false (oEv ⟨fun _ => .bool false⟩))])
  (sSeq (sSeq (sRegion [iOp (put 4) (.v false (oEv (sel 0))),
      iOp (put 5) (.v false (oEq (.one 3) (sel 4) ⟨fun _ => .pointer none⟩)),
      iOp (put 6) (.v false (oEv (sel 5))),
      iGuard (sel 6) false (put 7) (iOp (put 7) (.v false (oEv (sel 0)))),
      iGuard (sel 6) false (put 8) (iOp (put 8) (.v false (oNilCheck (sel 7)))),
      iGuard (sel 6) false (put 9) (iOp (put 9) (.v false (oFieldAddr 0 (sel 8)))),
      iGuard (sel 6) false (put 10) (iOp (put 10) (.v false (oFieldAddr 13 (sel 9)))),
      iGuard (sel 6) false (put 11) (iOp (put 11) (.v false (oFieldAddr 0 (sel 10)))),
      iGuard (sel 6) false (put 12) (iOp (put 12) (.v true (oLoad1 (sel 11)))),
      iGuard (sel 6) false (put 13) (iOp (put 13) (.v false (oNot (sel 12)))),
      iOp (put 14) (.v false (oPick (sel 6) ⟨fun _ => .bool true⟩ (sel 13)))])
    (sCond (sel 14)
      (sSeq (sRegion [iOp (put 2) (.v false (oEv ⟨fun _ => .int .i64 0⟩)),
         iOp (put 3) (.v false (oEv ⟨fun _ => .bool false⟩))])
       (sEx .ret))
      (sEx .normal)))
   (sSeq (sRegion [iOp (put 15) (.v false (oEv (sel 0))),
      iOp (put 16) (.v false (oNilCheck (sel 15))),
      iOp (put 17) (.v false (oFieldAddr 0 (sel 16))),
      iOp (put 18) (.v false (oFieldAddr 13 (sel 17))),
      iOp (put 19) (.v false (oFieldAddr 1 (sel 18))),
      iOp (put 20) (.v true (oLoad1 (sel 19))),
      iOp (put 2) (.v false (oEv (sel 20))),
      iOp (put 3) (.v false (oEv ⟨fun _ => .bool true⟩))])
    (sEx .ret)))⟩
theorem d15 : denF Tryz.prog 15 = some c15 := denF_of (by kernel_rfl)
/-- bollard/serial.Dist -/
noncomputable def c16 : CF := ⟨8, [.tmp (sel 4)],
  sSeq (sRegion [iOp (put 4) (.v false (oEv ⟨fun _ => .int .u32 0⟩))])
  (sSeq (sRegion [iOp (put 5) (.v false (oEv (sel 1))),
     iOp (put 6) (.v false (oEv (sel 0))),
     iOp (put 7) (.v false (oInt2 fSub (sel 5) (sel 6))),
     iOp (put 4) (.v false (oEv (sel 7)))])
   (sEx .ret))⟩
theorem d16 : denF Tryz.prog 16 = some c16 := denF_of (by kernel_rfl)
/-- (*bollard/xfer.End).Next -/
noncomputable def c17 : CF := ⟨11, [.tmp (sel 2)],
  sSeq (sRegion [iOp (put 2) (.v false (oEv ⟨fun _ => .int .u32 0⟩))])
  (sSeq (sSeq (sRegion [iOp (put 3) (.v false (oEv (sel 0))),
      iOp (put 4) (.v false (oEq (.one 3) (sel 3) ⟨fun _ => .pointer none⟩))])
    (sCond (sel 4)
      (sSeq (sRegion [iOp (put 2) (.v false (oEv ⟨fun _ => .int .u32 0⟩))])
       (sEx .ret))
      (sEx .normal)))
   (sSeq (sRegion [iOp (put 5) (.v false (oEv (sel 0))),
      iOp (put 6) (.v false (oNilCheck (sel 5))),
      iOp (put 7) (.v false (oFieldAddr 0 (sel 6))),
      iOp (put 8) (.v false (oFieldAddr 0 (sel 7))),
      iOp (put 9) (.v true (oLoad1 (sel 8))),
      iOp (put 10) (.e (eCallF 39 [(sel 9)])),
      iOp (put 2) (.v false (oEv (sel 10)))])
    (sEx .ret)))⟩
theorem d17 : denF Tryz.prog 17 = some c17 := denF_of (by kernel_rfl)
/-- bollard/sendq.New -/
noncomputable def c22 : CF := ⟨6, [.tmp (sel 2)],
  sSeq (sRegion [iOp (put 2) (.v false (oEv ⟨fun _ => .pointer none⟩))])
  (sSeq (sRegion [iOp (put 3) (.v false (oEv (sel 0))),
     iOp (put 4) (.v false (oBuild [.slice none 0 0, .int .u32 0] [(1, 1, (sel 3))])),
     iOp (put 5) (.a (aBox 93 (sel 4))),
     iOp (put 2) (.v false (oEv (sel 5)))])
   (sEx .ret))⟩
theorem d22 : denF Tryz.prog 22 = some c22 := denF_of (by kernel_rfl)
/-- bollard/window.Start -/
noncomputable def c23 : CF := ⟨10, [.agg (sel 2) 6],
  sSeq (sRegion [iOp (put 2) (.a (aAlloc 62 [.int .i64 0, .int .i64 0, .int .i64 0, .int .i64 0, .bool false, .int .u32 0]))])
  (sSeq (sSeq (sRegion [iOp (put 3) (.v false (oEv (sel 0))),
      iOp (put 4) (.e (eCallF 45 [⟨fun _ => .int .i64 1⟩, (sel 3), ⟨fun _ => .int .i64 65536⟩])),
      iOp (put 5) (.v false (oNot (sel 4)))])
    (sCond (sel 5)
      (sRegion [iOp (put 0) (.v false (oEv ⟨fun _ => .int .i64 1200⟩))])
      (sEx .normal)))
   (sSeq (sRegion [iOp (put 6) (.v false (oEv (sel 0))),
      iOp (put 7) (.v false (oInt2 fMul ⟨fun _ => .int .i64 3⟩ (sel 6))),
      iOp (put 8) (.v false (oEv (sel 0))),
      iOp (put 9) (.v false (oBuild [.int .i64 0, .int .i64 0, .int .i64 0, .int .i64 0, .bool false, .int .u32 0] [(0, 1, (sel 7)), (1, 1, ⟨fun _ => .int .i64 1073741824⟩), (3, 1, (sel 8))])),
      iOp ⟨fun _ a => a⟩ (.e (eStore 6 (sel 2) (sel 9)))])
    (sEx .ret)))⟩
theorem d23 : denF Tryz.prog 23 = some c23 := denF_of (by kernel_rfl)
/-- bollard/rto.Start -/
noncomputable def c24 : CF := ⟨2, [.agg (sel 0) 4],
  sSeq (sRegion [iOp (put 0) (.a (aAlloc 65 [.int .i64 0, .int .i64 0, .int .i64 0, .bool false]))])
  (sSeq (sRegion [iOp (put 1) (.v false (oBuild [.int .i64 0, .int .i64 0, .int .i64 0, .bool false] [(2, 1, ⟨fun _ => .int .i64 3000⟩)])),
     iOp ⟨fun _ a => a⟩ (.e (eStore 4 (sel 0) (sel 1)))])
   (sEx .ret))⟩
theorem d24 : denF Tryz.prog 24 = some c24 := denF_of (by kernel_rfl)
/-- bollard/gaps.New -/
noncomputable def c25 : CF := ⟨8, [.tmp (sel 2)],
  sSeq (sRegion [iOp (put 2) (.v false (oEv ⟨fun _ => .pointer none⟩))])
  (sSeq (sRegion [iOp (put 3) (.v false (oEv (sel 0))),
     iOp (put 4) (.v false (oInt2 fSub (sel 3) ⟨fun _ => .int .u32 1⟩)),
     iOp (put 5) (.a aMakeMap),
     iOp (put 6) (.v false (oBuild [.int .u32 0, .map none, .slice none 0 0] [(0, 1, (sel 4)), (1, 1, (sel 5))])),
     iOp (put 7) (.a (aBox 97 (sel 6))),
     iOp (put 2) (.v false (oEv (sel 7)))])
   (sEx .ret))⟩
theorem d25 : denF Tryz.prog 25 = some c25 := denF_of (by kernel_rfl)
/-- bollard/join.New -/
noncomputable def c26 : CF := ⟨15, [.tmp (sel 2)],
  sSeq (sRegion [iOp (put 2) (.v false (oEv ⟨fun _ => .pointer none⟩))])
  (sSeq (sSeq (sRegion [iOp (put 3) (.v false (oEv (sel 0))),
      iOp (put 4) (.v false (oInt2 fLss (sel 3) ⟨fun _ => .int .i64 1⟩)),
      iOp (put 5) (.v false (oEv (sel 4))),
      iGuard (sel 5) false (put 6) (iOp (put 6) (.v false (oEv (sel 0)))),
      iGuard (sel 5) false (put 7) (iOp (put 7) (.v false (oInt2 fGtr (sel 6) ⟨fun _ => .int .i64 64⟩))),
      iOp (put 8) (.v false (oPick (sel 5) ⟨fun _ => .bool true⟩ (sel 7)))])
    (sCond (sel 8)
      (sRegion [iOp (put 0) (.v false (oEv ⟨fun _ => .int .i64 64⟩))])
      (sEx .normal)))
   (sSeq (sRegion [iOp (put 9) (.v false (oEv (sel 0))),
      iOp (put 10) (.a (aMakeSlice 32 2 [.int .u16 0] (sel 9) (sel 9))),
      iOp (put 11) (.a aMakeMap),
      iOp (put 12) (.a aMakeMap),
      iOp (put 13) (.v false (oBuild [.slice none 0 0, .map none, .map none, .slice none 0 0, .int .i64 0] [(0, 1, (sel 10)), (1, 1, (sel 11)), (2, 1, (sel 12))])),
      iOp (put 14) (.a (aBox 101 (sel 13))),
      iOp (put 2) (.v false (oEv (sel 14)))])
    (sEx .ret)))⟩
theorem d26 : denF Tryz.prog 26 = some c26 := denF_of (by kernel_rfl)
/-- (*bollard/xfer.sender).knows -/
noncomputable def c27 : CF := ⟨13, [.tmp (sel 4)],
  sSeq (sRegion [iOp (put 4) (.v false (oEv ⟨fun _ => .bool false⟩))])
  (sSeq (sRegion [iOp (put 5) (.v false (oEv (sel 1))),
     iOp (put 6) (.v false (oConvInt .i64 (sel 5))),
     iOp (put 7) (.v false (oEv (sel 0))),
     iOp (put 8) (.v false (oNilCheck (sel 7))),
     iOp (put 9) (.v false (oFieldAddr 12 (sel 8))),
     iOp (put 10) (.v true (oLoad1 (sel 9))),
     iOp (put 11) (.v false (oLenS (sel 10))),
     iOp (put 12) (.v false (oInt2 fLss (sel 6) (sel 11))),
     iOp (put 4) (.v false (oEv (sel 12)))])
   (sEx .ret))⟩
theorem d27 : denF Tryz.prog 27 = some c27 := denF_of (by kernel_rfl)
noncomputable def k28_0 : Code × Code := pickR (bodyOf Tryz.prog 28) 0
noncomputable def a28_0 : Vm.Sem := sRegion [iOp (put 12) (.v false (oEv (sel 45)))]
noncomputable def b28_0 : Vm.Sem := sBlock 2 (sSeq (sDr [iOp (put 46) (.v true (oLoad1 (sel 5))),
    iOp (put 47) (.v true (oLoad1 (sel 11))),
    iOp (put 48) (.v false (oLenS (sel 47))),
    iOp (put 49) (.v false (oConvInt .u32 (sel 48))),
    iOp (put 50) (.v false (oInt2 fAdd (sel 46) (sel 49))),
    iOp (put 51) (.v false (oEv (sel 12))),
    iOp (put 52) (.e (eCallF 47 [(sel 51)])),
    iOp (put 53) (.v false (oFieldAddr 2 (sel 10))),
    iOp ⟨fun _ a => a⟩ (.e (eStore 1 (sel 53) (sel 50))),
    iOp (put 54) (.v false (oFieldAddr 11 (sel 10))),
    iOp ⟨fun _ a => a⟩ (.e (eStore 1 (sel 54) (sel 52)))]
    [(0, none, (oLoad1 (sel 5)), [0, 7]), (1, none, (oLoad1 (sel 11)), [0, 7])])
  (sRegion [iOp (put 55) (.v true (oLoad1 (sel 11))),
    iOp (put 56) (.v true (oLoadN 12 (sel 10))),
    iOp (put 57) (.a (aBuildSlice 42 1 (rep 1 [.int .u8 0, .int .u8 0, .int .u32 0, .int .u32 0, .int .u16 0, .int .u16 0, .int .u32 0, .slice none 0 0, .slice none 0 0, .slice none 0 0, .slice none 0 0, .slice none 0 0]) [(0, 12, (sel 56))])),
    iOp (put 58) (.e (eAppend 42 12 144 (sel 55) (sel 57))),
    iOp ⟨fun _ a => a⟩ (.e (eStore 1 (sel 11) (sel 58)))]))
theorem ea28_0 : den0 Tryz.prog 77 true k28_0.1 = a28_0 := den0_of (by kernel_rfl)
theorem eb28_0 : den0 Tryz.prog 77 true k28_0.2 = b28_0 := den0_of (by kernel_rfl)
/-- bollard/split.Split -/
noncomputable def c28 : CF := ⟨77, [.tmp (sel 8), .tmp (sel 9)],
  sSeq (sRegion [iOp (put 4) (.a (aBox 34 (sel 0))),
    iOp (put 5) (.a (aBox 22 (sel 1))),
    iOp (put 8) (.v false (oEv ⟨fun _ => .slice none 0 0⟩)),
    iOp (put 9) (.v false (oEv ⟨fun _ => .int .i64 0⟩))])
  (sSeq (sBlock 0 (sSeq (sRegion [iOp (put 14) (.v false (oFieldAddr 3 (sel 4))),
       iOp (put 15) (.v true (oLoad1 (sel 14))),
       iOp (put 16) (.v false (oLenS (sel 15))),
       iOp (put 17) (.v false (oEq (.one 1) (sel 16) ⟨fun _ => .int .i64 0⟩)),
       iOp (put 18) (.v false (oEv (sel 17))),
       iGuard (sel 18) false (put 19) (iOp (put 19) (.v false (oEv (sel 3)))),
       iGuard (sel 18) false (put 20) (iOp (put 20) (.v false (oInt2 fLss (sel 19) ⟨fun _ => .int .i64 1⟩))),
       iOp (put 21) (.v false (oPick (sel 18) ⟨fun _ => .bool true⟩ (sel 20))),
       iOp (put 22) (.v false (oEv (sel 21))),
       iGuard (sel 22) false (put 23) (iOp (put 23) (.v false (oEv (sel 3)))),
       iGuard (sel 22) false (put 24) (iOp (put 24) (.v false (oInt2 fGtr (sel 23) ⟨fun _ => .int .i64 1172⟩))),
       iOp (put 25) (.v false (oPick (sel 22) ⟨fun _ => .bool true⟩ (sel 24))),
       iOp (put 13) (.v false (oEv (sel 25)))])
     (sCond (sel 13)
       (sSeq (sRegion [iOp (put 8) (.v false (oEv ⟨fun _ => .slice none 0 0⟩)),
          iOp (put 9) (.v false (oEv ⟨fun _ => .int .i64 1⟩))])
        (sEx .ret))
       (sSeq (sRegion [iOp (put 27) (.v false (oFieldAddr 3 (sel 4))),
          iOp (put 28) (.v true (oLoad1 (sel 27))),
          iOp (put 29) (.v false (oLenS (sel 28))),
          iOp (put 30) (.v false (oInt2 fGtr (sel 29) ⟨fun _ => .int .i64 16384⟩)),
          iOp (put 26) (.v false (oEv (sel 30)))])
        (sCond (sel 26)
          (sSeq (sRegion [iOp (put 8) (.v false (oEv ⟨fun _ => .slice none 0 0⟩)),
             iOp (put 9) (.v false (oEv ⟨fun _ => .int .i64 10⟩))])
           (sEx .ret))
          (sEx .normal))))))
   (sSeq (sRegion [iOp (put 31) (.v false (oFieldAddr 0 (sel 4))),
      iOp (put 32) (.v true (oLoad1 (sel 31))),
      iOp (put 33) (.v false (oEv (sel 2))),
      iOp (put 34) (.v false (oFieldAddr 2 (sel 4))),
      iOp (put 35) (.v true (oLoad1 (sel 34))),
      iOp (put 36) (.v false (oBuild [.int .u8 0, .int .u8 0, .int .u32 0, .int .u32 0, .int .u16 0, .int .u16 0, .int .u32 0, .slice none 0 0, .slice none 0 0, .slice none 0 0, .slice none 0 0, .slice none 0 0] [(0, 1, ⟨fun _ => .int .u8 0⟩), (4, 1, (sel 32)), (5, 1, (sel 33)), (6, 1, (sel 35))])),
      iOp (put 10) (.a (aAlloc 42 [.int .u8 0, .int .u8 0, .int .u32 0, .int .u32 0, .int .u16 0, .int .u16 0, .int .u32 0, .slice none 0 0, .slice none 0 0, .slice none 0 0, .slice none 0 0, .slice none 0 0])),
      iOp ⟨fun _ a => a⟩ (.e (eStore 12 (sel 10) (sel 36)))])
    (sSeq (sSeq (sRegion [iOp (put 37) (.v false (oFieldAddr 1 (sel 4))),
        iOp (put 38) (.v true (oLoad1 (sel 37)))])
      (sCond (sel 38)
        (sRegion [iOp (put 39) (.v false (oFieldAddr 1 (sel 10))),
          iOp ⟨fun _ a => a⟩ (.e (eStore 1 (sel 39) ⟨fun _ => .int .u8 4⟩)),
          iOp (put 40) (.v false (oFieldAddr 5 (sel 10))),
          iOp ⟨fun _ a => a⟩ (.e (eStore 1 (sel 40) ⟨fun _ => .int .u16 0⟩))])
        (sEx .normal)))
     (sSeq (sRegion [iOp (put 11) (.a (aAlloc 35 [.slice none 0 0]))])
      (sSeq (sSeq (sRegion [iOp (put 41) (.v false (oFieldAddr 3 (sel 4))),
          iOp (put 42) (.v true (oLoad1 (sel 41))),
          iOp (put 43) (.v false (oEv (sel 3))),
          iOp (put 44) (.e (eCallF 46 [(sel 42), (sel 43)]))])
        (sBlock 1 (sRangeFunc 77 (sel 44) [45] k28_0.1 k28_0.2)))
       (sSeq (sRegion [iOp (put 59) (.v true (oLoad1 (sel 11))),
          iOp (put 60) (.v false (oIndexAddrS 12 (sel 59) ⟨fun _ => .int .i64 0⟩)),
          iOp (put 61) (.v false (oFieldAddr 1 (sel 60))),
          iOp (put 62) (.v true (oLoad1 (sel 61))),
          iOp (put 63) (.v false (oInt2 fOr (sel 62) ⟨fun _ => .int .u8 2⟩)),
          iOp (put 64) (.v false (oIndexAddrS 12 (sel 59) ⟨fun _ => .int .i64 0⟩)),
          iOp (put 65) (.v false (oFieldAddr 1 (sel 64))),
          iOp ⟨fun _ a => a⟩ (.e (eStore 1 (sel 65) (sel 63)))])
        (sSeq (sRegion [iOp (put 66) (.v true (oLoad1 (sel 11))),
           iOp (put 67) (.v true (oLoad1 (sel 11))),
           iOp (put 68) (.v false (oLenS (sel 67))),
           iOp (put 69) (.v false (oInt2 fSub (sel 68) ⟨fun _ => .int .i64 1⟩)),
           iOp (put 70) (.v false (oIndexAddrS 12 (sel 66) (sel 69))),
           iOp (put 71) (.v false (oFieldAddr 1 (sel 70))),
           iOp (put 72) (.v true (oLoad1 (sel 71))),
           iOp (put 73) (.v false (oInt2 fOr (sel 72) ⟨fun _ => .int .u8 1⟩)),
           iOp (put 74) (.v false (oIndexAddrS 12 (sel 66) (sel 69))),
           iOp (put 75) (.v false (oFieldAddr 1 (sel 74))),
           iOp ⟨fun _ a => a⟩ (.e (eStore 1 (sel 75) (sel 73)))])
         (sSeq (sRegion [iOp (put 76) (.v true (oLoad1 (sel 11))),
            iOp (put 8) (.v false (oEv (sel 76))),
            iOp (put 9) (.v false (oEv ⟨fun _ => .int .i64 0⟩))])
          (sEx .ret)))))))))⟩
theorem d28 : denF Tryz.prog 28 = some c28 := denF_of (by kernel_rfl)
/-- (*bollard/sendq.Queue).Left -/
noncomputable def c29 : CF := ⟨6, [.tmp (sel 2)],
  sSeq (sRegion [iOp (put 2) (.v false (oEv ⟨fun _ => .int .i64 0⟩))])
  (sSeq (sRegion [iOp (put 3) (.v false (oEv (sel 0))),
     iOp (put 4) (.a (aBuildSlice 3 2 (rep 2 [.int .i64 0]) [(0, 1, ⟨fun _ => .int .i64 0⟩), (1, 1, ⟨fun _ => .int .i64 2⟩)])),
     iOp (put 5) (.e (eCallF 48 [(sel 3), (sel 4)])),
     iOp (put 2) (.v false (oEv (sel 5)))])
   (sEx .ret))⟩
theorem d29 : denF Tryz.prog 29 = some c29 := denF_of (by kernel_rfl)
/-- bollard/xfer.time -/
noncomputable def c30 : CF := ⟨6, [.tmp (sel 2)],
  sSeq (sRegion [iOp (put 2) (.v false (oEv ⟨fun _ => .int .i64 0⟩))])
  (sSeq (sRegion [iOp (put 3) (.v false (oEv (sel 0))),
     iOp (put 4) (.v false (oBest false (sel 3) [⟨fun _ => .int .i64 0⟩])),
     iOp (put 5) (.v false (oBest true (sel 4) [⟨fun _ => .int .i64 1099511627776⟩])),
     iOp (put 2) (.v false (oEv (sel 5)))])
   (sEx .ret))⟩
theorem d30 : denF Tryz.prog 30 = some c30 := denF_of (by kernel_rfl)
noncomputable def c31_0 : Vm.Sem := sSeq (sRegion [iOp (put 41) (.v false (oInt2 fLss (sel 40) (sel 39)))])
 (sSeq (sCond (sel 41)
    (sEx .normal)
    (sEx (.exit 1)))
  (sSeq (sBlock 2 (sSeq (sRegion [iOp (put 42) (.v false (oIndexAddrS 12 (sel 38) (sel 40))),
       iOp (put 43) (.v true (oLoadN 12 (sel 42))),
       iOp (put 11) (.a (aAlloc 42 [.int .u8 0, .int .u8 0, .int .u32 0, .int .u32 0, .int .u16 0, .int .u16 0, .int .u32 0, .slice none 0 0, .slice none 0 0, .slice none 0 0, .slice none 0 0, .slice none 0 0])),
       iOp ⟨fun _ a => a⟩ (.e (eStore 12 (sel 11) (sel 43)))])
     (sSeq (sDr [iOp (put 44) (.v false (oEv (sel 0))),
        iOp (put 45) (.v false (oNilCheck (sel 44))),
        iOp (put 46) (.v false (oFieldAddr 1 (sel 45))),
        iOp (put 47) (.v true (oLoad1 (sel 46))),
        iOp (put 48) (.v false (oFieldAddr 11 (sel 11))),
        iOp (put 49) (.v true (oLoad1 (sel 48))),
        iOp (put 50) (.e (eCallF 47 [(sel 49)])),
        iOp (put 51) (.v false (oFieldAddr 2 (sel 11))),
        iOp ⟨fun _ a => a⟩ (.e (eStore 1 (sel 51) (sel 47))),
        iOp (put 52) (.v false (oFieldAddr 11 (sel 11))),
        iOp ⟨fun _ a => a⟩ (.e (eStore 1 (sel 52) (sel 50)))]
        [(3, none, (oLoad1 (sel 46)), [0, 7])])
      (sSeq (sRegion [iOp (put 53) (.v false (oEv (sel 0))),
         iOp (put 54) (.v false (oNilCheck (sel 53))),
         iOp (put 55) (.v false (oFieldAddr 1 (sel 54))),
         iOp (put 56) (.v true (oLoad1 (sel 55))),
         iOp (put 57) (.v false (oInt2 fAdd (sel 56) ⟨fun _ => .int .u32 1⟩)),
         iOp (put 58) (.v false (oNilCheck (sel 53))),
         iOp (put 59) (.v false (oFieldAddr 1 (sel 58))),
         iOp ⟨fun _ a => a⟩ (.e (eStore 1 (sel 59) (sel 57)))])
       (sRegion [iOp (put 60) (.v false (oEv (sel 0))),
         iOp (put 61) (.v false (oEv (sel 0))),
         iOp (put 62) (.v false (oNilCheck (sel 61))),
         iOp (put 63) (.v false (oFieldAddr 0 (sel 62))),
         iOp (put 64) (.v true (oLoad1 (sel 63))),
         iOp (put 65) (.v true (oLoadN 12 (sel 11))),
         iOp (put 66) (.v false (oEv (sel 9))),
         iOp (put 67) (.v false (oBuild [.int .u8 0, .int .u8 0, .int .u32 0, .int .u32 0, .int .u16 0, .int .u16 0, .int .u32 0, .slice none 0 0, .slice none 0 0, .slice none 0 0, .slice none 0 0, .slice none 0 0, .pointer none, .int .i64 0, .int .i64 0, .int .i64 0, .int .i64 0] [(0, 12, (sel 65)), (12, 1, (sel 66))])),
         iOp (put 68) (.a (aBox 115 (sel 67))),
         iOp (put 69) (.a (aBuildSlice 113 1 (rep 1 [.pointer none]) [(0, 1, (sel 68))])),
         iOp (put 70) (.e (eAppend 113 1 8 (sel 64) (sel 69))),
         iOp (put 71) (.v false (oNilCheck (sel 60))),
         iOp (put 72) (.v false (oFieldAddr 0 (sel 71))),
         iOp ⟨fun _ a => a⟩ (.e (eStore 1 (sel 72) (sel 70)))])))))
   (sRegion [iOp (put 73) (.v false (oInt2 fAdd (sel 40) ⟨fun _ => .int .i64 1⟩)),
     iOp (put 40) (.v false (oEv (sel 73)))])))
/-- (*bollard/sendq.Queue).Push -/
noncomputable def c31 : CF := ⟨74, [.tmp (sel 8)],
  sSeq (sRegion [iOp (put 8) (.v false (oEv ⟨fun _ => .int .i64 0⟩))])
  (sSeq (sBlock 0 (sSeq (sRegion [iOp (put 13) (.v false (oEv (sel 0))),
       iOp (put 14) (.v false (oEq (.one 3) (sel 13) ⟨fun _ => .pointer none⟩)),
       iOp (put 15) (.v false (oEv (sel 14))),
       iGuard (sel 15) false (put 16) (iOp (put 16) (.v false (oEv (sel 1)))),
       iGuard (sel 15) false (put 17) (iOp (put 17) (.v false (oLenS (sel 16)))),
       iGuard (sel 15) false (put 18) (iOp (put 18) (.v false (oEq (.one 1) (sel 17) ⟨fun _ => .int .i64 0⟩))),
       iOp (put 19) (.v false (oPick (sel 15) ⟨fun _ => .bool true⟩ (sel 18))),
       iOp (put 20) (.v false (oEv (sel 19))),
       iGuard (sel 20) false (put 21) (iOp (put 21) (.v false (oEv (sel 1)))),
       iGuard (sel 20) false (put 22) (iOp (put 22) (.e (eCallF 49 [(sel 21), ⟨fun _ => .func (.func 50) #[] #[]⟩]))),
       iOp (put 23) (.v false (oPick (sel 20) ⟨fun _ => .bool true⟩ (sel 22))),
       iOp (put 12) (.v false (oEv (sel 23)))])
     (sCond (sel 12)
       (sSeq (sRegion [iOp (put 8) (.v false (oEv ⟨fun _ => .int .i64 1⟩))])
        (sEx .ret))
       (sSeq (sRegion [iOp (put 25) (.v false (oEv (sel 0))),
          iOp (put 26) (.v false (oNilCheck (sel 25))),
          iOp (put 27) (.v false (oFieldAddr 0 (sel 26))),
          iOp (put 28) (.v true (oLoad1 (sel 27))),
          iOp (put 29) (.v false (oLenS (sel 28))),
          iOp (put 30) (.v false (oEv (sel 1))),
          iOp (put 31) (.v false (oLenS (sel 30))),
          iOp (put 32) (.v false (oInt2 fAdd (sel 29) (sel 31))),
          iOp (put 33) (.v false (oInt2 fGtr (sel 32) ⟨fun _ => .int .i64 1024⟩)),
          iOp (put 24) (.v false (oEv (sel 33)))])
        (sCond (sel 24)
          (sSeq (sRegion [iOp (put 8) (.v false (oEv ⟨fun _ => .int .i64 9⟩))])
           (sEx .ret))
          (sEx .normal))))))
   (sSeq (sRegion [iOp (put 34) (.v false (oEv (sel 2))),
      iOp (put 35) (.v false (oEv (sel 3))),
      iOp (put 36) (.v false (oBuild [.int .i64 0, .int .i64 0, .bool false] [(0, 1, (sel 34)), (1, 1, (sel 35))])),
      iOp (put 37) (.a (aBox 112 (sel 36))),
      iOp (put 9) (.v false (oEv (sel 37)))])
    (sSeq (sSeq (sRegion [iOp (put 38) (.v false (oEv (sel 1))),
        iOp (put 39) (.v false (oLenS (sel 38))),
        iOp (put 40) (.v false (oEv ⟨fun _ => .int .i64 0⟩))])
      (sBlock 1 (sLoop c31_0)))
     (sSeq (sRegion [iOp (put 8) (.v false (oEv ⟨fun _ => .int .i64 0⟩))])
      (sEx .ret)))))⟩
theorem d31 : denF Tryz.prog 31 = some c31 := denF_of (by kernel_rfl)
/-- (*bollard/xfer.receiver).answer -/
noncomputable def c32 : CF := ⟨35, [.tmp (sel 2)],
  sSeq (sRegion [iOp (put 2) (.v false (oEv ⟨fun _ => .slice none 0 0⟩))])
  (sSeq (sSeq (sRegion [iOp (put 3) (.v false (oEv (sel 0))),
      iOp (put 4) (.v false (oNilCheck (sel 3))),
      iOp (put 5) (.v false (oFieldAddr 2 (sel 4))),
      iOp (put 6) (.v true (oLoad1 (sel 5))),
      iOp (put 7) (.v false (oNot (sel 6)))])
    (sCond (sel 7)
      (sSeq (sRegion [iOp (put 2) (.v false (oEv ⟨fun _ => .slice none 0 0⟩))])
       (sEx .ret))
      (sEx .normal)))
   (sSeq (sRegion [iOp (put 8) (.v false (oEv (sel 0))),
      iOp (put 9) (.v false (oNilCheck (sel 8))),
      iOp (put 10) (.v false (oFieldAddr 2 (sel 9))),
      iOp ⟨fun _ a => a⟩ (.e (eStore 1 (sel 10) ⟨fun _ => .bool false⟩))])
    (sSeq (sDr [iOp (put 11) (.v false (oEv (sel 0))),
       iOp (put 12) (.v false (oNilCheck (sel 11))),
       iOp (put 13) (.v false (oFieldAddr 0 (sel 12))),
       iOp (put 14) (.v true (oLoad1 (sel 13))),
       iOp (put 15) (.e (eCallF 44 [(sel 14)])),
       iOp (put 16) (.v false (oEv (sel 0))),
       iOp (put 17) (.v false (oNilCheck (sel 16))),
       iOp (put 18) (.v false (oFieldAddr 1 (sel 17))),
       iOp (put 19) (.v true (oLoad1 (sel 18))),
       iOp (put 20) (.e (eCallF 51 [(sel 19)])),
       iOp (put 21) (.v false (oInt2 fSub ⟨fun _ => .int .i64 65536⟩ (sel 20))),
       iOp (put 22) (.v false (oConvInt .u32 (sel 21))),
       iOp (put 23) (.v false (oEv (sel 0))),
       iOp (put 24) (.v false (oNilCheck (sel 23))),
       iOp (put 25) (.v false (oFieldAddr 0 (sel 24))),
       iOp (put 26) (.v true (oLoad1 (sel 25))),
       iOp (put 27) (.e (eCallF 52 [(sel 26)])),
       iOp (put 28) (.v false (oEv (sel 0))),
       iOp (put 29) (.v false (oNilCheck (sel 28))),
       iOp (put 30) (.v false (oFieldAddr 0 (sel 29))),
       iOp (put 31) (.v true (oLoad1 (sel 30))),
       iOp (put 32) (.e (eCallF 53 [(sel 31)])),
       iOp (put 33) (.v false (oBuild [.int .u8 0, .int .u8 0, .int .u32 0, .int .u32 0, .int .u16 0, .int .u16 0, .int .u32 0, .slice none 0 0, .slice none 0 0, .slice none 0 0, .slice none 0 0, .slice none 0 0] [(0, 1, ⟨fun _ => .int .u8 3⟩), (2, 1, (sel 15)), (3, 1, (sel 22)), (7, 1, (sel 27)), (8, 1, (sel 32))])),
       iOp (put 34) (.a (aBuildSlice 42 1 (rep 1 [.int .u8 0, .int .u8 0, .int .u32 0, .int .u32 0, .int .u16 0, .int .u16 0, .int .u32 0, .slice none 0 0, .slice none 0 0, .slice none 0 0, .slice none 0 0, .slice none 0 0]) [(0, 12, (sel 33))])),
       iOp (put 2) (.v false (oEv (sel 34)))]
       [(8, none, (oLoad1 (sel 18)), [0, 5]), (15, none, (oLoad1 (sel 25)), [0, 5, 10]), (20, none, (oLoad1 (sel 30)), [0, 5, 10, 17])])
     (sEx .ret))))⟩
theorem d32 : denF Tryz.prog 32 = some c32 := denF_of (by kernel_rfl)
/-- (*bollard/xfer.sender).send -/
noncomputable def c33 : CF := ⟨64, [.tmp (sel 4)],
  sSeq (sRegion [iOp (put 4) (.v false (oEv ⟨fun _ => .slice none 0 0⟩))])
  (sSeq (sRegion [iOp (put 7) (.v false (oEv (sel 0))),
     iOp (put 8) (.v false (oNilCheck (sel 7))),
     iOp (put 9) (.v false (oFieldAddr 0 (sel 8))),
     iOp (put 10) (.v true (oLoad1 (sel 9))),
     iOp (put 11) (.v false (oEv (sel 1))),
     iOp (put 12) (.e (eCallF 54 [(sel 10), (sel 11)]))])
   (sSeq (sRegion [iOp (put 13) (.v false (oEv (sel 0))),
      iOp (put 14) (.e (eCallF 55 [(sel 13)])),
      iOp (put 5) (.v false (oEv (sel 14)))])
    (sSeq (sRegion [iOp (put 15) (.v false (oEv (sel 0))),
       iOp (put 16) (.v false (oNilCheck (sel 15))),
       iOp (put 17) (.v false (oFieldAddr 0 (sel 16))),
       iOp (put 18) (.v true (oLoad1 (sel 17))),
       iOp (put 19) (.e (eCallF 56 [(sel 18)])),
       iOp (put 6) (.v false (oEv (sel 19)))])
     (sSeq (sDr [iOp (put 20) (.v false (oEv (sel 5))),
        iOp (put 21) (.v false (oEv (sel 0))),
        iOp (put 22) (.v false (oNilCheck (sel 21))),
        iOp (put 23) (.v false (oFieldAddr 0 (sel 22))),
        iOp (put 24) (.v true (oLoad1 (sel 23))),
        iOp (put 25) (.v false (oEv (sel 1))),
        iOp (put 26) (.v false (oEv (sel 0))),
        iOp (put 27) (.v false (oNilCheck (sel 26))),
        iOp (put 28) (.v false (oFieldAddr 1 (sel 27))),
        iOp (put 29) (.v true (oLoadN 6 (sel 28))),
        iOp (put 30) (.v false (oEv (sel 6))),
        iOp (put 31) (.v false (oEv (sel 0))),
        iOp (put 32) (.v false (oNilCheck (sel 31))),
        iOp (put 33) (.v false (oFieldAddr 11 (sel 32))),
        iOp (put 34) (.v true (oLoad1 (sel 33))),
        iOp (put 35) (.v false (oEv (sel 6))),
        iOp (put 36) (.v false (oInt2 fSub (sel 34) (sel 35))),
        iOp (put 37) (.v false (oBest false ⟨fun _ => .int .i64 0⟩ [(sel 36)])),
        iOp (put 38) (.e (eCallF 58 [(sel 29), (sel 30), (sel 37)])),
        iOp (put 39) (.e (eCallF 57 [(sel 24), (sel 25), (sel 38)])),
        iOp (put 40) (.e (eAppend 42 12 144 (sel 20) (sel 39))),
        iOp (put 5) (.v false (oEv (sel 40)))]
        [(4, none, (oLoad1 (sel 23)), [0, 19])])
      (sSeq (sSeq (sRegion [iOp (put 41) (.v false (oEv (sel 5))),
          iOp (put 42) (.v false (oLenS (sel 41))),
          iOp (put 43) (.v false (oInt2 fGtr (sel 42) ⟨fun _ => .int .i64 0⟩)),
          iOp (put 44) (.v false (oEv (sel 43))),
          iGuard (sel 44) false (put 45) (iOp (put 45) (.v false (oEv (sel 0)))),
          iGuard (sel 44) false (put 46) (iOp (put 46) (.v false (oNilCheck (sel 45)))),
          iGuard (sel 44) false (put 47) (iOp (put 47) (.v false (oFieldAddr 0 (sel 46)))),
          iGuard (sel 44) false (put 48) (iOp (put 48) (.v true (oLoad1 (sel 47)))),
          iGuard (sel 44) false (put 49) (iOp (put 49) (.e (eCallF 56 [(sel 48)]))),
          iGuard (sel 44) false (put 50) (iOp (put 50) (.v false (oInt2 fGtr (sel 49) ⟨fun _ => .int .i64 0⟩))),
          iOp (put 51) (.v false (oPick (sel 44) ⟨fun _ => .bool true⟩ (sel 50))),
          iOp (put 52) (.v false (oEv (sel 51))),
          iGuard (sel 52) true (put 53) (iOp (put 53) (.v false (oEv (sel 0)))),
          iGuard (sel 52) true (put 54) (iOp (put 54) (.v false (oNilCheck (sel 53)))),
          iGuard (sel 52) true (put 55) (iOp (put 55) (.v false (oFieldAddr 13 (sel 54)))),
          iGuard (sel 52) true (put 56) (iOp (put 56) (.v false (oFieldAddr 0 (sel 55)))),
          iGuard (sel 52) true (put 57) (iOp (put 57) (.v true (oLoad1 (sel 56)))),
          iGuard (sel 52) true (put 58) (iOp (put 58) (.v false (oNot (sel 57)))),
          iOp (put 59) (.v false (oPick (sel 52) (sel 58) ⟨fun _ => .bool false⟩))])
        (sCond (sel 59)
          (sRegion [iOp (put 60) (.v false (oEv (sel 0))),
            iOp (put 61) (.v false (oEv (sel 1))),
            iOp (put 62) (.e (eCallF 59 [(sel 60), (sel 61)]))])
          (sEx .normal)))
       (sSeq (sRegion [iOp (put 63) (.v false (oEv (sel 5))),
          iOp (put 4) (.v false (oEv (sel 63)))])
        (sEx .ret)))))))⟩
theorem d33 : denF Tryz.prog 33 = some c33 := denF_of (by kernel_rfl)
/-- (*bollard/xfer.receiver).data -/
noncomputable def c34 : CF := ⟨42, [.tmp (sel 4)],
  sSeq (sRegion [iOp (put 3) (.a (aBox 42 (sel 1))),
    iOp (put 4) (.v false (oEv ⟨fun _ => .int .i64 0⟩))])
  (sSeq (sSeq (sRegion [iOp (put 6) (.v false (oEv (sel 0))),
      iOp (put 7) (.v false (oNilCheck (sel 6))),
      iOp (put 8) (.v false (oFieldAddr 0 (sel 7))),
      iOp (put 9) (.v true (oLoad1 (sel 8))),
      iOp (put 10) (.v false (oFieldAddr 2 (sel 3))),
      iOp (put 11) (.v true (oLoad1 (sel 10))),
      iOp (put 12) (.e (eCallF 60 [(sel 9), (sel 11)])),
      iOp (put 13) (.v false (oNot (sel 12)))])
    (sCond (sel 13)
      (sSeq (sSeq (sDr [iOp (put 14) (.v false (oEv (sel 0))),
          iOp (put 15) (.v false (oNilCheck (sel 14))),
          iOp (put 16) (.v false (oFieldAddr 0 (sel 15))),
          iOp (put 17) (.v true (oLoad1 (sel 16))),
          iOp (put 18) (.e (eCallF 44 [(sel 17)])),
          iOp (put 19) (.v false (oFieldAddr 2 (sel 3))),
          iOp (put 20) (.v true (oLoad1 (sel 19))),
          iOp (put 21) (.e (eCallF 16 [(sel 18), (sel 20)])),
          iOp (put 22) (.v false (oInt2 fGtr (sel 21) ⟨fun _ => .int .u32 1024⟩))]
          [(6, none, (oLoad1 (sel 19)), [0, 5])])
        (sCond (sel 22)
          (sSeq (sRegion [iOp (put 4) (.v false (oEv ⟨fun _ => .int .i64 9⟩))])
           (sEx .ret))
          (sEx .normal)))
       (sSeq (sRegion [iOp (put 23) (.v false (oEv (sel 0))),
          iOp (put 24) (.v false (oNilCheck (sel 23))),
          iOp (put 25) (.v false (oFieldAddr 1 (sel 24))),
          iOp (put 26) (.v true (oLoad1 (sel 25))),
          iOp (put 27) (.v true (oLoadN 12 (sel 3))),
          iOp (put 28) (.e (eCallF 61 [(sel 26), (sel 27)])),
          iOp (put 5) (.v false (oEv (sel 28)))])
        (sSeq (sRegion [iOp (put 29) (.v false (oEv (sel 5))),
           iOp (put 30) (.v false (oNe (.one 1) (sel 29) ⟨fun _ => .int .i64 0⟩))])
         (sCond (sel 30)
           (sSeq (sRegion [iOp (put 31) (.v false (oEv (sel 5))),
              iOp (put 4) (.v false (oEv (sel 31)))])
            (sEx .ret))
           (sEx .normal)))))
      (sEx .normal)))
   (sSeq (sRegion [iOp (put 32) (.v false (oEv (sel 0))),
      iOp (put 33) (.v false (oNilCheck (sel 32))),
      iOp (put 34) (.v false (oFieldAddr 0 (sel 33))),
      iOp (put 35) (.v true (oLoad1 (sel 34))),
      iOp (put 36) (.v false (oFieldAddr 2 (sel 3))),
      iOp (put 37) (.v true (oLoad1 (sel 36))),
      iOp (put 38) (.e (eCallF 62 [(sel 35), (sel 37)]))])
    (sSeq (sRegion [iOp (put 39) (.v false (oEv (sel 0))),
       iOp (put 40) (.v false (oNilCheck (sel 39))),
       iOp (put 41) (.v false (oFieldAddr 2 (sel 40))),
       iOp ⟨fun _ a => a⟩ (.e (eStore 1 (sel 41) ⟨fun _ => .bool true⟩))])
     (sSeq (sRegion [iOp (put 4) (.v false (oEv ⟨fun _ => .int .i64 0⟩))])
      (sEx .ret)))))⟩
theorem d34 : denF Tryz.prog 34 = some c34 := denF_of (by kernel_rfl)
/-- (*bollard/xfer.sender).sack -/
noncomputable def c35 : CF := ⟨102, [.tmp (sel 6)],
  sSeq (sRegion [iOp (put 4) (.a (aBox 42 (sel 1))),
    iOp (put 6) (.v false (oEv ⟨fun _ => .int .i64 0⟩))])
  (sSeq (sDr [iOp (put 10) (.v false (oEv (sel 0))),
     iOp (put 11) (.v false (oNilCheck (sel 10))),
     iOp (put 12) (.v false (oFieldAddr 0 (sel 11))),
     iOp (put 13) (.v true (oLoad1 (sel 12))),
     iOp (put 14) (.e (eCallF 56 [(sel 13)])),
     iOp (put 15) (.v false (oEv (sel 0))),
     iOp (put 16) (.v false (oNilCheck (sel 15))),
     iOp (put 17) (.v false (oFieldAddr 1 (sel 16))),
     iOp (put 18) (.v false (oFieldAddr 0 (sel 17))),
     iOp (put 19) (.v true (oLoad1 (sel 18))),
     iOp (put 20) (.v false (oInt2 fGeq (sel 14) (sel 19))),
     iOp (put 7) (.v false (oEv (sel 20)))]
     [(9, none, (oLoad1 (sel 18)), [0, 5])])
   (sSeq (sRegion [iOp (put 22) (.v false (oEv (sel 0))),
      iOp (put 23) (.v false (oNilCheck (sel 22))),
      iOp (put 24) (.v false (oFieldAddr 0 (sel 23))),
      iOp (put 25) (.v true (oLoad1 (sel 24))),
      iOp (put 26) (.v false (oFieldAddr 2 (sel 4))),
      iOp (put 27) (.v true (oLoad1 (sel 26))),
      iOp (put 28) (.v false (oFieldAddr 7 (sel 4))),
      iOp (put 29) (.v true (oLoad1 (sel 28))),
      iOp (put 30) (.v false (oEv (sel 2))),
      iOp (put 31) (.e (eCallF 63 [(sel 25), (sel 27), (sel 29), (sel 30)])),
      iOp (put 21) (.v false (oEv (sel 31))),
      iOp (put 32) (.v false (oExtract (sel 21) 0)),
      iOp (put 33) (.v false (oExtract (sel 21) 1)),
      iOp (put 8) (.a (aAlloc 125 [.int .i64 0, .int .i64 0, .bool false, .bool false])),
      iOp ⟨fun _ a => a⟩ (.e (eStore 4 (sel 8) (sel 32))),
      iOp (put 9) (.v false (oEv (sel 33)))])
    (sSeq (sSeq (sRegion [iOp (put 34) (.v false (oEv (sel 9))),
        iOp (put 35) (.v false (oNot (sel 34)))])
      (sCond (sel 35)
        (sSeq (sRegion [iOp (put 6) (.v false (oEv ⟨fun _ => .int .i64 3⟩))])
         (sEx .ret))
        (sEx .normal)))
     (sSeq (sRegion [iOp (put 36) (.v false (oEv (sel 0))),
        iOp (put 37) (.v false (oFieldAddr 3 (sel 4))),
        iOp (put 38) (.v true (oLoad1 (sel 37))),
        iOp (put 39) (.v false (oConvInt .i64 (sel 38))),
        iOp (put 40) (.v false (oNilCheck (sel 36))),
        iOp (put 41) (.v false (oFieldAddr 11 (sel 40))),
        iOp ⟨fun _ a => a⟩ (.e (eStore 1 (sel 41) (sel 39)))])
      (sSeq (sSeq (sRegion [iOp (put 42) (.v false (oFieldAddr 1 (sel 8))),
          iOp (put 43) (.v true (oLoad1 (sel 42))),
          iOp (put 44) (.v false (oInt2 fGeq (sel 43) ⟨fun _ => .int .i64 0⟩))])
        (sCond (sel 44)
          (sRegion [iOp (put 45) (.v false (oEv (sel 0))),
            iOp (put 46) (.v false (oEv (sel 0))),
            iOp (put 47) (.v false (oNilCheck (sel 46))),
            iOp (put 48) (.v false (oFieldAddr 7 (sel 47))),
            iOp (put 49) (.v true (oLoadN 4 (sel 48))),
            iOp (put 50) (.v false (oFieldAddr 1 (sel 8))),
            iOp (put 51) (.v true (oLoad1 (sel 50))),
            iOp (put 52) (.e (eCallF 64 [(sel 49), (sel 51)])),
            iOp (put 53) (.v false (oNilCheck (sel 45))),
            iOp (put 54) (.v false (oFieldAddr 7 (sel 53))),
            iOp ⟨fun _ a => a⟩ (.e (eStore 4 (sel 54) (sel 52)))])
          (sEx .normal)))
       (sSeq (sRegion [iOp (put 55) (.v false (oEv (sel 0))),
          iOp (put 56) (.v false (oEv (sel 0))),
          iOp (put 57) (.v false (oNilCheck (sel 56))),
          iOp (put 58) (.v false (oFieldAddr 1 (sel 57))),
          iOp (put 59) (.v true (oLoadN 6 (sel 58))),
          iOp (put 60) (.v false (oFieldAddr 0 (sel 8))),
          iOp (put 61) (.v true (oLoad1 (sel 60))),
          iOp (put 62) (.v false (oEv (sel 7))),
          iOp (put 63) (.v false (oFieldAddr 2 (sel 4))),
          iOp (put 64) (.v true (oLoad1 (sel 63))),
          iOp (put 65) (.e (eCallF 65 [(sel 59), (sel 61), (sel 62), (sel 64)])),
          iOp (put 66) (.v false (oNilCheck (sel 55))),
          iOp (put 67) (.v false (oFieldAddr 1 (sel 66))),
          iOp ⟨fun _ a => a⟩ (.e (eStore 6 (sel 67) (sel 65)))])
        (sSeq (sSeq (sRegion [iOp (put 68) (.v false (oFieldAddr 2 (sel 8))),
            iOp (put 69) (.v true (oLoad1 (sel 68)))])
          (sCond (sel 69)
            (sDr [iOp (put 70) (.v false (oEv (sel 0))),
              iOp (put 71) (.v false (oEv (sel 0))),
              iOp (put 72) (.v false (oNilCheck (sel 71))),
              iOp (put 73) (.v false (oFieldAddr 1 (sel 72))),
              iOp (put 74) (.v true (oLoadN 6 (sel 73))),
              iOp (put 75) (.v false (oEv (sel 0))),
              iOp (put 76) (.v false (oNilCheck (sel 75))),
              iOp (put 77) (.v false (oFieldAddr 0 (sel 76))),
              iOp (put 78) (.v true (oLoad1 (sel 77))),
              iOp (put 79) (.e (eCallF 39 [(sel 78)])),
              iOp (put 80) (.v false (oInt2 fSub (sel 79) ⟨fun _ => .int .u32 1⟩)),
              iOp (put 81) (.e (eCallF 66 [(sel 74), (sel 80)])),
              iOp (put 82) (.v false (oNilCheck (sel 70))),
              iOp (put 83) (.v false (oFieldAddr 1 (sel 82))),
              iOp ⟨fun _ a => a⟩ (.e (eStore 6 (sel 83) (sel 81)))]
              [(4, none, (oLoadN 6 (sel 73)), [0, 10])])
            (sEx .normal)))
         (sSeq (sSeq (sRegion [iOp (put 84) (.v false (oFieldAddr 3 (sel 8))),
             iOp (put 85) (.v true (oLoad1 (sel 84)))])
           (sCond (sel 85)
             (sSeq (sRegion [iOp (put 86) (.v false (oEv (sel 0))),
                iOp (put 87) (.v false (oNilCheck (sel 86))),
                iOp (put 88) (.v false (oFieldAddr 17 (sel 87))),
                iOp ⟨fun _ a => a⟩ (.e (eStore 1 (sel 88) ⟨fun _ => .int .i64 0⟩))])
              (sRegion [iOp (put 89) (.v false (oEv (sel 0))),
                iOp (put 90) (.v false (oEv (sel 2))),
                iOp (put 91) (.e (eCallF 59 [(sel 89), (sel 90)]))]))
             (sEx .normal)))
          (sSeq (sSeq (sRegion [iOp (put 92) (.v false (oEv (sel 0))),
              iOp (put 93) (.v false (oNilCheck (sel 92))),
              iOp (put 94) (.v false (oFieldAddr 0 (sel 93))),
              iOp (put 95) (.v true (oLoad1 (sel 94))),
              iOp (put 96) (.e (eCallF 38 [(sel 95)])),
              iOp (put 97) (.v false (oEq (.one 1) (sel 96) ⟨fun _ => .int .i64 0⟩))])
            (sCond (sel 97)
              (sRegion [iOp (put 98) (.v false (oEv (sel 0))),
                iOp (put 99) (.v false (oBuild [.bool false, .int .i64 0] [])),
                iOp (put 100) (.v false (oNilCheck (sel 98))),
                iOp (put 101) (.v false (oFieldAddr 13 (sel 100))),
                iOp ⟨fun _ a => a⟩ (.e (eStore 2 (sel 101) (sel 99)))])
              (sEx .normal)))
           (sSeq (sRegion [iOp (put 6) (.v false (oEv ⟨fun _ => .int .i64 0⟩))])
            (sEx .ret)))))))))))⟩
theorem d35 : denF Tryz.prog 35 = some c35 := denF_of (by kernel_rfl)
noncomputable def c37_0 : Vm.Sem := sSeq (sRegion [iOp (put 15) (.v false (oInt2 fLss (sel 14) (sel 13)))])
 (sSeq (sCond (sel 15)
    (sEx .normal)
    (sEx (.exit 0)))
  (sSeq (sBlock 1 (sSeq (sRegion [iOp (put 16) (.v false (oIndexAddrS 4 (sel 12) (sel 14))),
       iOp (put 17) (.v true (oLoadN 4 (sel 16))),
       iOp (put 5) (.a (aAlloc 34 [.int .u16 0, .bool false, .int .u32 0, .slice none 0 0])),
       iOp ⟨fun _ a => a⟩ (.e (eStore 4 (sel 5) (sel 17)))])
     (sRegion [iOp (put 18) (.v false (oEv (sel 0))),
       iOp (put 19) (.v false (oNilCheck (sel 18))),
       iOp (put 20) (.v false (oFieldAddr 4 (sel 19))),
       iOp (put 21) (.v true (oLoad1 (sel 20))),
       iOp (put 22) (.v false (oFieldAddr 3 (sel 5))),
       iOp (put 23) (.v true (oLoad1 (sel 22))),
       iOp (put 24) (.v false (oLenS (sel 23))),
       iOp (put 25) (.v false (oInt2 fSub (sel 21) (sel 24))),
       iOp (put 26) (.v false (oNilCheck (sel 18))),
       iOp (put 27) (.v false (oFieldAddr 4 (sel 26))),
       iOp ⟨fun _ a => a⟩ (.e (eStore 1 (sel 27) (sel 25)))])))
   (sRegion [iOp (put 28) (.v false (oInt2 fAdd (sel 14) ⟨fun _ => .int .i64 1⟩)),
     iOp (put 14) (.v false (oEv (sel 28)))])))
/-- (*bollard/join.Join).Take -/
noncomputable def c37 : CF := ⟨33, [.tmp (sel 2)],
  sSeq (sRegion [iOp (put 2) (.v false (oEv ⟨fun _ => .slice none 0 0⟩))])
  (sSeq (sSeq (sRegion [iOp (put 6) (.v false (oEv (sel 0))),
      iOp (put 7) (.v false (oEq (.one 3) (sel 6) ⟨fun _ => .pointer none⟩))])
    (sCond (sel 7)
      (sSeq (sRegion [iOp (put 2) (.v false (oEv ⟨fun _ => .slice none 0 0⟩))])
       (sEx .ret))
      (sEx .normal)))
   (sSeq (sRegion [iOp (put 8) (.v false (oEv (sel 0))),
      iOp (put 9) (.v false (oNilCheck (sel 8))),
      iOp (put 10) (.v false (oFieldAddr 3 (sel 9))),
      iOp (put 11) (.v true (oLoad1 (sel 10))),
      iOp (put 3) (.v false (oEv (sel 11)))])
    (sSeq (sSeq (sRegion [iOp (put 12) (.v false (oEv (sel 3))),
        iOp (put 13) (.v false (oLenS (sel 12))),
        iOp (put 14) (.v false (oEv ⟨fun _ => .int .i64 0⟩))])
      (sBlock 0 (sLoop c37_0)))
     (sSeq (sRegion [iOp (put 29) (.v false (oEv (sel 0))),
        iOp (put 30) (.v false (oNilCheck (sel 29))),
        iOp (put 31) (.v false (oFieldAddr 3 (sel 30))),
        iOp ⟨fun _ a => a⟩ (.e (eStore 1 (sel 31) ⟨fun _ => .slice none 0 0⟩))])
      (sSeq (sRegion [iOp (put 32) (.v false (oEv (sel 3))),
         iOp (put 2) (.v false (oEv (sel 32)))])
       (sEx .ret))))))⟩
theorem d37 : denF Tryz.prog 37 = some c37 := denF_of (by kernel_rfl)
/-- (*bollard/sendq.Queue).Len -/
noncomputable def c38 : CF := ⟨10, [.tmp (sel 2)],
  sSeq (sRegion [iOp (put 2) (.v false (oEv ⟨fun _ => .int .i64 0⟩))])
  (sSeq (sSeq (sRegion [iOp (put 3) (.v false (oEv (sel 0))),
      iOp (put 4) (.v false (oEq (.one 3) (sel 3) ⟨fun _ => .pointer none⟩))])
    (sCond (sel 4)
      (sSeq (sRegion [iOp (put 2) (.v false (oEv ⟨fun _ => .int .i64 0⟩))])
       (sEx .ret))
      (sEx .normal)))
   (sSeq (sRegion [iOp (put 5) (.v false (oEv (sel 0))),
      iOp (put 6) (.v false (oNilCheck (sel 5))),
      iOp (put 7) (.v false (oFieldAddr 0 (sel 6))),
      iOp (put 8) (.v true (oLoad1 (sel 7))),
      iOp (put 9) (.v false (oLenS (sel 8))),
      iOp (put 2) (.v false (oEv (sel 9)))])
    (sEx .ret)))⟩
theorem d38 : denF Tryz.prog 38 = some c38 := denF_of (by kernel_rfl)
/-- (*bollard/sendq.Queue).Next -/
noncomputable def c39 : CF := ⟨9, [.tmp (sel 2)],
  sSeq (sRegion [iOp (put 2) (.v false (oEv ⟨fun _ => .int .u32 0⟩))])
  (sSeq (sSeq (sRegion [iOp (put 3) (.v false (oEv (sel 0))),
      iOp (put 4) (.v false (oEq (.one 3) (sel 3) ⟨fun _ => .pointer none⟩))])
    (sCond (sel 4)
      (sSeq (sRegion [iOp (put 2) (.v false (oEv ⟨fun _ => .int .u32 0⟩))])
       (sEx .ret))
      (sEx .normal)))
   (sSeq (sRegion [iOp (put 5) (.v false (oEv (sel 0))),
      iOp (put 6) (.v false (oNilCheck (sel 5))),
      iOp (put 7) (.v false (oFieldAddr 1 (sel 6))),
      iOp (put 8) (.v true (oLoad1 (sel 7))),
      iOp (put 2) (.v false (oEv (sel 8)))])
    (sEx .ret)))⟩
theorem d39 : denF Tryz.prog 39 = some c39 := denF_of (by kernel_rfl)
/-- (*bollard/gaps.Set).Cum -/
noncomputable def c44 : CF := ⟨9, [.tmp (sel 2)],
  sSeq (sRegion [iOp (put 2) (.v false (oEv ⟨fun _ => .int .u32 0⟩))])
  (sSeq (sSeq (sRegion [iOp (put 3) (.v false (oEv (sel 0))),
      iOp (put 4) (.v false (oEq (.one 3) (sel 3) ⟨fun _ => .pointer none⟩))])
    (sCond (sel 4)
      (sSeq (sRegion [iOp (put 2) (.v false (oEv ⟨fun _ => .int .u32 0⟩))])
       (sEx .ret))
      (sEx .normal)))
   (sSeq (sRegion [iOp (put 5) (.v false (oEv (sel 0))),
      iOp (put 6) (.v false (oNilCheck (sel 5))),
      iOp (put 7) (.v false (oFieldAddr 0 (sel 6))),
      iOp (put 8) (.v true (oLoad1 (sel 7))),
      iOp (put 2) (.v false (oEv (sel 8)))])
    (sEx .ret)))⟩
theorem d44 : denF Tryz.prog 44 = some c44 := denF_of (by kernel_rfl)
/-- bollard/window.between -/
noncomputable def c45 : CF := ⟨15, [.tmp (sel 6)],
  sSeq (sRegion [iOp (put 6) (.v false (oEv ⟨fun _ => .bool false⟩))])
  (sSeq (sRegion [iOp (put 7) (.v false (oEv (sel 0))),
     iOp (put 8) (.v false (oEv (sel 1))),
     iOp (put 9) (.v false (oInt2 fLeq (sel 7) (sel 8))),
     iOp (put 10) (.v false (oEv (sel 9))),
     iGuard (sel 10) true (put 11) (iOp (put 11) (.v false (oEv (sel 1)))),
     iGuard (sel 10) true (put 12) (iOp (put 12) (.v false (oEv (sel 2)))),
     iGuard (sel 10) true (put 13) (iOp (put 13) (.v false (oInt2 fLeq (sel 11) (sel 12)))),
     iOp (put 14) (.v false (oPick (sel 10) (sel 13) ⟨fun _ => .bool false⟩)),
     iOp (put 6) (.v false (oEv (sel 14)))])
   (sEx .ret))⟩
theorem d45 : denF Tryz.prog 45 = some c45 := denF_of (by kernel_rfl)
/-- slices.Chunk[[]byte,byte] -/
noncomputable def c46 : CF := ⟨9, [.tmp (sel 4)],
  sSeq (sRegion [iOp (put 2) (.a (aBox 31 (sel 0))),
    iOp (put 3) (.a (aBox 3 (sel 1))),
    iOp (put 4) (.v false (oEv ⟨fun _ => .nilFunc⟩))])
  (sSeq (sSeq (sRegion [iOp (put 5) (.v true (oLoad1 (sel 3))),
      iOp (put 6) (.v false (oInt2 fLss (sel 5) ⟨fun _ => .int .i64 1⟩))])
    (sCond (sel 6)
      (sRegion [iOp (put 7) (.v false (oIface 9 ⟨fun _ => .string ⟨#[99, 97, 110, 110, 111, 116, 32, 98, 101, 32, 108, 101, 115, 115, 32, 116, 104, 97, 110, 32, 49]⟩⟩)),
        iOp ⟨fun _ a => a⟩ (oNo)])
      (sEx .normal)))
   (sSeq (sRegion [iOp (put 8) (.v false (oFunc (.func 79) [] [(sel 2), (sel 3)])),
      iOp (put 4) (.v false (oEv (sel 8)))])
    (sEx .ret)))⟩
theorem d46 : denF Tryz.prog 46 = some c46 := denF_of (by kernel_rfl)
/-- slices.Clone[[]byte,byte] -/
noncomputable def c47 : CF := ⟨8, [.tmp (sel 2)],
  sSeq (sRegion [iOp (put 2) (.v false (oEv ⟨fun _ => .slice none 0 0⟩))])
  (sSeq (sSeq (sRegion [iOp (put 3) (.v false (oEv (sel 0))),
      iOp (put 4) (.v false (oEq (.one 4) (sel 3) ⟨fun _ => .slice none 0 0⟩))])
    (sCond (sel 4)
      (sSeq (sRegion [iOp (put 2) (.v false (oEv ⟨fun _ => .slice none 0 0⟩))])
       (sEx .ret))
      (sEx .normal)))
   (sSeq (sRegion [iOp (put 5) (.a (aBuildSlice 5 0 (rep 0 [.int .u8 0]) [])),
      iOp (put 6) (.v false (oEv (sel 0))),
      iOp (put 7) (.e (eAppend 5 1 1 (sel 5) (sel 6))),
      iOp (put 2) (.v false (oEv (sel 7)))])
    (sEx .ret)))⟩
theorem d47 : denF Tryz.prog 47 = some c47 := denF_of (by kernel_rfl)
/-- (*bollard/sendq.Queue).octets -/
noncomputable def c48 : CF := ⟨9, [.tmp (sel 4)],
  sSeq (sRegion [iOp (put 4) (.v false (oEv ⟨fun _ => .int .i64 0⟩))])
  (sSeq (sRegion [iOp (put 5) (.v false (oEv (sel 0))),
     iOp (put 6) (.v false (oEv (sel 1))),
     iOp (put 7) (.e (eCallF 73 [(sel 5), (sel 6)])),
     iOp (put 8) (.e (eCallF 80 [(sel 7), ⟨fun _ => .func (.func 81) #[] #[]⟩])),
     iOp (put 4) (.v false (oEv (sel 8)))])
   (sEx .ret))⟩
theorem d48 : denF Tryz.prog 48 = some c48 := denF_of (by kernel_rfl)
/-- slices.ContainsFunc[[]bollard/api.Chunk,bollard/api.Chunk] -/
noncomputable def c49 : CF := ⟨9, [.tmp (sel 4)],
  sSeq (sRegion [iOp (put 4) (.v false (oEv ⟨fun _ => .bool false⟩))])
  (sSeq (sRegion [iOp (put 5) (.v false (oEv (sel 0))),
     iOp (put 6) (.v false (oEv (sel 1))),
     iOp (put 7) (.e (eCallF 82 [(sel 5), (sel 6)])),
     iOp (put 8) (.v false (oInt2 fGeq (sel 7) ⟨fun _ => .int .i64 0⟩)),
     iOp (put 4) (.v false (oEv (sel 8)))])
   (sEx .ret))⟩
theorem d49 : denF Tryz.prog 49 = some c49 := denF_of (by kernel_rfl)
/-- bollard/sendq.noData -/
noncomputable def c50 : CF := ⟨12, [.tmp (sel 2)],
  sSeq (sRegion [iOp (put 1) (.a (aBox 42 (sel 0))),
    iOp (put 2) (.v false (oEv ⟨fun _ => .bool false⟩))])
  (sSeq (sRegion [iOp (put 3) (.v false (oFieldAddr 0 (sel 1))),
     iOp (put 4) (.v true (oLoad1 (sel 3))),
     iOp (put 5) (.v false (oNe (.one 1) (sel 4) ⟨fun _ => .int .u8 0⟩)),
     iOp (put 6) (.v false (oEv (sel 5))),
     iGuard (sel 6) false (put 7) (iOp (put 7) (.v false (oFieldAddr 11 (sel 1)))),
     iGuard (sel 6) false (put 8) (iOp (put 8) (.v true (oLoad1 (sel 7)))),
     iGuard (sel 6) false (put 9) (iOp (put 9) (.v false (oLenS (sel 8)))),
     iGuard (sel 6) false (put 10) (iOp (put 10) (.v false (oEq (.one 1) (sel 9) ⟨fun _ => .int .i64 0⟩))),
     iOp (put 11) (.v false (oPick (sel 6) ⟨fun _ => .bool true⟩ (sel 10))),
     iOp (put 2) (.v false (oEv (sel 11)))])
   (sEx .ret))⟩
theorem d50 : denF Tryz.prog 50 = some c50 := denF_of (by kernel_rfl)
/-- (*bollard/join.Join).Held -/
noncomputable def c51 : CF := ⟨9, [.tmp (sel 2)],
  sSeq (sRegion [iOp (put 2) (.v false (oEv ⟨fun _ => .int .i64 0⟩))])
  (sSeq (sSeq (sRegion [iOp (put 3) (.v false (oEv (sel 0))),
      iOp (put 4) (.v false (oEq (.one 3) (sel 3) ⟨fun _ => .pointer none⟩))])
    (sCond (sel 4)
      (sSeq (sRegion [iOp (put 2) (.v false (oEv ⟨fun _ => .int .i64 0⟩))])
       (sEx .ret))
      (sEx .normal)))
   (sSeq (sRegion [iOp (put 5) (.v false (oEv (sel 0))),
      iOp (put 6) (.v false (oNilCheck (sel 5))),
      iOp (put 7) (.v false (oFieldAddr 4 (sel 6))),
      iOp (put 8) (.v true (oLoad1 (sel 7))),
      iOp (put 2) (.v false (oEv (sel 8)))])
    (sEx .ret)))⟩
theorem d51 : denF Tryz.prog 51 = some c51 := denF_of (by kernel_rfl)
noncomputable def c52_0 : Vm.Sem := sSeq (sRegion [iOp (put 16) (.e (eNext (sel 15))),
   iOp (put 17) (.v false (oExtract (sel 16) 0))])
 (sSeq (sCond (sel 17)
    (sEx .normal)
    (sEx (.exit 0)))
  (sBlock 1 (sSeq (sRegion [iOp (put 18) (.v true (oEntry (sel 15))),
      iOp (put 19) (.v false (oExtract (sel 18) 0)),
      iOp (put 4) (.v false (oEv (sel 19)))])
    (sRegion [iOp (put 20) (.v false (oEv (sel 3))),
      iOp (put 21) (.v false (oEv (sel 0))),
      iOp (put 22) (.v false (oNilCheck (sel 21))),
      iOp (put 23) (.v false (oFieldAddr 0 (sel 22))),
      iOp (put 24) (.v true (oLoad1 (sel 23))),
      iOp (put 25) (.v false (oEv (sel 4))),
      iOp (put 26) (.e (eCallF 16 [(sel 24), (sel 25)])),
      iOp (put 27) (.a (aBuildSlice 22 1 (rep 1 [.int .u32 0]) [(0, 1, (sel 26))])),
      iOp (put 28) (.e (eAppend 22 1 4 (sel 20) (sel 27))),
      iOp (put 3) (.v false (oEv (sel 28)))]))))
noncomputable def c52_1 : Vm.Sem := sSeq (sRegion [iOp (put 34) (.v false (oInt2 fLss (sel 33) (sel 32)))])
 (sSeq (sCond (sel 34)
    (sEx .normal)
    (sEx (.exit 2)))
  (sSeq (sBlock 3 (sSeq (sRegion [iOp (put 35) (.v false (oIndexAddrS 1 (sel 31) (sel 33))),
       iOp (put 36) (.v true (oLoad1 (sel 35))),
       iOp (put 7) (.v false (oEv (sel 36)))])
     (sSeq (sSeq (sRegion [iOp (put 37) (.v false (oEv (sel 5))),
         iOp (put 38) (.v false (oLenS (sel 37))),
         iOp (put 39) (.v false (oInt2 fSub (sel 38) ⟨fun _ => .int .i64 1⟩)),
         iOp (put 8) (.v false (oEv (sel 39)))])
       (sSeq (sRegion [iOp (put 40) (.v false (oEv (sel 8))),
          iOp (put 41) (.v false (oInt2 fGeq (sel 40) ⟨fun _ => .int .i64 0⟩)),
          iOp (put 42) (.v false (oEv (sel 41))),
          iGuard (sel 42) true (put 43) (iOp (put 43) (.v false (oEv (sel 5)))),
          iGuard (sel 42) true (put 44) (iOp (put 44) (.v false (oEv (sel 8)))),
          iGuard (sel 42) true (put 45) (iOp (put 45) (.v false (oIndexAddrS 2 (sel 43) (sel 44)))),
          iGuard (sel 42) true (put 46) (iOp (put 46) (.v false (oFieldAddr 1 (sel 45)))),
          iGuard (sel 42) true (put 47) (iOp (put 47) (.v true (oLoad1 (sel 46)))),
          iGuard (sel 42) true (put 48) (iOp (put 48) (.v false (oConvInt .u32 (sel 47)))),
          iGuard (sel 42) true (put 49) (iOp (put 49) (.v false (oInt2 fAdd (sel 48) ⟨fun _ => .int .u32 1⟩))),
          iGuard (sel 42) true (put 50) (iOp (put 50) (.v false (oEv (sel 7)))),
          iGuard (sel 42) true (put 51) (iOp (put 51) (.v false (oEq (.one 1) (sel 49) (sel 50)))),
          iOp (put 52) (.v false (oPick (sel 42) (sel 51) ⟨fun _ => .bool false⟩))])
        (sCond (sel 52)
          (sSeq (sRegion [iOp (put 53) (.v false (oEv (sel 5))),
             iOp (put 54) (.v false (oEv (sel 8))),
             iOp (put 55) (.v false (oIndexAddrS 2 (sel 53) (sel 54))),
             iOp (put 56) (.v false (oFieldAddr 1 (sel 55))),
             iOp (put 57) (.v true (oLoad1 (sel 56))),
             iOp (put 58) (.v false (oInt2 fAdd (sel 57) ⟨fun _ => .int .u16 1⟩)),
             iOp (put 59) (.v false (oIndexAddrS 2 (sel 53) (sel 54))),
             iOp (put 60) (.v false (oFieldAddr 1 (sel 59))),
             iOp ⟨fun _ a => a⟩ (.e (eStore 1 (sel 60) (sel 58)))])
           (sEx (.exit 3)))
          (sEx .normal))))
      (sRegion [iOp (put 61) (.v false (oEv (sel 5))),
        iOp (put 62) (.v false (oEv (sel 7))),
        iOp (put 63) (.v false (oConvInt .u16 (sel 62))),
        iOp (put 64) (.v false (oEv (sel 7))),
        iOp (put 65) (.v false (oConvInt .u16 (sel 64))),
        iOp (put 66) (.v false (oBuild [.int .u16 0, .int .u16 0] [(0, 1, (sel 63)), (1, 1, (sel 65))])),
        iOp (put 67) (.a (aBuildSlice 150 1 (rep 1 [.int .u16 0, .int .u16 0]) [(0, 2, (sel 66))])),
        iOp (put 68) (.e (eAppend 150 2 4 (sel 61) (sel 67))),
        iOp (put 5) (.v false (oEv (sel 68)))]))))
   (sRegion [iOp (put 69) (.v false (oInt2 fAdd (sel 33) ⟨fun _ => .int .i64 1⟩)),
     iOp (put 33) (.v false (oEv (sel 69)))])))
/-- (*bollard/gaps.Set).Blocks -/
noncomputable def c52 : CF := ⟨75, [.tmp (sel 2)],
  sSeq (sRegion [iOp (put 2) (.v false (oEv ⟨fun _ => .slice none 0 0⟩))])
  (sSeq (sSeq (sRegion [iOp (put 9) (.v false (oEv (sel 0))),
      iOp (put 10) (.v false (oEq (.one 3) (sel 9) ⟨fun _ => .pointer none⟩))])
    (sCond (sel 10)
      (sSeq (sRegion [iOp (put 2) (.v false (oEv ⟨fun _ => .slice none 0 0⟩))])
       (sEx .ret))
      (sEx .normal)))
   (sSeq (sRegion [iOp (put 3) (.v false (oEv ⟨fun _ => .slice none 0 0⟩))])
    (sSeq (sSeq (sRegion [iOp (put 11) (.v false (oEv (sel 0))),
        iOp (put 12) (.v false (oNilCheck (sel 11))),
        iOp (put 13) (.v false (oFieldAddr 1 (sel 12))),
        iOp (put 14) (.v true (oLoad1 (sel 13))),
        iOp (put 15) (.e (eRange (sel 14)))])
      (sBlock 0 (sLoop c52_0)))
     (sSeq (sRegion [iOp (put 29) (.v false (oEv (sel 3))),
        iOp (put 30) (.e (eCallF 83 [(sel 29)]))])
      (sSeq (sRegion [iOp (put 5) (.v false (oEv ⟨fun _ => .slice none 0 0⟩))])
       (sSeq (sSeq (sRegion [iOp (put 31) (.v false (oEv (sel 3))),
           iOp (put 32) (.v false (oLenS (sel 31))),
           iOp (put 33) (.v false (oEv ⟨fun _ => .int .i64 0⟩))])
         (sBlock 2 (sLoop c52_1)))
        (sSeq (sRegion [iOp (put 70) (.v false (oEv (sel 5))),
           iOp (put 71) (.v false (oEv (sel 5))),
           iOp (put 72) (.v false (oLenS (sel 71))),
           iOp (put 73) (.v false (oBest true (sel 72) [⟨fun _ => .int .i64 64⟩])),
           iOp (put 74) (.v false (oSlice 2 (sel 70) none (some (sel 73)) none)),
           iOp (put 2) (.v false (oEv (sel 74)))])
         (sEx .ret))))))))⟩
theorem d52 : denF Tryz.prog 52 = some c52 := denF_of (by kernel_rfl)
/-- (*bollard/gaps.Set).Dups -/
noncomputable def c53 : CF := ⟨14, [.tmp (sel 2)],
  sSeq (sRegion [iOp (put 2) (.v false (oEv ⟨fun _ => .slice none 0 0⟩))])
  (sSeq (sSeq (sRegion [iOp (put 4) (.v false (oEv (sel 0))),
      iOp (put 5) (.v false (oEq (.one 3) (sel 4) ⟨fun _ => .pointer none⟩))])
    (sCond (sel 5)
      (sSeq (sRegion [iOp (put 2) (.v false (oEv ⟨fun _ => .slice none 0 0⟩))])
       (sEx .ret))
      (sEx .normal)))
   (sSeq (sRegion [iOp (put 6) (.v false (oEv (sel 0))),
      iOp (put 7) (.v false (oNilCheck (sel 6))),
      iOp (put 8) (.v false (oFieldAddr 2 (sel 7))),
      iOp (put 9) (.v true (oLoad1 (sel 8))),
      iOp (put 3) (.v false (oEv (sel 9)))])
    (sSeq (sRegion [iOp (put 10) (.v false (oEv (sel 0))),
       iOp (put 11) (.v false (oNilCheck (sel 10))),
       iOp (put 12) (.v false (oFieldAddr 2 (sel 11))),
       iOp ⟨fun _ a => a⟩ (.e (eStore 1 (sel 12) ⟨fun _ => .slice none 0 0⟩))])
     (sSeq (sRegion [iOp (put 13) (.v false (oEv (sel 3))),
        iOp (put 2) (.v false (oEv (sel 13)))])
      (sEx .ret)))))⟩
theorem d53 : denF Tryz.prog 53 = some c53 := denF_of (by kernel_rfl)
noncomputable def k54_0 : Code × Code := pickR (bodyOf Tryz.prog 54) 0
noncomputable def a54_0 : Vm.Sem := sRegion [iOp (put 7) (.v false (oEv (sel 14)))]
noncomputable def b54_0 : Vm.Sem := sBlock 1 (sRegion [iOp (put 15) (.v true (oLoad1 (sel 6))),
   iOp (put 16) (.v false (oEv (sel 7))),
   iOp (put 17) (.v false (oNilCheck (sel 16))),
   iOp (put 18) (.v false (oFieldAddr 12 (sel 17))),
   iOp (put 19) (.v true (oLoad1 (sel 18))),
   iOp ⟨fun _ a => a⟩ (.e (eMapUpdate (.one 3) (sel 15) (sel 19) ⟨fun _ => .bool true⟩))])
theorem ea54_0 : den0 Tryz.prog 68 true k54_0.1 = a54_0 := den0_of (by kernel_rfl)
theorem eb54_0 : den0 Tryz.prog 68 true k54_0.2 = b54_0 := den0_of (by kernel_rfl)
noncomputable def k54_1 : Code × Code := pickR (bodyOf Tryz.prog 54) 1
noncomputable def a54_1 : Vm.Sem := sRegion [iOp (put 8) (.v false (oEv (sel 23)))]
noncomputable def b54_1 : Vm.Sem := sBlock 3 (sSeq (sRegion [iOp (put 24) (.v true (oLoad1 (sel 6))),
    iOp (put 25) (.v false (oEv (sel 8))),
    iOp (put 26) (.v false (oNilCheck (sel 25))),
    iOp (put 27) (.v false (oFieldAddr 12 (sel 26))),
    iOp (put 28) (.v true (oLoad1 (sel 27))),
    iOp (put 29) (.v true (oLookup (.one 3) (.bool false) false (sel 24) (sel 28))),
    iOp (put 30) (.v false (oEv (sel 29))),
    iGuard (sel 30) true (put 31) (iOp (put 31) (.v false (oEv (sel 8)))),
    iGuard (sel 30) true (put 32) (iOp (put 32) (.v false (oNilCheck (sel 31)))),
    iGuard (sel 30) true (put 33) (iOp (put 33) (.v false (oFieldAddr 12 (sel 32)))),
    iGuard (sel 30) true (put 34) (iOp (put 34) (.v true (oLoad1 (sel 33)))),
    iGuard (sel 30) true (put 35) (iOp (put 35) (.v false (oNilCheck (sel 34)))),
    iGuard (sel 30) true (put 36) (iOp (put 36) (.v false (oFieldAddr 2 (sel 35)))),
    iGuard (sel 30) true (put 37) (iOp (put 37) (.v true (oLoad1 (sel 36)))),
    iGuard (sel 30) true (put 38) (iOp (put 38) (.v false (oNot (sel 37)))),
    iOp (put 39) (.v false (oPick (sel 30) (sel 38) ⟨fun _ => .bool false⟩)),
    iOp (put 40) (.v false (oEv (sel 39))),
    iGuard (sel 40) true (put 41) (iOp (put 41) (.v false (oEv (sel 8)))),
    iGuard (sel 40) true (put 42) (iOp (put 42) (.v true (oLoad1 (sel 3)))),
    iGuard (sel 40) true (put 43) (iOp (put 43) (.e (eCallF 84 [(sel 41), (sel 42)]))),
    iOp (put 44) (.v false (oPick (sel 40) (sel 43) ⟨fun _ => .bool false⟩))])
  (sCond (sel 44)
    (sSeq (sRegion [iOp (put 45) (.v false (oEv (sel 8))),
       iOp (put 46) (.v false (oNilCheck (sel 45))),
       iOp (put 47) (.v false (oFieldAddr 12 (sel 46))),
       iOp (put 48) (.v true (oLoad1 (sel 47))),
       iOp (put 49) (.v false (oNilCheck (sel 48))),
       iOp (put 50) (.v false (oFieldAddr 2 (sel 49))),
       iOp ⟨fun _ a => a⟩ (.e (eStore 1 (sel 50) ⟨fun _ => .bool true⟩))])
     (sRegion [iOp (put 51) (.v true (oLoad1 (sel 5))),
       iOp (put 52) (.v false (oInt2 fAdd (sel 51) ⟨fun _ => .int .i64 1⟩)),
       iOp ⟨fun _ a => a⟩ (.e (eStore 1 (sel 5) (sel 52)))]))
    (sEx .normal)))
theorem ea54_1 : den0 Tryz.prog 68 true k54_1.1 = a54_1 := den0_of (by kernel_rfl)
theorem eb54_1 : den0 Tryz.prog 68 true k54_1.2 = b54_1 := den0_of (by kernel_rfl)
noncomputable def k54_2 : Code × Code := pickR (bodyOf Tryz.prog 54) 2
noncomputable def a54_2 : Vm.Sem := sRegion [iOp (put 9) (.v false (oEv (sel 56)))]
noncomputable def b54_2 : Vm.Sem := sBlock 5 (sSeq (sRegion [iOp (put 57) (.v false (oEv (sel 9))),
    iOp (put 58) (.v false (oNilCheck (sel 57))),
    iOp (put 59) (.v false (oFieldAddr 12 (sel 58))),
    iOp (put 60) (.v true (oLoad1 (sel 59))),
    iOp (put 61) (.v false (oNilCheck (sel 60))),
    iOp (put 62) (.v false (oFieldAddr 2 (sel 61))),
    iOp (put 63) (.v true (oLoad1 (sel 62)))])
  (sCond (sel 63)
    (sRegion [iOp (put 64) (.v false (oEv (sel 9))),
      iOp (put 65) (.v false (oNilCheck (sel 64))),
      iOp (put 66) (.v false (oFieldAddr 13 (sel 65))),
      iOp ⟨fun _ a => a⟩ (.e (eStore 1 (sel 66) ⟨fun _ => .int .i64 4⟩))])
    (sEx .normal)))
theorem ea54_2 : den0 Tryz.prog 68 true k54_2.1 = a54_2 := den0_of (by kernel_rfl)
theorem eb54_2 : den0 Tryz.prog 68 true k54_2.2 = b54_2 := den0_of (by kernel_rfl)
/-- (*bollard/sendq.Queue).Expire -/
noncomputable def c54 : CF := ⟨68, [.tmp (sel 4)],
  sSeq (sRegion [iOp (put 3) (.a (aBox 3 (sel 1))),
    iOp (put 4) (.v false (oEv ⟨fun _ => .int .i64 0⟩))])
  (sSeq (sRegion [iOp (put 5) (.a (aAlloc 3 [.int .i64 0])),
     iOp ⟨fun _ a => a⟩ (.e (eStore 1 (sel 5) ⟨fun _ => .int .i64 0⟩))])
   (sSeq (sRegion [iOp (put 10) (.a aMakeMap),
      iOp (put 6) (.a (aAlloc 151 [.map none])),
      iOp ⟨fun _ a => a⟩ (.e (eStore 1 (sel 6) (sel 10)))])
    (sSeq (sSeq (sRegion [iOp (put 11) (.v false (oEv (sel 0))),
        iOp (put 12) (.a (aBuildSlice 3 3 (rep 3 [.int .i64 0]) [(0, 1, ⟨fun _ => .int .i64 0⟩), (1, 1, ⟨fun _ => .int .i64 1⟩), (2, 1, ⟨fun _ => .int .i64 2⟩)])),
        iOp (put 13) (.e (eCallF 73 [(sel 11), (sel 12)]))])
      (sBlock 0 (sRangeFunc 68 (sel 13) [14] k54_0.1 k54_0.2)))
     (sSeq (sSeq (sRegion [iOp (put 20) (.v false (oEv (sel 0))),
         iOp (put 21) (.a (aBuildSlice 3 4 (rep 4 [.int .i64 0]) [(0, 1, ⟨fun _ => .int .i64 0⟩), (1, 1, ⟨fun _ => .int .i64 1⟩), (2, 1, ⟨fun _ => .int .i64 2⟩), (3, 1, ⟨fun _ => .int .i64 3⟩)])),
         iOp (put 22) (.e (eCallF 73 [(sel 20), (sel 21)]))])
       (sBlock 2 (sRangeFunc 68 (sel 22) [23] k54_1.1 k54_1.2)))
      (sSeq (sSeq (sRegion [iOp (put 53) (.v false (oEv (sel 0))),
          iOp (put 54) (.a (aBuildSlice 3 4 (rep 4 [.int .i64 0]) [(0, 1, ⟨fun _ => .int .i64 0⟩), (1, 1, ⟨fun _ => .int .i64 1⟩), (2, 1, ⟨fun _ => .int .i64 2⟩), (3, 1, ⟨fun _ => .int .i64 3⟩)])),
          iOp (put 55) (.e (eCallF 73 [(sel 53), (sel 54)]))])
        (sBlock 4 (sRangeFunc 68 (sel 55) [56] k54_2.1 k54_2.2)))
       (sSeq (sRegion [iOp (put 67) (.v true (oLoad1 (sel 5))),
          iOp (put 4) (.v false (oEv (sel 67)))])
        (sEx .ret)))))))⟩
theorem d54 : denF Tryz.prog 54 = some c54 := denF_of (by kernel_rfl)
/-- (*bollard/xfer.sender).skips -/
noncomputable def c55 : CF := ⟨46, [.tmp (sel 2)],
  sSeq (sRegion [iOp (put 2) (.v false (oEv ⟨fun _ => .slice none 0 0⟩))])
  (sSeq (sRegion [iOp (put 7) (.v false (oEv (sel 0))),
     iOp (put 8) (.v false (oNilCheck (sel 7))),
     iOp (put 9) (.v false (oFieldAddr 0 (sel 8))),
     iOp (put 10) (.v true (oLoad1 (sel 9))),
     iOp (put 11) (.e (eCallF 85 [(sel 10)])),
     iOp (put 6) (.v false (oEv (sel 11))),
     iOp (put 12) (.v false (oExtract (sel 6) 0)),
     iOp (put 13) (.v false (oExtract (sel 6) 1)),
     iOp (put 14) (.v false (oExtract (sel 6) 2)),
     iOp (put 3) (.v false (oEv (sel 12))),
     iOp (put 4) (.v false (oEv (sel 13))),
     iOp (put 5) (.v false (oEv (sel 14)))])
   (sSeq (sSeq (sRegion [iOp (put 15) (.v false (oEv (sel 5))),
       iOp (put 16) (.v false (oNot (sel 15))),
       iOp (put 17) (.v false (oEv (sel 16))),
       iGuard (sel 17) false (put 18) (iOp (put 18) (.v false (oEv (sel 0)))),
       iGuard (sel 17) false (put 19) (iOp (put 19) (.v false (oNilCheck (sel 18)))),
       iGuard (sel 17) false (put 20) (iOp (put 20) (.v false (oFieldAddr 15 (sel 19)))),
       iGuard (sel 17) false (put 21) (iOp (put 21) (.v true (oLoad1 (sel 20)))),
       iGuard (sel 17) false (put 22) (iOp (put 22) (.v false (oEv (sel 21)))),
       iGuard (sel 22) true (put 23) (iOp (put 23) (.v false (oEv (sel 0)))),
       iGuard (sel 22) true (put 24) (iOp (put 24) (.v false (oNilCheck (sel 23)))),
       iGuard (sel 22) true (put 25) (iOp (put 25) (.v false (oFieldAddr 16 (sel 24)))),
       iGuard (sel 22) true (put 26) (iOp (put 26) (.v true (oLoad1 (sel 25)))),
       iGuard (sel 22) true (put 27) (iOp (put 27) (.v false (oEv (sel 3)))),
       iGuard (sel 22) true (put 28) (iOp (put 28) (.v false (oEq (.one 1) (sel 26) (sel 27)))),
       iGuard (sel 17) false (put 29) (iOp (put 29) (.v false (oPick (sel 22) (sel 28) ⟨fun _ => .bool false⟩))),
       iOp (put 30) (.v false (oPick (sel 17) ⟨fun _ => .bool true⟩ (sel 29)))])
     (sCond (sel 30)
       (sSeq (sRegion [iOp (put 2) (.v false (oEv ⟨fun _ => .slice none 0 0⟩))])
        (sEx .ret))
       (sEx .normal)))
    (sSeq (sRegion [iOp (put 31) (.v false (oEv (sel 0))),
       iOp (put 32) (.v false (oEv (sel 0))),
       iOp (put 33) (.v false (oEv (sel 3))),
       iOp (put 34) (.v false (oNilCheck (sel 31))),
       iOp (put 35) (.v false (oFieldAddr 15 (sel 34))),
       iOp ⟨fun _ a => a⟩ (.e (eStore 1 (sel 35) ⟨fun _ => .bool true⟩)),
       iOp (put 36) (.v false (oNilCheck (sel 32))),
       iOp (put 37) (.v false (oFieldAddr 16 (sel 36))),
       iOp ⟨fun _ a => a⟩ (.e (eStore 1 (sel 37) (sel 33)))])
     (sSeq (sRegion [iOp (put 38) (.v false (oEv (sel 3))),
        iOp (put 39) (.v false (oEv (sel 4))),
        iOp (put 40) (.v false (oEv (sel 4))),
        iOp (put 41) (.v false (oLenS (sel 40))),
        iOp (put 42) (.v false (oBest true (sel 41) [⟨fun _ => .int .i64 64⟩])),
        iOp (put 43) (.v false (oSlice 2 (sel 39) none (some (sel 42)) none)),
        iOp (put 44) (.v false (oBuild [.int .u8 0, .int .u8 0, .int .u32 0, .int .u32 0, .int .u16 0, .int .u16 0, .int .u32 0, .slice none 0 0, .slice none 0 0, .slice none 0 0, .slice none 0 0, .slice none 0 0] [(0, 1, ⟨fun _ => .int .u8 192⟩), (2, 1, (sel 38)), (9, 1, (sel 43))])),
        iOp (put 45) (.a (aBuildSlice 42 1 (rep 1 [.int .u8 0, .int .u8 0, .int .u32 0, .int .u32 0, .int .u16 0, .int .u16 0, .int .u32 0, .slice none 0 0, .slice none 0 0, .slice none 0 0, .slice none 0 0, .slice none 0 0]) [(0, 12, (sel 44))])),
        iOp (put 2) (.v false (oEv (sel 45)))])
      (sEx .ret)))))⟩
theorem d55 : denF Tryz.prog 55 = some c55 := denF_of (by kernel_rfl)
/-- (*bollard/sendq.Queue).Flying -/
noncomputable def c56 : CF := ⟨6, [.tmp (sel 2)],
  sSeq (sRegion [iOp (put 2) (.v false (oEv ⟨fun _ => .int .i64 0⟩))])
  (sSeq (sRegion [iOp (put 3) (.v false (oEv (sel 0))),
     iOp (put 4) (.a (aBuildSlice 3 1 (rep 1 [.int .i64 0]) [(0, 1, ⟨fun _ => .int .i64 1⟩)])),
     iOp (put 5) (.e (eCallF 48 [(sel 3), (sel 4)])),
     iOp (put 2) (.v false (oEv (sel 5)))])
   (sEx .ret))⟩
theorem d56 : denF Tryz.prog 56 = some c56 := denF_of (by kernel_rfl)
noncomputable def k57_0 : Code × Code := pickR (bodyOf Tryz.prog 57) 0
noncomputable def a57_0 : Vm.Sem := sRegion [iOp (put 10) (.v false (oEv (sel 22)))]
noncomputable def b57_0 : Vm.Sem := sBlock 3 (sSeq (sSeq (sDr [iOp (put 23) (.v false (oEv (sel 10))),
     iOp (put 24) (.e (eCallF 81 [(sel 23)])),
     iOp (put 25) (.v true (oLoad1 (sel 5))),
     iOp (put 26) (.v false (oInt2 fGtr (sel 24) (sel 25)))]
     [(2, none, (oLoad1 (sel 5)), [0, 2])])
   (sCond (sel 26)
     (sSeq (sRegion [iOp (put 27) (.v true (oLoad1 (sel 7))),
        iOp ⟨fun _ a => a⟩ (.e (eStore 1 (sel 6) (sel 27)))])
      (sEx .ret))
     (sEx .normal)))
  (sSeq (sDr [iOp (put 28) (.v true (oLoad1 (sel 5))),
     iOp (put 29) (.v false (oEv (sel 10))),
     iOp (put 30) (.e (eCallF 81 [(sel 29)])),
     iOp (put 31) (.v false (oInt2 fSub (sel 28) (sel 30))),
     iOp ⟨fun _ a => a⟩ (.e (eStore 1 (sel 5) (sel 31)))]
     [(0, none, (oLoad1 (sel 5)), [0, 3])])
   (sSeq (sDr [iOp (put 32) (.v false (oEv (sel 10))),
      iOp (put 33) (.v false (oEv (sel 10))),
      iOp (put 34) (.v false (oEv (sel 10))),
      iOp (put 35) (.v true (oLoad1 (sel 4))),
      iOp (put 36) (.v false (oNilCheck (sel 32))),
      iOp (put 37) (.v false (oFieldAddr 13 (sel 36))),
      iOp ⟨fun _ a => a⟩ (.e (eStore 1 (sel 37) ⟨fun _ => .int .i64 1⟩)),
      iOp (put 38) (.v false (oNilCheck (sel 33))),
      iOp (put 39) (.v false (oFieldAddr 15 (sel 38))),
      iOp ⟨fun _ a => a⟩ (.e (eStore 1 (sel 39) (sel 35))),
      iOp (put 40) (.v false (oNilCheck (sel 34))),
      iOp (put 41) (.v false (oFieldAddr 16 (sel 40))),
      iOp ⟨fun _ a => a⟩ (.e (eStore 1 (sel 41) ⟨fun _ => .int .i64 0⟩))]
      [(3, none, (oLoad1 (sel 4)), [0, 7])])
    (sSeq (sRegion [iOp (put 42) (.v false (oEv (sel 10))),
       iOp (put 43) (.v false (oNilCheck (sel 42))),
       iOp (put 44) (.v false (oFieldAddr 14 (sel 43))),
       iOp (put 45) (.v true (oLoad1 (sel 44))),
       iOp (put 46) (.v false (oInt2 fAdd (sel 45) ⟨fun _ => .int .i64 1⟩)),
       iOp (put 47) (.v false (oNilCheck (sel 42))),
       iOp (put 48) (.v false (oFieldAddr 14 (sel 47))),
       iOp ⟨fun _ a => a⟩ (.e (eStore 1 (sel 48) (sel 46)))])
     (sSeq (sRegion [iOp (put 49) (.v false (oEv (sel 10))),
        iOp (put 50) (.v false (oNilCheck (sel 49))),
        iOp (put 51) (.v false (oFieldAddr 0 (sel 50))),
        iOp (put 52) (.v true (oLoadN 12 (sel 51))),
        iOp (put 11) (.a (aAlloc 42 [.int .u8 0, .int .u8 0, .int .u32 0, .int .u32 0, .int .u16 0, .int .u16 0, .int .u32 0, .slice none 0 0, .slice none 0 0, .slice none 0 0, .slice none 0 0, .slice none 0 0])),
        iOp ⟨fun _ a => a⟩ (.e (eStore 12 (sel 11) (sel 52)))])
      (sSeq (sRegion [iOp (put 53) (.v false (oFieldAddr 11 (sel 11))),
         iOp (put 54) (.v true (oLoad1 (sel 53))),
         iOp (put 55) (.e (eCallF 47 [(sel 54)])),
         iOp (put 56) (.v false (oFieldAddr 11 (sel 11))),
         iOp ⟨fun _ a => a⟩ (.e (eStore 1 (sel 56) (sel 55)))])
       (sRegion [iOp (put 57) (.v true (oLoad1 (sel 7))),
         iOp (put 58) (.v true (oLoadN 12 (sel 11))),
         iOp (put 59) (.a (aBuildSlice 42 1 (rep 1 [.int .u8 0, .int .u8 0, .int .u32 0, .int .u32 0, .int .u16 0, .int .u16 0, .int .u32 0, .slice none 0 0, .slice none 0 0, .slice none 0 0, .slice none 0 0, .slice none 0 0]) [(0, 12, (sel 58))])),
         iOp (put 60) (.e (eAppend 42 12 144 (sel 57) (sel 59))),
         iOp ⟨fun _ a => a⟩ (.e (eStore 1 (sel 7) (sel 60)))])))))))
theorem ea57_0 : den0 Tryz.prog 63 true k57_0.1 = a57_0 := den0_of (by kernel_rfl)
theorem eb57_0 : den0 Tryz.prog 63 true k57_0.2 = b57_0 := den0_of (by kernel_rfl)
noncomputable def c57_1 : Vm.Sem := sSeq (sRegion [iOp (put 15) (.v false (oInt2 fLss (sel 14) (sel 13)))])
 (sSeq (sCond (sel 15)
    (sEx .normal)
    (sEx (.exit 0)))
  (sSeq (sBlock 1 (sSeq (sRegion [iOp (put 16) (.v false (oIndexAddrS 1 (sel 12) (sel 14))),
       iOp (put 17) (.v true (oLoad1 (sel 16))),
       iOp (put 9) (.v false (oEv (sel 17)))])
     (sSeq (sRegion [iOp (put 18) (.v false (oEv (sel 0))),
        iOp (put 19) (.v false (oEv (sel 9))),
        iOp (put 20) (.a (aBuildSlice 3 1 (rep 1 [.int .i64 0]) [(0, 1, (sel 19))])),
        iOp (put 21) (.e (eCallF 73 [(sel 18), (sel 20)]))])
      (sBlock 2 (sRangeFunc 63 (sel 21) [22] k57_0.1 k57_0.2)))))
   (sRegion [iOp (put 61) (.v false (oInt2 fAdd (sel 14) ⟨fun _ => .int .i64 1⟩)),
     iOp (put 14) (.v false (oEv (sel 61)))])))
/-- (*bollard/sendq.Queue).Take -/
noncomputable def c57 : CF := ⟨63, [.one (sel 6)],
  sSeq (sRegion [iOp (put 4) (.a (aBox 3 (sel 1))),
    iOp (put 5) (.a (aBox 3 (sel 2))),
    iOp (put 6) (.a (aAlloc 35 [.slice none 0 0]))])
  (sSeq (sRegion [iOp (put 7) (.a (aAlloc 35 [.slice none 0 0]))])
   (sSeq (sSeq (sRegion [iOp (put 12) (.a (aBuildSlice 3 2 (rep 2 [.int .i64 0]) [(0, 1, ⟨fun _ => .int .i64 2⟩), (1, 1, ⟨fun _ => .int .i64 0⟩)])),
       iOp (put 13) (.v false (oLenS (sel 12))),
       iOp (put 14) (.v false (oEv ⟨fun _ => .int .i64 0⟩))])
     (sBlock 0 (sLoop c57_1)))
    (sSeq (sRegion [iOp (put 62) (.v true (oLoad1 (sel 7))),
       iOp ⟨fun _ a => a⟩ (.e (eStore 1 (sel 6) (sel 62)))])
     (sEx .ret))))⟩
theorem d57 : denF Tryz.prog 57 = some c57 := denF_of (by kernel_rfl)
/-- bollard/window.Room -/
noncomputable def c58 : CF := ⟨33, [.tmp (sel 6)],
  sSeq (sRegion [iOp (put 3) (.a (aBox 62 (sel 0))),
    iOp (put 6) (.v false (oEv ⟨fun _ => .int .i64 0⟩))])
  (sSeq (sSeq (sRegion [iOp (put 8) (.v true (oLoadN 6 (sel 3))),
      iOp (put 9) (.e (eCallF 74 [(sel 8)])),
      iOp (put 10) (.v false (oNot (sel 9))),
      iOp (put 11) (.v false (oEv (sel 10))),
      iGuard (sel 11) false (put 12) (iOp (put 12) (.v false (oEv (sel 1)))),
      iGuard (sel 11) false (put 13) (iOp (put 13) (.v false (oInt2 fLss (sel 12) ⟨fun _ => .int .i64 0⟩))),
      iOp (put 14) (.v false (oPick (sel 11) ⟨fun _ => .bool true⟩ (sel 13))),
      iOp (put 15) (.v false (oEv (sel 14))),
      iGuard (sel 15) false (put 16) (iOp (put 16) (.v false (oEv (sel 2)))),
      iGuard (sel 15) false (put 17) (iOp (put 17) (.v false (oInt2 fLss (sel 16) ⟨fun _ => .int .i64 0⟩))),
      iOp (put 18) (.v false (oPick (sel 15) ⟨fun _ => .bool true⟩ (sel 17)))])
    (sCond (sel 18)
      (sSeq (sRegion [iOp (put 6) (.v false (oEv ⟨fun _ => .int .i64 0⟩))])
       (sEx .ret))
      (sEx .normal)))
   (sSeq (sRegion [iOp (put 19) (.v false (oFieldAddr 0 (sel 3))),
      iOp (put 20) (.v true (oLoad1 (sel 19))),
      iOp (put 21) (.v false (oEv (sel 1))),
      iOp (put 22) (.v false (oInt2 fSub (sel 20) (sel 21))),
      iOp (put 23) (.v false (oEv (sel 2))),
      iOp (put 24) (.v false (oBest true (sel 22) [(sel 23)])),
      iOp (put 25) (.v false (oBest false ⟨fun _ => .int .i64 0⟩ [(sel 24)])),
      iOp (put 7) (.v false (oEv (sel 25)))])
    (sSeq (sSeq (sRegion [iOp (put 26) (.v false (oEv (sel 1))),
        iOp (put 27) (.v false (oEq (.one 1) (sel 26) ⟨fun _ => .int .i64 0⟩))])
      (sCond (sel 27)
        (sRegion [iOp (put 28) (.v false (oEv (sel 7))),
          iOp (put 29) (.v false (oFieldAddr 3 (sel 3))),
          iOp (put 30) (.v true (oLoad1 (sel 29))),
          iOp (put 31) (.v false (oBest false (sel 28) [(sel 30)])),
          iOp (put 7) (.v false (oEv (sel 31)))])
        (sEx .normal)))
     (sSeq (sRegion [iOp (put 32) (.v false (oEv (sel 7))),
        iOp (put 6) (.v false (oEv (sel 32)))])
      (sEx .ret)))))⟩
theorem d58 : denF Tryz.prog 58 = some c58 := denF_of (by kernel_rfl)
/-- (*bollard/xfer.sender).start -/
noncomputable def c59 : CF := ⟨15, [],
  sRegion [iOp (put 4) (.v false (oEv (sel 0))),
   iOp (put 5) (.v false (oEv (sel 1))),
   iOp (put 6) (.v false (oEv (sel 0))),
   iOp (put 7) (.v false (oNilCheck (sel 6))),
   iOp (put 8) (.v false (oFieldAddr 7 (sel 7))),
   iOp (put 9) (.v false (oFieldAddr 2 (sel 8))),
   iOp (put 10) (.v true (oLoad1 (sel 9))),
   iOp (put 11) (.v false (oInt2 fAdd (sel 5) (sel 10))),
   iOp (put 12) (.v false (oBuild [.bool false, .int .i64 0] [(0, 1, ⟨fun _ => .bool true⟩), (1, 1, (sel 11))])),
   iOp (put 13) (.v false (oNilCheck (sel 4))),
   iOp (put 14) (.v false (oFieldAddr 13 (sel 13))),
   iOp ⟨fun _ a => a⟩ (.e (eStore 2 (sel 14) (sel 12)))]⟩
theorem d59 : denF Tryz.prog 59 = some c59 := denF_of (by kernel_rfl)
/-- (*bollard/gaps.Set).Has -/
noncomputable def c60 : CF := ⟨20, [.tmp (sel 4)],
  sSeq (sRegion [iOp (put 4) (.v false (oEv ⟨fun _ => .bool false⟩))])
  (sSeq (sRegion [iOp (put 5) (.v false (oEv (sel 0))),
     iOp (put 6) (.v false (oNe (.one 3) (sel 5) ⟨fun _ => .pointer none⟩)),
     iOp (put 7) (.v false (oEv (sel 6))),
     iGuard (sel 7) true (put 8) (iOp (put 8) (.v false (oEv (sel 0)))),
     iGuard (sel 7) true (put 9) (iOp (put 9) (.v false (oEv (sel 1)))),
     iGuard (sel 7) true (put 10) (iOp (put 10) (.e (eCallF 86 [(sel 8), (sel 9)]))),
     iGuard (sel 7) true (put 11) (iOp (put 11) (.v false (oEv (sel 10)))),
     iGuard (sel 11) false (put 12) (iOp (put 12) (.v false (oEv (sel 0)))),
     iGuard (sel 11) false (put 13) (iOp (put 13) (.v false (oNilCheck (sel 12)))),
     iGuard (sel 11) false (put 14) (iOp (put 14) (.v false (oFieldAddr 1 (sel 13)))),
     iGuard (sel 11) false (put 15) (iOp (put 15) (.v true (oLoad1 (sel 14)))),
     iGuard (sel 11) false (put 16) (iOp (put 16) (.v false (oEv (sel 1)))),
     iGuard (sel 11) false (put 17) (iOp (put 17) (.v true (oLookup (.one 1) (.bool false) false (sel 15) (sel 16)))),
     iGuard (sel 7) true (put 18) (iOp (put 18) (.v false (oPick (sel 11) ⟨fun _ => .bool true⟩ (sel 17)))),
     iOp (put 19) (.v false (oPick (sel 7) (sel 18) ⟨fun _ => .bool false⟩)),
     iOp (put 4) (.v false (oEv (sel 19)))])
   (sEx .ret))⟩
theorem d60 : denF Tryz.prog 60 = some c60 := denF_of (by kernel_rfl)
noncomputable def c61_0 : Vm.Sem := sSeq (sRegion [iOp (put 83) (.v false (oInt2 fLss (sel 82) (sel 81)))])
 (sSeq (sCond (sel 83)
    (sEx .normal)
    (sEx (.exit 1)))
  (sSeq (sBlock 2 (sSeq (sRegion [iOp (put 84) (.v false (oIndexAddrS 12 (sel 80) (sel 82))),
       iOp (put 85) (.v true (oLoadN 12 (sel 84))),
       iOp (put 9) (.a (aAlloc 42 [.int .u8 0, .int .u8 0, .int .u32 0, .int .u32 0, .int .u16 0, .int .u16 0, .int .u32 0, .slice none 0 0, .slice none 0 0, .slice none 0 0, .slice none 0 0, .slice none 0 0])),
       iOp ⟨fun _ a => a⟩ (.e (eStore 12 (sel 9) (sel 85)))])
     (sRegion [iOp (put 86) (.v false (oEv (sel 0))),
       iOp (put 87) (.v false (oNilCheck (sel 86))),
       iOp (put 88) (.v false (oFieldAddr 1 (sel 87))),
       iOp (put 89) (.v true (oLoad1 (sel 88))),
       iOp (put 90) (.v false (oFieldAddr 2 (sel 9))),
       iOp (put 91) (.v true (oLoad1 (sel 90))),
       iOp ⟨fun _ a => a⟩ (.e (eDelete (.one 1) (sel 89) (sel 91)))])))
   (sRegion [iOp (put 92) (.v false (oInt2 fAdd (sel 82) ⟨fun _ => .int .i64 1⟩)),
     iOp (put 82) (.v false (oEv (sel 92)))])))
/-- (*bollard/join.Join).Add -/
noncomputable def c61 : CF := ⟨105, [.tmp (sel 4)],
  sSeq (sRegion [iOp (put 3) (.a (aBox 42 (sel 1))),
    iOp (put 4) (.v false (oEv ⟨fun _ => .int .i64 0⟩))])
  (sSeq (sSeq (sRegion [iOp (put 12) (.v false (oEv (sel 0))),
      iOp (put 13) (.v false (oEq (.one 3) (sel 12) ⟨fun _ => .pointer none⟩)),
      iOp (put 14) (.v false (oEv (sel 13))),
      iGuard (sel 14) false (put 15) (iOp (put 15) (.v false (oFieldAddr 0 (sel 3)))),
      iGuard (sel 14) false (put 16) (iOp (put 16) (.v true (oLoad1 (sel 15)))),
      iGuard (sel 14) false (put 17) (iOp (put 17) (.v false (oNe (.one 1) (sel 16) ⟨fun _ => .int .u8 0⟩))),
      iOp (put 18) (.v false (oPick (sel 14) ⟨fun _ => .bool true⟩ (sel 17))),
      iOp (put 19) (.v false (oEv (sel 18))),
      iGuard (sel 19) false (put 20) (iOp (put 20) (.v false (oFieldAddr 11 (sel 3)))),
      iGuard (sel 19) false (put 21) (iOp (put 21) (.v true (oLoad1 (sel 20)))),
      iGuard (sel 19) false (put 22) (iOp (put 22) (.v false (oLenS (sel 21)))),
      iGuard (sel 19) false (put 23) (iOp (put 23) (.v false (oEq (.one 1) (sel 22) ⟨fun _ => .int .i64 0⟩))),
      iOp (put 24) (.v false (oPick (sel 19) ⟨fun _ => .bool true⟩ (sel 23)))])
    (sCond (sel 24)
      (sSeq (sRegion [iOp (put 4) (.v false (oEv ⟨fun _ => .int .i64 1⟩))])
       (sEx .ret))
      (sEx .normal)))
   (sSeq (sRegion [iOp (put 26) (.v false (oEv (sel 0))),
      iOp (put 27) (.v false (oNilCheck (sel 26))),
      iOp (put 28) (.v false (oFieldAddr 1 (sel 27))),
      iOp (put 29) (.v true (oLoad1 (sel 28))),
      iOp (put 30) (.v false (oFieldAddr 2 (sel 3))),
      iOp (put 31) (.v true (oLoad1 (sel 30))),
      iOp (put 32) (.v true (oLookup (.one 1) (.agg #[.int .u8 0, .int .u8 0, .int .u32 0, .int .u32 0, .int .u16 0, .int .u16 0, .int .u32 0, .slice none 0 0, .slice none 0 0, .slice none 0 0, .slice none 0 0, .slice none 0 0]) true (sel 29) (sel 31))),
      iOp (put 25) (.v false (oEv (sel 32))),
      iOp (put 33) (.v false (oExtract (sel 25) 0)),
      iOp (put 34) (.v false (oExtract (sel 25) 1)),
      iOp (put 5) (.a (aAlloc 42 [.int .u8 0, .int .u8 0, .int .u32 0, .int .u32 0, .int .u16 0, .int .u16 0, .int .u32 0, .slice none 0 0, .slice none 0 0, .slice none 0 0, .slice none 0 0, .slice none 0 0])),
      iOp ⟨fun _ a => a⟩ (.e (eStore 12 (sel 5) (sel 33))),
      iOp (put 6) (.v false (oEv (sel 34)))])
    (sSeq (sBlock 0 (sSeq (sRegion [iOp (put 36) (.v false (oEv (sel 0))),
         iOp (put 37) (.v false (oFieldAddr 4 (sel 3))),
         iOp (put 38) (.v true (oLoad1 (sel 37))),
         iOp (put 39) (.e (eCallF 70 [(sel 36), (sel 38)])),
         iOp (put 40) (.v false (oNot (sel 39))),
         iOp (put 35) (.v false (oEv (sel 40)))])
       (sCond (sel 35)
         (sSeq (sRegion [iOp (put 4) (.v false (oEv ⟨fun _ => .int .i64 12⟩))])
          (sEx .ret))
         (sSeq (sRegion [iOp (put 42) (.v false (oEv (sel 6))),
            iOp (put 41) (.v false (oEv (sel 42)))])
          (sCond (sel 41)
            (sSeq (sRegion [iOp (put 4) (.v false (oEv ⟨fun _ => .int .i64 8⟩))])
             (sEx .ret))
            (sSeq (sRegion [iOp (put 44) (.v false (oEv (sel 0))),
               iOp (put 45) (.v false (oNilCheck (sel 44))),
               iOp (put 46) (.v false (oFieldAddr 4 (sel 45))),
               iOp (put 47) (.v true (oLoad1 (sel 46))),
               iOp (put 48) (.v false (oFieldAddr 11 (sel 3))),
               iOp (put 49) (.v true (oLoad1 (sel 48))),
               iOp (put 50) (.v false (oLenS (sel 49))),
               iOp (put 51) (.v false (oInt2 fAdd (sel 47) (sel 50))),
               iOp (put 52) (.v false (oInt2 fGtr (sel 51) ⟨fun _ => .int .i64 65536⟩)),
               iOp (put 43) (.v false (oEv (sel 52)))])
             (sCond (sel 43)
               (sSeq (sRegion [iOp (put 4) (.v false (oEv ⟨fun _ => .int .i64 9⟩))])
                (sEx .ret))
               (sEx .normal))))))))
     (sSeq (sRegion [iOp (put 53) (.v false (oFieldAddr 11 (sel 3))),
        iOp (put 54) (.v true (oLoad1 (sel 53))),
        iOp (put 55) (.e (eCallF 47 [(sel 54)])),
        iOp (put 56) (.v false (oFieldAddr 11 (sel 3))),
        iOp ⟨fun _ a => a⟩ (.e (eStore 1 (sel 56) (sel 55)))])
      (sSeq (sRegion [iOp (put 57) (.v false (oEv (sel 0))),
         iOp (put 58) (.v false (oNilCheck (sel 57))),
         iOp (put 59) (.v false (oFieldAddr 1 (sel 58))),
         iOp (put 60) (.v true (oLoad1 (sel 59))),
         iOp (put 61) (.v false (oFieldAddr 2 (sel 3))),
         iOp (put 62) (.v true (oLoad1 (sel 61))),
         iOp (put 63) (.v true (oLoadN 12 (sel 3))),
         iOp ⟨fun _ a => a⟩ (.e (eMapUpdate (.one 1) (sel 60) (sel 62) (sel 63)))])
       (sSeq (sRegion [iOp (put 64) (.v false (oEv (sel 0))),
          iOp (put 65) (.v false (oNilCheck (sel 64))),
          iOp (put 66) (.v false (oFieldAddr 4 (sel 65))),
          iOp (put 67) (.v true (oLoad1 (sel 66))),
          iOp (put 68) (.v false (oFieldAddr 11 (sel 3))),
          iOp (put 69) (.v true (oLoad1 (sel 68))),
          iOp (put 70) (.v false (oLenS (sel 69))),
          iOp (put 71) (.v false (oInt2 fAdd (sel 67) (sel 70))),
          iOp (put 72) (.v false (oNilCheck (sel 64))),
          iOp (put 73) (.v false (oFieldAddr 4 (sel 72))),
          iOp ⟨fun _ a => a⟩ (.e (eStore 1 (sel 73) (sel 71)))])
        (sSeq (sSeq (sRegion [iOp (put 74) (.v false (oEv (sel 0))),
            iOp (put 75) (.v true (oLoadN 12 (sel 3))),
            iOp (put 76) (.e (eCallF 87 [(sel 74), (sel 75)])),
            iOp (put 7) (.v false (oEv (sel 76)))])
          (sSeq (sRegion [iOp (put 77) (.v false (oEv (sel 7))),
             iOp (put 78) (.v false (oLenS (sel 77))),
             iOp (put 79) (.v false (oInt2 fGtr (sel 78) ⟨fun _ => .int .i64 0⟩))])
           (sCond (sel 79)
             (sSeq (sSeq (sRegion [iOp (put 80) (.v false (oEv (sel 7))),
                 iOp (put 81) (.v false (oLenS (sel 80))),
                 iOp (put 82) (.v false (oEv ⟨fun _ => .int .i64 0⟩))])
               (sBlock 1 (sLoop c61_0)))
              (sSeq (sRegion [iOp (put 94) (.v false (oEv (sel 7))),
                 iOp (put 95) (.e (eCallF 88 [(sel 94)])),
                 iOp (put 93) (.v false (oEv (sel 95))),
                 iOp (put 96) (.v false (oExtract (sel 93) 0)),
                 iOp (put 97) (.v false (oExtract (sel 93) 1)),
                 iOp (put 10) (.a (aAlloc 34 [.int .u16 0, .bool false, .int .u32 0, .slice none 0 0])),
                 iOp ⟨fun _ a => a⟩ (.e (eStore 4 (sel 10) (sel 96))),
                 iOp (put 11) (.v false (oEv (sel 97)))])
               (sRegion [iOp (put 98) (.v false (oEv (sel 0))),
                 iOp (put 99) (.v true (oLoadN 4 (sel 10))),
                 iOp (put 100) (.v false (oEv (sel 7))),
                 iOp (put 101) (.v false (oIndexAddrS 12 (sel 100) ⟨fun _ => .int .i64 0⟩)),
                 iOp (put 102) (.v false (oFieldAddr 5 (sel 101))),
                 iOp (put 103) (.v true (oLoad1 (sel 102))),
                 iOp (put 104) (.e (eCallF 89 [(sel 98), (sel 99), (sel 103)]))])))
             (sEx .normal))))
         (sSeq (sRegion [iOp (put 4) (.v false (oEv ⟨fun _ => .int .i64 0⟩))])
          (sEx .ret)))))))))⟩
theorem d61 : denF Tryz.prog 61 = some c61 := denF_of (by kernel_rfl)
/-- (*bollard/gaps.Set).Add -/
noncomputable def c62 : CF := ⟨43, [.tmp (sel 4)],
  sSeq (sRegion [iOp (put 4) (.v false (oEv ⟨fun _ => .int .i64 0⟩))])
  (sSeq (sBlock 0 (sSeq (sRegion [iOp (put 6) (.v false (oEv (sel 0))),
       iOp (put 7) (.v false (oEq (.one 3) (sel 6) ⟨fun _ => .pointer none⟩)),
       iOp (put 5) (.v false (oEv (sel 7)))])
     (sCond (sel 5)
       (sSeq (sRegion [iOp (put 4) (.v false (oEv ⟨fun _ => .int .i64 2⟩))])
        (sEx .ret))
       (sSeq (sRegion [iOp (put 9) (.v false (oEv (sel 0))),
          iOp (put 10) (.v false (oEv (sel 1))),
          iOp (put 11) (.e (eCallF 60 [(sel 9), (sel 10)])),
          iOp (put 8) (.v false (oEv (sel 11)))])
        (sCond (sel 8)
          (sSeq (sSeq (sRegion [iOp (put 12) (.v false (oEv (sel 0))),
              iOp (put 13) (.v false (oNilCheck (sel 12))),
              iOp (put 14) (.v false (oFieldAddr 2 (sel 13))),
              iOp (put 15) (.v true (oLoad1 (sel 14))),
              iOp (put 16) (.v false (oLenS (sel 15))),
              iOp (put 17) (.v false (oInt2 fLss (sel 16) ⟨fun _ => .int .i64 64⟩))])
            (sCond (sel 17)
              (sRegion [iOp (put 18) (.v false (oEv (sel 0))),
                iOp (put 19) (.v false (oEv (sel 0))),
                iOp (put 20) (.v false (oNilCheck (sel 19))),
                iOp (put 21) (.v false (oFieldAddr 2 (sel 20))),
                iOp (put 22) (.v true (oLoad1 (sel 21))),
                iOp (put 23) (.v false (oEv (sel 1))),
                iOp (put 24) (.a (aBuildSlice 22 1 (rep 1 [.int .u32 0]) [(0, 1, (sel 23))])),
                iOp (put 25) (.e (eAppend 22 1 4 (sel 22) (sel 24))),
                iOp (put 26) (.v false (oNilCheck (sel 18))),
                iOp (put 27) (.v false (oFieldAddr 2 (sel 26))),
                iOp ⟨fun _ a => a⟩ (.e (eStore 1 (sel 27) (sel 25)))])
              (sEx .normal)))
           (sSeq (sRegion [iOp (put 4) (.v false (oEv ⟨fun _ => .int .i64 1⟩))])
            (sEx .ret)))
          (sSeq (sRegion [iOp (put 29) (.v false (oEv (sel 0))),
             iOp (put 30) (.v false (oNilCheck (sel 29))),
             iOp (put 31) (.v false (oFieldAddr 0 (sel 30))),
             iOp (put 32) (.v true (oLoad1 (sel 31))),
             iOp (put 33) (.v false (oEv (sel 1))),
             iOp (put 34) (.e (eCallF 16 [(sel 32), (sel 33)])),
             iOp (put 35) (.v false (oInt2 fGtr (sel 34) ⟨fun _ => .int .u32 1024⟩)),
             iOp (put 28) (.v false (oEv (sel 35)))])
           (sCond (sel 28)
             (sSeq (sRegion [iOp (put 4) (.v false (oEv ⟨fun _ => .int .i64 2⟩))])
              (sEx .ret))
             (sEx .normal))))))))
   (sSeq (sRegion [iOp (put 36) (.v false (oEv (sel 0))),
      iOp (put 37) (.v false (oNilCheck (sel 36))),
      iOp (put 38) (.v false (oFieldAddr 1 (sel 37))),
      iOp (put 39) (.v true (oLoad1 (sel 38))),
      iOp (put 40) (.v false (oEv (sel 1))),
      iOp ⟨fun _ a => a⟩ (.e (eMapUpdate (.one 1) (sel 39) (sel 40) ⟨fun _ => .bool true⟩))])
    (sSeq (sRegion [iOp (put 41) (.v false (oEv (sel 0))),
       iOp (put 42) (.e (eCallF 90 [(sel 41)]))])
     (sSeq (sRegion [iOp (put 4) (.v false (oEv ⟨fun _ => .int .i64 0⟩))])
      (sEx .ret)))))⟩
theorem d62 : denF Tryz.prog 62 = some c62 := denF_of (by kernel_rfl)
/-- (*bollard/sendq.Queue).Ack -/
noncomputable def c63 : CF := ⟨48, [.agg (sel 8) 4, .tmp (sel 9)],
  sSeq (sRegion [iOp (put 8) (.a (aAlloc 125 [.int .i64 0, .int .i64 0, .bool false, .bool false])),
    iOp (put 9) (.v false (oEv ⟨fun _ => .bool false⟩))])
  (sSeq (sRegion [iOp (put 16) (.v false (oEv (sel 0))),
     iOp (put 17) (.v false (oEv (sel 1))),
     iOp (put 18) (.e (eCallF 91 [(sel 16), (sel 17)])),
     iOp (put 15) (.v false (oEv (sel 18))),
     iOp (put 19) (.v false (oExtract (sel 15) 0)),
     iOp (put 20) (.v false (oExtract (sel 15) 1)),
     iOp (put 10) (.v false (oEv (sel 19))),
     iOp (put 11) (.v false (oEv (sel 20)))])
   (sSeq (sSeq (sRegion [iOp (put 21) (.v false (oEv (sel 11))),
       iOp (put 22) (.v false (oNot (sel 21)))])
     (sCond (sel 22)
       (sSeq (sRegion [iOp (put 23) (.v false (oBuild [.int .i64 0, .int .i64 0, .bool false, .bool false] [])),
          iOp ⟨fun _ a => a⟩ (.e (eStore 4 (sel 8) (sel 23))),
          iOp (put 9) (.v false (oEv ⟨fun _ => .bool false⟩))])
        (sEx .ret))
       (sEx .normal)))
    (sSeq (sRegion [iOp (put 24) (.v false (oEv (sel 0))),
       iOp (put 25) (.v false (oEv (sel 10))),
       iOp (put 26) (.v false (oEv (sel 3))),
       iOp (put 27) (.e (eCallF 92 [(sel 24), (sel 25), (sel 26)])),
       iOp (put 12) (.a (aAlloc 125 [.int .i64 0, .int .i64 0, .bool false, .bool false])),
       iOp ⟨fun _ a => a⟩ (.e (eStore 4 (sel 12) (sel 27)))])
     (sSeq (sRegion [iOp (put 29) (.v false (oEv (sel 0))),
        iOp (put 30) (.v false (oEv (sel 2))),
        iOp (put 31) (.e (eCallF 93 [(sel 29), (sel 30)])),
        iOp (put 28) (.v false (oEv (sel 31))),
        iOp (put 32) (.v false (oExtract (sel 28) 0)),
        iOp (put 33) (.v false (oExtract (sel 28) 1)),
        iOp (put 13) (.v false (oEv (sel 32))),
        iOp (put 14) (.v false (oEv (sel 33)))])
      (sSeq (sRegion [iOp (put 34) (.v false (oFieldAddr 0 (sel 12))),
         iOp (put 35) (.v true (oLoad1 (sel 34))),
         iOp (put 36) (.v false (oEv (sel 13))),
         iOp (put 37) (.v false (oInt2 fAdd (sel 35) (sel 36))),
         iOp (put 38) (.v false (oFieldAddr 0 (sel 12))),
         iOp ⟨fun _ a => a⟩ (.e (eStore 1 (sel 38) (sel 37)))])
       (sSeq (sRegion [iOp (put 39) (.v false (oEv (sel 0))),
          iOp (put 40) (.v false (oNilCheck (sel 39))),
          iOp (put 41) (.v false (oFieldAddr 0 (sel 40))),
          iOp (put 42) (.v true (oLoad1 (sel 41))),
          iOp (put 43) (.v false (oEv (sel 14))),
          iOp (put 44) (.v false (oSlice 1 (sel 42) none (some (sel 43)) none)),
          iOp (put 45) (.e (eCallF 94 [(sel 44)])),
          iOp (put 46) (.v false (oFieldAddr 2 (sel 12))),
          iOp ⟨fun _ a => a⟩ (.e (eStore 1 (sel 46) (sel 45)))])
        (sSeq (sRegion [iOp (put 47) (.v true (oLoadN 4 (sel 12))),
           iOp ⟨fun _ a => a⟩ (.e (eStore 4 (sel 8) (sel 47))),
           iOp (put 9) (.v false (oEv ⟨fun _ => .bool true⟩))])
         (sEx .ret))))))))⟩
theorem d63 : denF Tryz.prog 63 = some c63 := denF_of (by kernel_rfl)
/-- bollard/rto.Sample -/
noncomputable def c64 : CF := ⟨66, [.agg (sel 4) 4],
  sSeq (sRegion [iOp (put 2) (.a (aBox 65 (sel 0))),
    iOp (put 4) (.a (aAlloc 65 [.int .i64 0, .int .i64 0, .int .i64 0, .bool false]))])
  (sSeq (sSeq (sRegion [iOp (put 5) (.v false (oEv (sel 1))),
      iOp (put 6) (.v false (oInt2 fLss (sel 5) ⟨fun _ => .int .i64 0⟩)),
      iOp (put 7) (.v false (oEv (sel 6))),
      iGuard (sel 7) false (put 8) (iOp (put 8) (.v false (oEv (sel 1)))),
      iGuard (sel 7) false (put 9) (iOp (put 9) (.v false (oInt2 fGtr (sel 8) ⟨fun _ => .int .i64 1073741824⟩))),
      iOp (put 10) (.v false (oPick (sel 7) ⟨fun _ => .bool true⟩ (sel 9))),
      iOp (put 11) (.v false (oEv (sel 10))),
      iGuard (sel 11) false (put 12) (iOp (put 12) (.v false (oFieldAddr 0 (sel 2)))),
      iGuard (sel 11) false (put 13) (iOp (put 13) (.v true (oLoad1 (sel 12)))),
      iGuard (sel 11) false (put 14) (iOp (put 14) (.e (eCallF 77 [(sel 13)]))),
      iGuard (sel 11) false (put 15) (iOp (put 15) (.v false (oNot (sel 14)))),
      iOp (put 16) (.v false (oPick (sel 11) ⟨fun _ => .bool true⟩ (sel 15))),
      iOp (put 17) (.v false (oEv (sel 16))),
      iGuard (sel 17) false (put 18) (iOp (put 18) (.v false (oFieldAddr 1 (sel 2)))),
      iGuard (sel 17) false (put 19) (iOp (put 19) (.v true (oLoad1 (sel 18)))),
      iGuard (sel 17) false (put 20) (iOp (put 20) (.e (eCallF 77 [(sel 19)]))),
      iGuard (sel 17) false (put 21) (iOp (put 21) (.v false (oNot (sel 20)))),
      iOp (put 22) (.v false (oPick (sel 17) ⟨fun _ => .bool true⟩ (sel 21))),
      iOp (put 23) (.v false (oEv (sel 22))),
      iGuard (sel 23) false (put 24) (iOp (put 24) (.v false (oFieldAddr 2 (sel 2)))),
      iGuard (sel 23) false (put 25) (iOp (put 25) (.v true (oLoad1 (sel 24)))),
      iGuard (sel 23) false (put 26) (iOp (put 26) (.e (eCallF 77 [(sel 25)]))),
      iGuard (sel 23) false (put 27) (iOp (put 27) (.v false (oNot (sel 26)))),
      iOp (put 28) (.v false (oPick (sel 23) ⟨fun _ => .bool true⟩ (sel 27)))])
    (sCond (sel 28)
      (sSeq (sRegion [iOp (put 29) (.v true (oLoadN 4 (sel 2))),
         iOp ⟨fun _ a => a⟩ (.e (eStore 4 (sel 4) (sel 29)))])
       (sEx .ret))
      (sEx .normal)))
   (sSeq (sSeq (sRegion [iOp (put 30) (.v false (oFieldAddr 3 (sel 2))),
       iOp (put 31) (.v true (oLoad1 (sel 30)))])
     (sCond (sel 31)
       (sSeq (sDr [iOp (put 32) (.v false (oFieldAddr 1 (sel 2))),
          iOp (put 33) (.v true (oLoad1 (sel 32))),
          iOp (put 34) (.v false (oInt2 fMul ⟨fun _ => .int .i64 3⟩ (sel 33))),
          iOp (put 35) (.v false (oFieldAddr 0 (sel 2))),
          iOp (put 36) (.v true (oLoad1 (sel 35))),
          iOp (put 37) (.v false (oEv (sel 1))),
          iOp (put 38) (.e (eCallF 95 [(sel 36), (sel 37)])),
          iOp (put 39) (.v false (oInt2 fAdd (sel 34) (sel 38))),
          iOp (put 40) (.v false (oInt2 fQuo (sel 39) ⟨fun _ => .int .i64 4⟩)),
          iOp (put 41) (.v false (oFieldAddr 1 (sel 2))),
          iOp ⟨fun _ a => a⟩ (.e (eStore 1 (sel 41) (sel 40)))]
          [(1, none, (oLoad1 (sel 32)), [0, 7])])
        (sRegion [iOp (put 42) (.v false (oFieldAddr 0 (sel 2))),
          iOp (put 43) (.v true (oLoad1 (sel 42))),
          iOp (put 44) (.v false (oInt2 fMul ⟨fun _ => .int .i64 7⟩ (sel 43))),
          iOp (put 45) (.v false (oEv (sel 1))),
          iOp (put 46) (.v false (oInt2 fAdd (sel 44) (sel 45))),
          iOp (put 47) (.v false (oInt2 fQuo (sel 46) ⟨fun _ => .int .i64 8⟩)),
          iOp (put 48) (.v false (oFieldAddr 0 (sel 2))),
          iOp ⟨fun _ a => a⟩ (.e (eStore 1 (sel 48) (sel 47)))]))
       (sRegion [iOp (put 49) (.v false (oEv (sel 1))),
         iOp (put 50) (.v false (oEv (sel 1))),
         iOp (put 51) (.v false (oInt2 fQuo (sel 50) ⟨fun _ => .int .i64 2⟩)),
         iOp (put 52) (.v false (oFieldAddr 0 (sel 2))),
         iOp ⟨fun _ a => a⟩ (.e (eStore 1 (sel 52) (sel 49))),
         iOp (put 53) (.v false (oFieldAddr 1 (sel 2))),
         iOp ⟨fun _ a => a⟩ (.e (eStore 1 (sel 53) (sel 51))),
         iOp (put 54) (.v false (oFieldAddr 3 (sel 2))),
         iOp ⟨fun _ a => a⟩ (.e (eStore 1 (sel 54) ⟨fun _ => .bool true⟩))])))
    (sSeq (sDr [iOp (put 55) (.e (eCallF 78 [⟨fun _ => .int .i64 1000⟩, ⟨fun _ => .int .i64 60000⟩])),
       iOp (put 56) (.v false (oFieldAddr 0 (sel 2))),
       iOp (put 57) (.v true (oLoad1 (sel 56))),
       iOp (put 58) (.v false (oFieldAddr 1 (sel 2))),
       iOp (put 59) (.v true (oLoad1 (sel 58))),
       iOp (put 60) (.v false (oInt2 fMul ⟨fun _ => .int .i64 4⟩ (sel 59))),
       iOp (put 61) (.v false (oBest false ⟨fun _ => .int .i64 1⟩ [(sel 60)])),
       iOp (put 62) (.v false (oInt2 fAdd (sel 57) (sel 61))),
       iOp (put 63) (.e (eCall (sel 55) [(sel 62)])),
       iOp (put 64) (.v false (oFieldAddr 2 (sel 2))),
       iOp ⟨fun _ a => a⟩ (.e (eStore 1 (sel 64) (sel 63)))]
       [(2, none, (oLoad1 (sel 56)), [0, 1]), (4, none, (oLoad1 (sel 58)), [0, 1])])
     (sSeq (sRegion [iOp (put 65) (.v true (oLoadN 4 (sel 2))),
        iOp ⟨fun _ a => a⟩ (.e (eStore 4 (sel 4) (sel 65)))])
      (sEx .ret)))))⟩
theorem d64 : denF Tryz.prog 64 = some c64 := denF_of (by kernel_rfl)
/-- bollard/window.Acked -/
noncomputable def c65 : CF := ⟨42, [.agg (sel 8) 6],
  sSeq (sRegion [iOp (put 4) (.a (aBox 62 (sel 0))),
    iOp (put 8) (.a (aAlloc 62 [.int .i64 0, .int .i64 0, .int .i64 0, .int .i64 0, .bool false, .int .u32 0]))])
  (sSeq (sBlock 0 (sSeq (sRegion [iOp (put 10) (.v true (oLoadN 6 (sel 4))),
       iOp (put 11) (.e (eCallF 74 [(sel 10)])),
       iOp (put 12) (.v false (oNot (sel 11))),
       iOp (put 13) (.v false (oEv (sel 12))),
       iGuard (sel 13) false (put 14) (iOp (put 14) (.v false (oEv (sel 1)))),
       iGuard (sel 13) false (put 15) (iOp (put 15) (.e (eCallF 45 [⟨fun _ => .int .i64 0⟩, (sel 14), ⟨fun _ => .int .i64 1073741824⟩]))),
       iGuard (sel 13) false (put 16) (iOp (put 16) (.v false (oNot (sel 15)))),
       iOp (put 17) (.v false (oPick (sel 13) ⟨fun _ => .bool true⟩ (sel 16))),
       iOp (put 9) (.v false (oEv (sel 17)))])
     (sCond (sel 9)
       (sEx .normal)
       (sSeq (sRegion [iOp (put 19) (.v false (oFieldAddr 4 (sel 4))),
          iOp (put 20) (.v true (oLoad1 (sel 19))),
          iOp (put 18) (.v false (oEv (sel 20)))])
        (sCond (sel 18)
          (sRegion [iOp (put 21) (.v false (oFieldAddr 5 (sel 4))),
            iOp (put 22) (.v true (oLoad1 (sel 21))),
            iOp (put 23) (.v false (oEv (sel 3))),
            iOp (put 24) (.v false (oNe (.one 1) (sel 22) (sel 23))),
            iOp (put 25) (.v false (oEv (sel 24))),
            iGuard (sel 25) true (put 26) (iOp (put 26) (.v false (oFieldAddr 5 (sel 4)))),
            iGuard (sel 25) true (put 27) (iOp (put 27) (.v true (oLoad1 (sel 26)))),
            iGuard (sel 25) true (put 28) (iOp (put 28) (.v false (oEv (sel 3)))),
            iGuard (sel 25) true (put 29) (iOp (put 29) (.e (eCallF 67 [(sel 27), (sel 28)]))),
            iGuard (sel 25) true (put 30) (iOp (put 30) (.v false (oNot (sel 29)))),
            iOp (put 31) (.v false (oPick (sel 25) (sel 30) ⟨fun _ => .bool false⟩)),
            iOp (put 32) (.v false (oFieldAddr 4 (sel 4))),
            iOp ⟨fun _ a => a⟩ (.e (eStore 1 (sel 32) (sel 31)))])
          (sSeq (sRegion [iOp (put 34) (.v false (oEv (sel 1))),
             iOp (put 35) (.v false (oInt2 fGtr (sel 34) ⟨fun _ => .int .i64 0⟩)),
             iOp (put 36) (.v false (oEv (sel 35))),
             iGuard (sel 36) true (put 37) (iOp (put 37) (.v false (oEv (sel 2)))),
             iOp (put 38) (.v false (oPick (sel 36) (sel 37) ⟨fun _ => .bool false⟩)),
             iOp (put 33) (.v false (oEv (sel 38)))])
           (sCond (sel 33)
             (sRegion [iOp (put 39) (.v false (oEv (sel 1))),
               iOp (put 40) (.e (eCallF 96 [(sel 4), (sel 39)]))])
             (sEx .normal))))))))
   (sSeq (sRegion [iOp (put 41) (.v true (oLoadN 6 (sel 4))),
      iOp ⟨fun _ a => a⟩ (.e (eStore 6 (sel 8) (sel 41)))])
    (sEx .ret)))⟩
theorem d65 : denF Tryz.prog 65 = some c65 := denF_of (by kernel_rfl)
/-- (*bollard/join.Join).knows -/
noncomputable def c70 : CF := ⟨17, [.tmp (sel 4)],
  sSeq (sRegion [iOp (put 4) (.v false (oEv ⟨fun _ => .bool false⟩))])
  (sSeq (sRegion [iOp (put 5) (.v false (oEv (sel 0))),
     iOp (put 6) (.v false (oNe (.one 3) (sel 5) ⟨fun _ => .pointer none⟩)),
     iOp (put 7) (.v false (oEv (sel 6))),
     iGuard (sel 7) true (put 8) (iOp (put 8) (.v false (oEv (sel 1)))),
     iGuard (sel 7) true (put 9) (iOp (put 9) (.v false (oConvInt .i64 (sel 8)))),
     iGuard (sel 7) true (put 10) (iOp (put 10) (.v false (oEv (sel 0)))),
     iGuard (sel 7) true (put 11) (iOp (put 11) (.v false (oNilCheck (sel 10)))),
     iGuard (sel 7) true (put 12) (iOp (put 12) (.v false (oFieldAddr 0 (sel 11)))),
     iGuard (sel 7) true (put 13) (iOp (put 13) (.v true (oLoad1 (sel 12)))),
     iGuard (sel 7) true (put 14) (iOp (put 14) (.v false (oLenS (sel 13)))),
     iGuard (sel 7) true (put 15) (iOp (put 15) (.v false (oInt2 fLss (sel 9) (sel 14)))),
     iOp (put 16) (.v false (oPick (sel 7) (sel 15) ⟨fun _ => .bool false⟩)),
     iOp (put 4) (.v false (oEv (sel 16)))])
   (sEx .ret))⟩
theorem d70 : denF Tryz.prog 70 = some c70 := denF_of (by kernel_rfl)
/-- (*bollard/sendq.Queue).in -/
noncomputable def c73 : CF := ⟨6, [.tmp (sel 4)],
  sSeq (sRegion [iOp (put 2) (.a (aBox 59 (sel 0))),
    iOp (put 3) (.a (aBox 23 (sel 1))),
    iOp (put 4) (.v false (oEv ⟨fun _ => .nilFunc⟩))])
  (sSeq (sRegion [iOp (put 5) (.v false (oFunc (.func 104) [] [(sel 2), (sel 3)])),
     iOp (put 4) (.v false (oEv (sel 5)))])
   (sEx .ret))⟩
theorem d73 : denF Tryz.prog 73 = some c73 := denF_of (by kernel_rfl)
/-- (bollard/window.State).may -/
noncomputable def c74 : CF := ⟨23, [.tmp (sel 2)],
  sSeq (sRegion [iOp (put 1) (.a (aBox 62 (sel 0))),
    iOp (put 2) (.v false (oEv ⟨fun _ => .bool false⟩))])
  (sSeq (sRegion [iOp (put 3) (.v false (oFieldAddr 3 (sel 1))),
     iOp (put 4) (.v true (oLoad1 (sel 3))),
     iOp (put 5) (.e (eCallF 45 [⟨fun _ => .int .i64 1⟩, (sel 4), ⟨fun _ => .int .i64 65536⟩])),
     iOp (put 6) (.v false (oEv (sel 5))),
     iGuard (sel 6) true (put 7) (iOp (put 7) (.v false (oFieldAddr 3 (sel 1)))),
     iGuard (sel 6) true (put 8) (iOp (put 8) (.v true (oLoad1 (sel 7)))),
     iGuard (sel 6) true (put 9) (iOp (put 9) (.v false (oFieldAddr 0 (sel 1)))),
     iGuard (sel 6) true (put 10) (iOp (put 10) (.v true (oLoad1 (sel 9)))),
     iGuard (sel 6) true (put 11) (iOp (put 11) (.e (eCallF 45 [(sel 8), (sel 10), ⟨fun _ => .int .i64 1073741824⟩]))),
     iOp (put 12) (.v false (oPick (sel 6) (sel 11) ⟨fun _ => .bool false⟩)),
     iOp (put 13) (.v false (oEv (sel 12))),
     iGuard (sel 13) true (put 14) (iOp (put 14) (.v false (oFieldAddr 1 (sel 1)))),
     iGuard (sel 13) true (put 15) (iOp (put 15) (.v true (oLoad1 (sel 14)))),
     iGuard (sel 13) true (put 16) (iOp (put 16) (.e (eCallF 45 [⟨fun _ => .int .i64 0⟩, (sel 15), ⟨fun _ => .int .i64 1073741824⟩]))),
     iOp (put 17) (.v false (oPick (sel 13) (sel 16) ⟨fun _ => .bool false⟩)),
     iOp (put 18) (.v false (oEv (sel 17))),
     iGuard (sel 18) true (put 19) (iOp (put 19) (.v false (oFieldAddr 2 (sel 1)))),
     iGuard (sel 18) true (put 20) (iOp (put 20) (.v true (oLoad1 (sel 19)))),
     iGuard (sel 18) true (put 21) (iOp (put 21) (.e (eCallF 45 [⟨fun _ => .int .i64 0⟩, (sel 20), ⟨fun _ => .int .i64 1073741824⟩]))),
     iOp (put 22) (.v false (oPick (sel 18) (sel 21) ⟨fun _ => .bool false⟩)),
     iOp (put 2) (.v false (oEv (sel 22)))])
   (sEx .ret))⟩
theorem d74 : denF Tryz.prog 74 = some c74 := denF_of (by kernel_rfl)
/-- bollard/rto.right -/
noncomputable def c77 : CF := ⟨9, [.tmp (sel 2)],
  sSeq (sRegion [iOp (put 2) (.v false (oEv ⟨fun _ => .bool false⟩))])
  (sSeq (sRegion [iOp (put 3) (.v false (oEv (sel 0))),
     iOp (put 4) (.v false (oInt2 fGeq (sel 3) ⟨fun _ => .int .i64 0⟩)),
     iOp (put 5) (.v false (oEv (sel 4))),
     iGuard (sel 5) true (put 6) (iOp (put 6) (.v false (oEv (sel 0)))),
     iGuard (sel 5) true (put 7) (iOp (put 7) (.v false (oInt2 fLeq (sel 6) ⟨fun _ => .int .i64 2147483648⟩))),
     iOp (put 8) (.v false (oPick (sel 5) (sel 7) ⟨fun _ => .bool false⟩)),
     iOp (put 2) (.v false (oEv (sel 8)))])
   (sEx .ret))⟩
theorem d77 : denF Tryz.prog 77 = some c77 := denF_of (by kernel_rfl)
/-- bollard/rto.between -/
noncomputable def c78 : CF := ⟨6, [.tmp (sel 4)],
  sSeq (sRegion [iOp (put 2) (.a (aBox 3 (sel 0))),
    iOp (put 3) (.a (aBox 3 (sel 1))),
    iOp (put 4) (.v false (oEv ⟨fun _ => .nilFunc⟩))])
  (sSeq (sRegion [iOp (put 5) (.v false (oFunc (.func 107) [] [(sel 2), (sel 3)])),
     iOp (put 4) (.v false (oEv (sel 5)))])
   (sEx .ret))⟩
theorem d78 : denF Tryz.prog 78 = some c78 := denF_of (by kernel_rfl)
noncomputable def c79_0 : Vm.Sem := sSeq (sSeq (sRegion [iOp (put 6) (.v false (oEv (sel 4))),
    iOp (put 7) (.v true (oLoad1 (sel 1))),
    iOp (put 8) (.v false (oLenS (sel 7))),
    iOp (put 9) (.v false (oInt2 fLss (sel 6) (sel 8)))])
  (sCond (sel 9)
    (sEx .normal)
    (sEx (.exit 0))))
 (sSeq (sBlock 1 (sSeq (sRegion [iOp (put 13) (.v true (oLoad1 (sel 2))),
      iOp (put 14) (.v true (oLoad1 (sel 1))),
      iOp (put 15) (.v false (oEv (sel 4))),
      iOp (put 16) (.v false (oSlice 1 (sel 14) (some (sel 15)) none none)),
      iOp (put 17) (.v false (oLenS (sel 16))),
      iOp (put 18) (.v false (oBest true (sel 13) [(sel 17)])),
      iOp (put 5) (.v false (oEv (sel 18)))])
    (sSeq (sRegion [iOp (put 19) (.v false (oEv (sel 0))),
       iOp (put 20) (.v true (oLoad1 (sel 1))),
       iOp (put 21) (.v false (oEv (sel 4))),
       iOp (put 22) (.v false (oEv (sel 4))),
       iOp (put 23) (.v false (oEv (sel 5))),
       iOp (put 24) (.v false (oInt2 fAdd (sel 22) (sel 23))),
       iOp (put 25) (.v false (oEv (sel 4))),
       iOp (put 26) (.v false (oEv (sel 5))),
       iOp (put 27) (.v false (oInt2 fAdd (sel 25) (sel 26))),
       iOp (put 28) (.v false (oSlice 1 (sel 20) (some (sel 21)) (some (sel 24)) (some (sel 27)))),
       iOp (put 29) (.e (eCall (sel 19) [(sel 28)])),
       iOp (put 30) (.v false (oNot (sel 29)))])
     (sCond (sel 30)
       (sEx .ret)
       (sEx .normal)))))
  (sRegion [iOp (put 10) (.v false (oEv (sel 4))),
    iOp (put 11) (.v true (oLoad1 (sel 2))),
    iOp (put 12) (.v false (oInt2 fAdd (sel 10) (sel 11))),
    iOp (put 4) (.v false (oEv (sel 12)))]))
/-- slices.Chunk[[]byte,byte]$1 -/
noncomputable def c79 : CF := ⟨31, [],
  sSeq (sRegion [iOp (put 4) (.v false (oEv ⟨fun _ => .int .i64 0⟩))])
  (sBlock 0 (sLoop c79_0))⟩
theorem d79 : denF Tryz.prog 79 = some c79 := denF_of (by kernel_rfl)
noncomputable def k80_0 : Code × Code := pickR (bodyOf Tryz.prog 80) 0
noncomputable def a80_0 : Vm.Sem := sRegion [iOp (put 6) (.v false (oEv (sel 8)))]
noncomputable def b80_0 : Vm.Sem := sBlock 1 (sDr [iOp (put 9) (.v true (oLoad1 (sel 5))),
   iOp (put 10) (.v true (oLoad1 (sel 3))),
   iOp (put 11) (.v false (oEv (sel 6))),
   iOp (put 12) (.e (eCall (sel 10) [(sel 11)])),
   iOp (put 13) (.v false (oInt2 fAdd (sel 9) (sel 12))),
   iOp ⟨fun _ a => a⟩ (.e (eStore 1 (sel 5) (sel 13)))]
   [(0, none, (oLoad1 (sel 5)), [0, 4])])
theorem ea80_0 : den0 Tryz.prog 15 true k80_0.1 = a80_0 := den0_of (by kernel_rfl)
theorem eb80_0 : den0 Tryz.prog 15 true k80_0.2 = b80_0 := den0_of (by kernel_rfl)
/-- bollard/sendq.total -/
noncomputable def c80 : CF := ⟨15, [.tmp (sel 4)],
  sSeq (sRegion [iOp (put 3) (.a (aBox 146 (sel 1))),
    iOp (put 4) (.v false (oEv ⟨fun _ => .int .i64 0⟩))])
  (sSeq (sRegion [iOp (put 5) (.a (aAlloc 3 [.int .i64 0])),
     iOp ⟨fun _ a => a⟩ (.e (eStore 1 (sel 5) ⟨fun _ => .int .i64 0⟩))])
   (sSeq (sSeq (sRegion [iOp (put 7) (.v false (oEv (sel 0)))])
     (sBlock 0 (sRangeFunc 15 (sel 7) [8] k80_0.1 k80_0.2)))
    (sSeq (sRegion [iOp (put 14) (.v true (oLoad1 (sel 5))),
       iOp (put 4) (.v false (oEv (sel 14)))])
     (sEx .ret))))⟩
theorem d80 : denF Tryz.prog 80 = some c80 := denF_of (by kernel_rfl)
/-- (*bollard/sendq.entry).size -/
noncomputable def c81 : CF := ⟨9, [.tmp (sel 2)],
  sSeq (sRegion [iOp (put 2) (.v false (oEv ⟨fun _ => .int .i64 0⟩))])
  (sSeq (sRegion [iOp (put 3) (.v false (oEv (sel 0))),
     iOp (put 4) (.v false (oNilCheck (sel 3))),
     iOp (put 5) (.v false (oFieldAddr 0 (sel 4))),
     iOp (put 6) (.v false (oFieldAddr 11 (sel 5))),
     iOp (put 7) (.v true (oLoad1 (sel 6))),
     iOp (put 8) (.v false (oLenS (sel 7))),
     iOp (put 2) (.v false (oEv (sel 8)))])
   (sEx .ret))⟩
theorem d81 : denF Tryz.prog 81 = some c81 := denF_of (by kernel_rfl)
noncomputable def c82_0 : Vm.Sem := sSeq (sRegion [iOp (put 9) (.v false (oInt2 fLss (sel 8) (sel 7)))])
 (sSeq (sCond (sel 9)
    (sEx .normal)
    (sEx (.exit 0)))
  (sSeq (sBlock 1 (sSeq (sRegion [iOp (put 10) (.v false (oEv (sel 8))),
       iOp (put 5) (.v false (oEv (sel 10)))])
     (sSeq (sRegion [iOp (put 11) (.v false (oEv (sel 1))),
        iOp (put 12) (.v false (oEv (sel 0))),
        iOp (put 13) (.v false (oEv (sel 5))),
        iOp (put 14) (.v false (oIndexAddrS 12 (sel 12) (sel 13))),
        iOp (put 15) (.v true (oLoadN 12 (sel 14))),
        iOp (put 16) (.e (eCall (sel 11) [(sel 15)]))])
      (sCond (sel 16)
        (sSeq (sRegion [iOp (put 17) (.v false (oEv (sel 5))),
           iOp (put 4) (.v false (oEv (sel 17)))])
         (sEx .ret))
        (sEx .normal)))))
   (sRegion [iOp (put 18) (.v false (oInt2 fAdd (sel 8) ⟨fun _ => .int .i64 1⟩)),
     iOp (put 8) (.v false (oEv (sel 18)))])))
/-- slices.IndexFunc[[]bollard/api.Chunk,bollard/api.Chunk] -/
noncomputable def c82 : CF := ⟨19, [.tmp (sel 4)],
  sSeq (sRegion [iOp (put 4) (.v false (oEv ⟨fun _ => .int .i64 0⟩))])
  (sSeq (sSeq (sRegion [iOp (put 6) (.v false (oEv (sel 0))),
      iOp (put 7) (.v false (oLenS (sel 6))),
      iOp (put 8) (.v false (oEv ⟨fun _ => .int .i64 0⟩))])
    (sBlock 0 (sLoop c82_0)))
   (sSeq (sRegion [iOp (put 4) (.v false (oEv ⟨fun _ => .int .i64 (-1)⟩))])
    (sEx .ret)))⟩
theorem d82 : denF Tryz.prog 82 = some c82 := denF_of (by kernel_rfl)
/-- (*bollard/sendq.entry).over -/
noncomputable def c84 : CF := ⟨59, [.tmp (sel 4)],
  sSeq (sRegion [iOp (put 4) (.v false (oEv ⟨fun _ => .bool false⟩))])
  (sSeq (sRegion [iOp (put 7) (.v false (oEv (sel 0))),
     iOp (put 8) (.v false (oNilCheck (sel 7))),
     iOp (put 9) (.v false (oFieldAddr 12 (sel 8))),
     iOp (put 10) (.v true (oLoad1 (sel 9))),
     iOp (put 11) (.v false (oNilCheck (sel 10))),
     iOp (put 12) (.v false (oFieldAddr 0 (sel 11))),
     iOp (put 13) (.v true (oLoad1 (sel 12))),
     iOp (put 14) (.v false (oInt2 fGeq (sel 13) ⟨fun _ => .int .i64 0⟩)),
     iOp (put 15) (.v false (oEv (sel 14))),
     iGuard (sel 15) true (put 16) (iOp (put 16) (.v false (oEv (sel 0)))),
     iGuard (sel 15) true (put 17) (iOp (put 17) (.v false (oNilCheck (sel 16)))),
     iGuard (sel 15) true (put 18) (iOp (put 18) (.v false (oFieldAddr 12 (sel 17)))),
     iGuard (sel 15) true (put 19) (iOp (put 19) (.v true (oLoad1 (sel 18)))),
     iGuard (sel 15) true (put 20) (iOp (put 20) (.v false (oNilCheck (sel 19)))),
     iGuard (sel 15) true (put 21) (iOp (put 21) (.v false (oFieldAddr 0 (sel 20)))),
     iGuard (sel 15) true (put 22) (iOp (put 22) (.v true (oLoad1 (sel 21)))),
     iGuard (sel 15) true (put 23) (iOp (put 23) (.v false (oEv (sel 1)))),
     iGuard (sel 15) true (put 24) (iOp (put 24) (.v false (oInt2 fLss (sel 22) (sel 23)))),
     iOp (put 25) (.v false (oPick (sel 15) (sel 24) ⟨fun _ => .bool false⟩)),
     iOp (put 5) (.v false (oEv (sel 25)))])
   (sSeq (sRegion [iOp (put 26) (.v false (oEv (sel 0))),
      iOp (put 27) (.v false (oNilCheck (sel 26))),
      iOp (put 28) (.v false (oFieldAddr 12 (sel 27))),
      iOp (put 29) (.v true (oLoad1 (sel 28))),
      iOp (put 30) (.v false (oNilCheck (sel 29))),
      iOp (put 31) (.v false (oFieldAddr 1 (sel 30))),
      iOp (put 32) (.v true (oLoad1 (sel 31))),
      iOp (put 33) (.v false (oInt2 fGeq (sel 32) ⟨fun _ => .int .i64 0⟩)),
      iOp (put 34) (.v false (oEv (sel 33))),
      iGuard (sel 34) true (put 35) (iOp (put 35) (.v false (oEv (sel 0)))),
      iGuard (sel 34) true (put 36) (iOp (put 36) (.v false (oNilCheck (sel 35)))),
      iGuard (sel 34) true (put 37) (iOp (put 37) (.v false (oFieldAddr 13 (sel 36)))),
      iGuard (sel 34) true (put 38) (iOp (put 38) (.v true (oLoad1 (sel 37)))),
      iGuard (sel 34) true (put 39) (iOp (put 39) (.v false (oEq (.one 1) (sel 38) ⟨fun _ => .int .i64 2⟩))),
      iOp (put 40) (.v false (oPick (sel 34) (sel 39) ⟨fun _ => .bool false⟩)),
      iOp (put 41) (.v false (oEv (sel 40))),
      iGuard (sel 41) true (put 42) (iOp (put 42) (.v false (oEv (sel 0)))),
      iGuard (sel 41) true (put 43) (iOp (put 43) (.v false (oNilCheck (sel 42)))),
      iGuard (sel 41) true (put 44) (iOp (put 44) (.v false (oFieldAddr 14 (sel 43)))),
      iGuard (sel 41) true (put 45) (iOp (put 45) (.v true (oLoad1 (sel 44)))),
      iGuard (sel 41) true (put 46) (iOp (put 46) (.v false (oEv (sel 0)))),
      iGuard (sel 41) true (put 47) (iOp (put 47) (.v false (oNilCheck (sel 46)))),
      iGuard (sel 41) true (put 48) (iOp (put 48) (.v false (oFieldAddr 12 (sel 47)))),
      iGuard (sel 41) true (put 49) (iOp (put 49) (.v true (oLoad1 (sel 48)))),
      iGuard (sel 41) true (put 50) (iOp (put 50) (.v false (oNilCheck (sel 49)))),
      iGuard (sel 41) true (put 51) (iOp (put 51) (.v false (oFieldAddr 1 (sel 50)))),
      iGuard (sel 41) true (put 52) (iOp (put 52) (.v true (oLoad1 (sel 51)))),
      iGuard (sel 41) true (put 53) (iOp (put 53) (.v false (oInt2 fGtr (sel 45) (sel 52)))),
      iOp (put 54) (.v false (oPick (sel 41) (sel 53) ⟨fun _ => .bool false⟩)),
      iOp (put 6) (.v false (oEv (sel 54)))])
    (sSeq (sRegion [iOp (put 55) (.v false (oEv (sel 5))),
       iOp (put 56) (.v false (oEv (sel 55))),
       iGuard (sel 56) false (put 57) (iOp (put 57) (.v false (oEv (sel 6)))),
       iOp (put 58) (.v false (oPick (sel 56) ⟨fun _ => .bool true⟩ (sel 57))),
       iOp (put 4) (.v false (oEv (sel 58)))])
     (sEx .ret))))⟩
theorem d84 : denF Tryz.prog 84 = some c84 := denF_of (by kernel_rfl)
noncomputable def c85_0 : Vm.Sem := sSeq (sRegion [iOp (put 17) (.v false (oInt2 fLss (sel 16) (sel 15)))])
 (sSeq (sCond (sel 17)
    (sEx .normal)
    (sEx (.exit 0)))
  (sSeq (sBlock 1 (sSeq (sRegion [iOp (put 18) (.v false (oEv (sel 16))),
       iOp (put 19) (.v false (oIndexAddrS 1 (sel 14) (sel 16))),
       iOp (put 20) (.v true (oLoad1 (sel 19))),
       iOp (put 6) (.v false (oEv (sel 18))),
       iOp (put 7) (.v false (oEv (sel 20)))])
     (sSeq (sRegion [iOp (put 21) (.v false (oEv (sel 7))),
        iOp (put 22) (.v false (oNilCheck (sel 21))),
        iOp (put 23) (.v false (oFieldAddr 13 (sel 22))),
        iOp (put 24) (.v true (oLoad1 (sel 23))),
        iOp (put 25) (.v false (oEq (.one 1) (sel 24) ⟨fun _ => .int .i64 4⟩))])
      (sCond (sel 25)
        (sRegion [iOp (put 26) (.v false (oEv (sel 6))),
          iOp (put 27) (.v false (oInt2 fAdd (sel 26) ⟨fun _ => .int .i64 1⟩)),
          iOp (put 5) (.v false (oEv (sel 27)))])
        (sEx .normal)))))
   (sRegion [iOp (put 28) (.v false (oInt2 fAdd (sel 16) ⟨fun _ => .int .i64 1⟩)),
     iOp (put 16) (.v false (oEv (sel 28)))])))
noncomputable def c85_1 : Vm.Sem := sSeq (sRegion [iOp (put 41) (.v false (oInt2 fLss (sel 40) (sel 39)))])
 (sSeq (sCond (sel 41)
    (sEx .normal)
    (sEx (.exit 2)))
  (sSeq (sBlock 3 (sSeq (sRegion [iOp (put 42) (.v false (oIndexAddrS 1 (sel 38) (sel 40))),
       iOp (put 43) (.v true (oLoad1 (sel 42))),
       iOp (put 10) (.v false (oEv (sel 43)))])
     (sSeq (sSeq (sRegion [iOp (put 44) (.v false (oEv (sel 10))),
         iOp (put 45) (.v false (oNilCheck (sel 44))),
         iOp (put 46) (.v false (oFieldAddr 13 (sel 45))),
         iOp (put 47) (.v true (oLoad1 (sel 46))),
         iOp (put 48) (.v false (oEq (.one 1) (sel 47) ⟨fun _ => .int .i64 3⟩)),
         iOp (put 49) (.v false (oEv (sel 48))),
         iGuard (sel 49) false (put 50) (iOp (put 50) (.v false (oEv (sel 10)))),
         iGuard (sel 49) false (put 51) (iOp (put 51) (.v false (oNilCheck (sel 50)))),
         iGuard (sel 49) false (put 52) (iOp (put 52) (.v false (oFieldAddr 0 (sel 51)))),
         iGuard (sel 49) false (put 53) (iOp (put 53) (.v false (oFieldAddr 1 (sel 52)))),
         iGuard (sel 49) false (put 54) (iOp (put 54) (.v true (oLoad1 (sel 53)))),
         iGuard (sel 49) false (put 55) (iOp (put 55) (.v false (oInt2 fAnd (sel 54) ⟨fun _ => .int .u8 4⟩))),
         iGuard (sel 49) false (put 56) (iOp (put 56) (.v false (oNe (.one 1) (sel 55) ⟨fun _ => .int .u8 0⟩))),
         iOp (put 57) (.v false (oPick (sel 49) ⟨fun _ => .bool true⟩ (sel 56)))])
       (sCond (sel 57)
         (sEx (.exit 3))
         (sEx .normal)))
      (sSeq (sRegion [iOp (put 58) (.v false (oEv (sel 10))),
         iOp (put 59) (.v false (oNilCheck (sel 58))),
         iOp (put 60) (.v false (oFieldAddr 0 (sel 59))),
         iOp (put 61) (.v false (oFieldAddr 4 (sel 60))),
         iOp (put 62) (.v true (oLoad1 (sel 61))),
         iOp (put 63) (.v false (oEv (sel 10))),
         iOp (put 64) (.v false (oNilCheck (sel 63))),
         iOp (put 65) (.v false (oFieldAddr 0 (sel 64))),
         iOp (put 66) (.v false (oFieldAddr 5 (sel 65))),
         iOp (put 67) (.v true (oLoad1 (sel 66))),
         iOp (put 68) (.v false (oBuild [.int .u16 0, .int .u16 0] [(0, 1, (sel 62)), (1, 1, (sel 67))])),
         iOp (put 11) (.a (aAlloc 170 [.int .u16 0, .int .u16 0])),
         iOp ⟨fun _ a => a⟩ (.e (eStore 2 (sel 11) (sel 68)))])
       (sSeq (sSeq (sRegion [iOp (put 69) (.v false (oEv (sel 8))),
           iOp (put 70) (.v false (oFunc (.func 113) [] [(sel 11)])),
           iOp (put 71) (.e (eCallF 112 [(sel 69), (sel 70)])),
           iOp (put 12) (.v false (oEv (sel 71)))])
         (sSeq (sRegion [iOp (put 72) (.v false (oEv (sel 12))),
            iOp (put 73) (.v false (oInt2 fGeq (sel 72) ⟨fun _ => .int .i64 0⟩))])
          (sCond (sel 73)
            (sSeq (sRegion [iOp (put 74) (.v false (oEv (sel 8))),
               iOp (put 75) (.v false (oEv (sel 12))),
               iOp (put 76) (.v true (oLoadN 2 (sel 11))),
               iOp (put 77) (.v false (oIndexAddrS 2 (sel 74) (sel 75))),
               iOp ⟨fun _ a => a⟩ (.e (eStore 2 (sel 77) (sel 76)))])
             (sEx (.exit 3)))
            (sEx .normal))))
        (sRegion [iOp (put 78) (.v false (oEv (sel 8))),
          iOp (put 79) (.v true (oLoadN 2 (sel 11))),
          iOp (put 80) (.a (aBuildSlice 170 1 (rep 1 [.int .u16 0, .int .u16 0]) [(0, 2, (sel 79))])),
          iOp (put 81) (.e (eAppend 170 2 4 (sel 78) (sel 80))),
          iOp (put 8) (.v false (oEv (sel 81)))]))))))
   (sRegion [iOp (put 82) (.v false (oInt2 fAdd (sel 40) ⟨fun _ => .int .i64 1⟩)),
     iOp (put 40) (.v false (oEv (sel 82)))])))
/-- (*bollard/sendq.Queue).Forward -/
noncomputable def c85 : CF := ⟨96, [.tmp (sel 2), .tmp (sel 3), .tmp (sel 4)],
  sSeq (sRegion [iOp (put 2) (.v false (oEv ⟨fun _ => .int .u32 0⟩)),
    iOp (put 3) (.v false (oEv ⟨fun _ => .slice none 0 0⟩)),
    iOp (put 4) (.v false (oEv ⟨fun _ => .bool false⟩))])
  (sSeq (sRegion [iOp (put 5) (.v false (oEv ⟨fun _ => .int .i64 0⟩))])
   (sSeq (sSeq (sRegion [iOp (put 13) (.v false (oEv (sel 0))),
       iOp (put 14) (.e (eCallF 110 [(sel 13)])),
       iOp (put 15) (.v false (oLenS (sel 14))),
       iOp (put 16) (.v false (oEv ⟨fun _ => .int .i64 0⟩))])
     (sBlock 0 (sLoop c85_0)))
    (sSeq (sSeq (sRegion [iOp (put 29) (.v false (oEv (sel 5))),
        iOp (put 30) (.v false (oEq (.one 1) (sel 29) ⟨fun _ => .int .i64 0⟩))])
      (sCond (sel 30)
        (sSeq (sRegion [iOp (put 31) (.v false (oEv (sel 0))),
           iOp (put 32) (.e (eCallF 111 [(sel 31)])),
           iOp (put 2) (.v false (oEv (sel 32))),
           iOp (put 3) (.v false (oEv ⟨fun _ => .slice none 0 0⟩)),
           iOp (put 4) (.v false (oEv ⟨fun _ => .bool false⟩))])
         (sEx .ret))
        (sEx .normal)))
     (sSeq (sRegion [iOp (put 8) (.v false (oEv ⟨fun _ => .slice none 0 0⟩))])
      (sSeq (sSeq (sRegion [iOp (put 33) (.v false (oEv (sel 0))),
          iOp (put 34) (.v false (oNilCheck (sel 33))),
          iOp (put 35) (.v false (oFieldAddr 0 (sel 34))),
          iOp (put 36) (.v true (oLoad1 (sel 35))),
          iOp (put 37) (.v false (oEv (sel 5))),
          iOp (put 38) (.v false (oSlice 1 (sel 36) none (some (sel 37)) none)),
          iOp (put 39) (.v false (oLenS (sel 38))),
          iOp (put 40) (.v false (oEv ⟨fun _ => .int .i64 0⟩))])
        (sBlock 2 (sLoop c85_1)))
       (sSeq (sRegion [iOp (put 83) (.v false (oEv (sel 0))),
          iOp (put 84) (.v false (oNilCheck (sel 83))),
          iOp (put 85) (.v false (oFieldAddr 0 (sel 84))),
          iOp (put 86) (.v true (oLoad1 (sel 85))),
          iOp (put 87) (.v false (oEv (sel 5))),
          iOp (put 88) (.v false (oInt2 fSub (sel 87) ⟨fun _ => .int .i64 1⟩)),
          iOp (put 89) (.v false (oIndexAddrS 1 (sel 86) (sel 88))),
          iOp (put 90) (.v true (oLoad1 (sel 89))),
          iOp (put 91) (.v false (oNilCheck (sel 90))),
          iOp (put 92) (.v false (oFieldAddr 0 (sel 91))),
          iOp (put 93) (.v false (oFieldAddr 2 (sel 92))),
          iOp (put 94) (.v true (oLoad1 (sel 93))),
          iOp (put 95) (.v false (oEv (sel 8))),
          iOp (put 2) (.v false (oEv (sel 94))),
          iOp (put 3) (.v false (oEv (sel 95))),
          iOp (put 4) (.v false (oEv ⟨fun _ => .bool true⟩))])
        (sEx .ret)))))))⟩
theorem d85 : denF Tryz.prog 85 = some c85 := denF_of (by kernel_rfl)
/-- (*bollard/gaps.Set).below -/
noncomputable def c86 : CF := ⟨18, [.tmp (sel 4)],
  sSeq (sRegion [iOp (put 4) (.v false (oEv ⟨fun _ => .bool false⟩))])
  (sSeq (sRegion [iOp (put 6) (.v false (oEv (sel 0))),
     iOp (put 7) (.v false (oNilCheck (sel 6))),
     iOp (put 8) (.v false (oFieldAddr 0 (sel 7))),
     iOp (put 9) (.v true (oLoad1 (sel 8))),
     iOp (put 10) (.v false (oEv (sel 1))),
     iOp (put 11) (.e (eCallF 16 [(sel 9), (sel 10)])),
     iOp (put 5) (.v false (oEv (sel 11)))])
   (sSeq (sRegion [iOp (put 12) (.v false (oEv (sel 5))),
      iOp (put 13) (.v false (oEq (.one 1) (sel 12) ⟨fun _ => .int .u32 0⟩)),
      iOp (put 14) (.v false (oEv (sel 13))),
      iGuard (sel 14) false (put 15) (iOp (put 15) (.v false (oEv (sel 5)))),
      iGuard (sel 14) false (put 16) (iOp (put 16) (.v false (oInt2 fGeq (sel 15) ⟨fun _ => .int .u32 2147483648⟩))),
      iOp (put 17) (.v false (oPick (sel 14) ⟨fun _ => .bool true⟩ (sel 16))),
      iOp (put 4) (.v false (oEv (sel 17)))])
    (sEx .ret)))⟩
theorem d86 : denF Tryz.prog 86 = some c86 := denF_of (by kernel_rfl)
noncomputable def c87_0 : Vm.Sem := sSeq (sSeq (sRegion [iOp (put 13) (.v false (oFieldAddr 1 (sel 5))),
    iOp (put 14) (.v true (oLoad1 (sel 13))),
    iOp (put 15) (.v false (oInt2 fAnd (sel 14) ⟨fun _ => .int .u8 2⟩)),
    iOp (put 16) (.v false (oEq (.one 1) (sel 15) ⟨fun _ => .int .u8 0⟩))])
  (sCond (sel 16)
    (sEx .normal)
    (sEx (.exit 0))))
 (sBlock 1 (sSeq (sRegion [iOp (put 18) (.v false (oEv (sel 0))),
     iOp (put 19) (.v false (oNilCheck (sel 18))),
     iOp (put 20) (.v false (oFieldAddr 1 (sel 19))),
     iOp (put 21) (.v true (oLoad1 (sel 20))),
     iOp (put 22) (.v false (oFieldAddr 2 (sel 5))),
     iOp (put 23) (.v true (oLoad1 (sel 22))),
     iOp (put 24) (.v false (oInt2 fSub (sel 23) ⟨fun _ => .int .u32 1⟩)),
     iOp (put 25) (.v true (oLookup (.one 1) (.agg #[.int .u8 0, .int .u8 0, .int .u32 0, .int .u32 0, .int .u16 0, .int .u16 0, .int .u32 0, .slice none 0 0, .slice none 0 0, .slice none 0 0, .slice none 0 0, .slice none 0 0]) true (sel 21) (sel 24))),
     iOp (put 17) (.v false (oEv (sel 25))),
     iOp (put 26) (.v false (oExtract (sel 17) 0)),
     iOp (put 27) (.v false (oExtract (sel 17) 1)),
     iOp (put 6) (.a (aAlloc 42 [.int .u8 0, .int .u8 0, .int .u32 0, .int .u32 0, .int .u16 0, .int .u16 0, .int .u32 0, .slice none 0 0, .slice none 0 0, .slice none 0 0, .slice none 0 0, .slice none 0 0])),
     iOp ⟨fun _ a => a⟩ (.e (eStore 12 (sel 6) (sel 26))),
     iOp (put 7) (.v false (oEv (sel 27)))])
   (sSeq (sSeq (sRegion [iOp (put 28) (.v false (oEv (sel 7))),
       iOp (put 29) (.v false (oNot (sel 28))),
       iOp (put 30) (.v false (oEv (sel 29))),
       iGuard (sel 30) false (put 31) (iOp (put 31) (.v true (oLoadN 12 (sel 6)))),
       iGuard (sel 30) false (put 32) (iOp (put 32) (.v true (oLoadN 12 (sel 5)))),
       iGuard (sel 30) false (put 33) (iOp (put 33) (.e (eCallF 114 [(sel 31), (sel 32)]))),
       iGuard (sel 30) false (put 34) (iOp (put 34) (.v false (oNot (sel 33)))),
       iOp (put 35) (.v false (oPick (sel 30) ⟨fun _ => .bool true⟩ (sel 34)))])
     (sCond (sel 35)
       (sSeq (sRegion [iOp (put 4) (.v false (oEv ⟨fun _ => .slice none 0 0⟩))])
        (sEx .ret))
       (sEx .normal)))
    (sRegion [iOp (put 36) (.v true (oLoadN 12 (sel 6))),
      iOp ⟨fun _ a => a⟩ (.e (eStore 12 (sel 5) (sel 36)))]))))
noncomputable def c87_1 : Vm.Sem := sSeq (sSeq (sRegion [iOp (put 40) (.v false (oFieldAddr 1 (sel 9))),
    iOp (put 41) (.v true (oLoad1 (sel 40))),
    iOp (put 42) (.v false (oInt2 fAnd (sel 41) ⟨fun _ => .int .u8 1⟩)),
    iOp (put 43) (.v false (oEq (.one 1) (sel 42) ⟨fun _ => .int .u8 0⟩))])
  (sCond (sel 43)
    (sEx .normal)
    (sEx (.exit 2))))
 (sSeq (sBlock 3 (sSeq (sRegion [iOp (put 49) (.v false (oEv (sel 0))),
      iOp (put 50) (.v false (oNilCheck (sel 49))),
      iOp (put 51) (.v false (oFieldAddr 1 (sel 50))),
      iOp (put 52) (.v true (oLoad1 (sel 51))),
      iOp (put 53) (.v false (oFieldAddr 2 (sel 9))),
      iOp (put 54) (.v true (oLoad1 (sel 53))),
      iOp (put 55) (.v false (oInt2 fAdd (sel 54) ⟨fun _ => .int .u32 1⟩)),
      iOp (put 56) (.v true (oLookup (.one 1) (.agg #[.int .u8 0, .int .u8 0, .int .u32 0, .int .u32 0, .int .u16 0, .int .u16 0, .int .u32 0, .slice none 0 0, .slice none 0 0, .slice none 0 0, .slice none 0 0, .slice none 0 0]) true (sel 52) (sel 55))),
      iOp (put 48) (.v false (oEv (sel 56))),
      iOp (put 57) (.v false (oExtract (sel 48) 0)),
      iOp (put 58) (.v false (oExtract (sel 48) 1)),
      iOp (put 10) (.a (aAlloc 42 [.int .u8 0, .int .u8 0, .int .u32 0, .int .u32 0, .int .u16 0, .int .u16 0, .int .u32 0, .slice none 0 0, .slice none 0 0, .slice none 0 0, .slice none 0 0, .slice none 0 0])),
      iOp ⟨fun _ a => a⟩ (.e (eStore 12 (sel 10) (sel 57))),
      iOp (put 11) (.v false (oEv (sel 58)))])
    (sSeq (sSeq (sRegion [iOp (put 59) (.v false (oEv (sel 11))),
        iOp (put 60) (.v false (oNot (sel 59))),
        iOp (put 61) (.v false (oEv (sel 60))),
        iGuard (sel 61) false (put 62) (iOp (put 62) (.v true (oLoadN 12 (sel 9)))),
        iGuard (sel 61) false (put 63) (iOp (put 63) (.v true (oLoadN 12 (sel 10)))),
        iGuard (sel 61) false (put 64) (iOp (put 64) (.e (eCallF 114 [(sel 62), (sel 63)]))),
        iGuard (sel 61) false (put 65) (iOp (put 65) (.v false (oNot (sel 64)))),
        iOp (put 66) (.v false (oPick (sel 61) ⟨fun _ => .bool true⟩ (sel 65)))])
      (sCond (sel 66)
        (sSeq (sRegion [iOp (put 4) (.v false (oEv ⟨fun _ => .slice none 0 0⟩))])
         (sEx .ret))
        (sEx .normal)))
     (sRegion [iOp (put 67) (.v true (oLoadN 12 (sel 10))),
       iOp ⟨fun _ a => a⟩ (.e (eStore 12 (sel 9) (sel 67)))]))))
  (sSeq (sSeq (sRegion [iOp (put 68) (.v true (oLoadN 12 (sel 9)))])
    (sRegion [iOp (put 9) (.a (aAlloc 42 [.int .u8 0, .int .u8 0, .int .u32 0, .int .u32 0, .int .u16 0, .int .u16 0, .int .u32 0, .slice none 0 0, .slice none 0 0, .slice none 0 0, .slice none 0 0, .slice none 0 0])),
      iOp ⟨fun _ a => a⟩ (.e (eStore 12 (sel 9) (sel 68)))]))
   (sRegion [iOp (put 44) (.v false (oEv (sel 8))),
     iOp (put 45) (.v true (oLoadN 12 (sel 9))),
     iOp (put 46) (.a (aBuildSlice 42 1 (rep 1 [.int .u8 0, .int .u8 0, .int .u32 0, .int .u32 0, .int .u16 0, .int .u16 0, .int .u32 0, .slice none 0 0, .slice none 0 0, .slice none 0 0, .slice none 0 0, .slice none 0 0]) [(0, 12, (sel 45))])),
     iOp (put 47) (.e (eAppend 42 12 144 (sel 44) (sel 46))),
     iOp (put 8) (.v false (oEv (sel 47)))])))
/-- (*bollard/join.Join).run -/
noncomputable def c87 : CF := ⟨70, [.tmp (sel 4)],
  sSeq (sRegion [iOp (put 3) (.a (aBox 42 (sel 1))),
    iOp (put 4) (.v false (oEv ⟨fun _ => .slice none 0 0⟩))])
  (sSeq (sRegion [iOp (put 12) (.v true (oLoadN 12 (sel 3))),
     iOp (put 5) (.a (aAlloc 42 [.int .u8 0, .int .u8 0, .int .u32 0, .int .u32 0, .int .u16 0, .int .u16 0, .int .u32 0, .slice none 0 0, .slice none 0 0, .slice none 0 0, .slice none 0 0, .slice none 0 0])),
     iOp ⟨fun _ a => a⟩ (.e (eStore 12 (sel 5) (sel 12)))])
   (sSeq (sBlock 0 (sLoop c87_0))
    (sSeq (sRegion [iOp (put 37) (.v true (oLoadN 12 (sel 5))),
       iOp (put 38) (.a (aBuildSlice 42 1 (rep 1 [.int .u8 0, .int .u8 0, .int .u32 0, .int .u32 0, .int .u16 0, .int .u16 0, .int .u32 0, .slice none 0 0, .slice none 0 0, .slice none 0 0, .slice none 0 0, .slice none 0 0]) [(0, 12, (sel 37))])),
       iOp (put 8) (.v false (oEv (sel 38)))])
     (sSeq (sSeq (sRegion [iOp (put 39) (.v true (oLoadN 12 (sel 5))),
         iOp (put 9) (.a (aAlloc 42 [.int .u8 0, .int .u8 0, .int .u32 0, .int .u32 0, .int .u16 0, .int .u16 0, .int .u32 0, .slice none 0 0, .slice none 0 0, .slice none 0 0, .slice none 0 0, .slice none 0 0])),
         iOp ⟨fun _ a => a⟩ (.e (eStore 12 (sel 9) (sel 39)))])
       (sBlock 2 (sLoop c87_1)))
      (sSeq (sRegion [iOp (put 69) (.v false (oEv (sel 8))),
         iOp (put 4) (.v false (oEv (sel 69)))])
       (sEx .ret))))))⟩
theorem d87 : denF Tryz.prog 87 = some c87 := denF_of (by kernel_rfl)
noncomputable def c88_0 : Vm.Sem := sSeq (sRegion [iOp (put 55) (.v false (oInt2 fLss (sel 54) (sel 53)))])
 (sSeq (sCond (sel 55)
    (sEx .normal)
    (sEx (.exit 0)))
  (sSeq (sBlock 1 (sSeq (sRegion [iOp (put 56) (.v false (oEv (sel 54))),
       iOp (put 57) (.v false (oIndexAddrS 12 (sel 52) (sel 54))),
       iOp (put 58) (.v true (oLoadN 12 (sel 57))),
       iOp (put 6) (.a (aAlloc 42 [.int .u8 0, .int .u8 0, .int .u32 0, .int .u32 0, .int .u16 0, .int .u16 0, .int .u32 0, .slice none 0 0, .slice none 0 0, .slice none 0 0, .slice none 0 0, .slice none 0 0])),
       iOp (put 5) (.v false (oEv (sel 56))),
       iOp ⟨fun _ a => a⟩ (.e (eStore 12 (sel 6) (sel 58)))])
     (sSeq (sSeq (sRegion [iOp (put 59) (.v false (oEv (sel 5))),
         iOp (put 60) (.v false (oInt2 fGtr (sel 59) ⟨fun _ => .int .i64 0⟩)),
         iOp (put 61) (.v false (oEv (sel 60))),
         iGuard (sel 61) true (put 62) (iOp (put 62) (.v false (oEv (sel 0)))),
         iGuard (sel 61) true (put 63) (iOp (put 63) (.v false (oEv (sel 5)))),
         iGuard (sel 61) true (put 64) (iOp (put 64) (.v false (oInt2 fSub (sel 63) ⟨fun _ => .int .i64 1⟩))),
         iGuard (sel 61) true (put 65) (iOp (put 65) (.v false (oIndexAddrS 12 (sel 62) (sel 64)))),
         iGuard (sel 61) true (put 66) (iOp (put 66) (.v true (oLoadN 12 (sel 65)))),
         iGuard (sel 61) true (put 67) (iOp (put 67) (.v true (oLoadN 12 (sel 6)))),
         iGuard (sel 61) true (put 68) (iOp (put 68) (.e (eCallF 114 [(sel 66), (sel 67)]))),
         iGuard (sel 61) true (put 69) (iOp (put 69) (.v false (oNot (sel 68)))),
         iOp (put 70) (.v false (oPick (sel 61) (sel 69) ⟨fun _ => .bool false⟩))])
       (sCond (sel 70)
         (sSeq (sRegion [iOp (put 71) (.v false (oBuild [.int .u16 0, .bool false, .int .u32 0, .slice none 0 0] [])),
            iOp ⟨fun _ a => a⟩ (.e (eStore 4 (sel 2) (sel 71))),
            iOp (put 3) (.v false (oEv ⟨fun _ => .bool false⟩))])
          (sEx .ret))
         (sEx .normal)))
      (sRegion [iOp (put 72) (.v false (oFieldAddr 3 (sel 4))),
        iOp (put 73) (.v true (oLoad1 (sel 72))),
        iOp (put 74) (.v false (oFieldAddr 11 (sel 6))),
        iOp (put 75) (.v true (oLoad1 (sel 74))),
        iOp (put 76) (.e (eAppend 5 1 1 (sel 73) (sel 75))),
        iOp (put 77) (.v false (oFieldAddr 3 (sel 4))),
        iOp ⟨fun _ a => a⟩ (.e (eStore 1 (sel 77) (sel 76)))]))))
   (sRegion [iOp (put 78) (.v false (oInt2 fAdd (sel 54) ⟨fun _ => .int .i64 1⟩)),
     iOp (put 54) (.v false (oEv (sel 78)))])))
/-- bollard/split.Whole -/
noncomputable def c88 : CF := ⟨80, [.agg (sel 2) 4, .tmp (sel 3)],
  sSeq (sRegion [iOp (put 2) (.a (aAlloc 34 [.int .u16 0, .bool false, .int .u32 0, .slice none 0 0])),
    iOp (put 3) (.v false (oEv ⟨fun _ => .bool false⟩))])
  (sSeq (sSeq (sRegion [iOp (put 7) (.v false (oEv (sel 0))),
      iOp (put 8) (.v false (oLenS (sel 7))),
      iOp (put 9) (.v false (oEq (.one 1) (sel 8) ⟨fun _ => .int .i64 0⟩)),
      iOp (put 10) (.v false (oEv (sel 9))),
      iGuard (sel 10) false (put 11) (iOp (put 11) (.v false (oEv (sel 0)))),
      iGuard (sel 10) false (put 12) (iOp (put 12) (.v false (oIndexAddrS 12 (sel 11) ⟨fun _ => .int .i64 0⟩))),
      iGuard (sel 10) false (put 13) (iOp (put 13) (.v false (oFieldAddr 0 (sel 12)))),
      iGuard (sel 10) false (put 14) (iOp (put 14) (.v true (oLoad1 (sel 13)))),
      iGuard (sel 10) false (put 15) (iOp (put 15) (.v false (oNe (.one 1) (sel 14) ⟨fun _ => .int .u8 0⟩))),
      iOp (put 16) (.v false (oPick (sel 10) ⟨fun _ => .bool true⟩ (sel 15))),
      iOp (put 17) (.v false (oEv (sel 16))),
      iGuard (sel 17) false (put 18) (iOp (put 18) (.v false (oEv (sel 0)))),
      iGuard (sel 17) false (put 19) (iOp (put 19) (.v false (oIndexAddrS 12 (sel 18) ⟨fun _ => .int .i64 0⟩))),
      iGuard (sel 17) false (put 20) (iOp (put 20) (.v false (oFieldAddr 1 (sel 19)))),
      iGuard (sel 17) false (put 21) (iOp (put 21) (.v true (oLoad1 (sel 20)))),
      iGuard (sel 17) false (put 22) (iOp (put 22) (.v false (oInt2 fAnd (sel 21) ⟨fun _ => .int .u8 2⟩))),
      iGuard (sel 17) false (put 23) (iOp (put 23) (.v false (oEq (.one 1) (sel 22) ⟨fun _ => .int .u8 0⟩))),
      iOp (put 24) (.v false (oPick (sel 17) ⟨fun _ => .bool true⟩ (sel 23))),
      iOp (put 25) (.v false (oEv (sel 24))),
      iGuard (sel 25) false (put 26) (iOp (put 26) (.v false (oEv (sel 0)))),
      iGuard (sel 25) false (put 27) (iOp (put 27) (.v false (oEv (sel 0)))),
      iGuard (sel 25) false (put 28) (iOp (put 28) (.v false (oLenS (sel 27)))),
      iGuard (sel 25) false (put 29) (iOp (put 29) (.v false (oInt2 fSub (sel 28) ⟨fun _ => .int .i64 1⟩))),
      iGuard (sel 25) false (put 30) (iOp (put 30) (.v false (oIndexAddrS 12 (sel 26) (sel 29)))),
      iGuard (sel 25) false (put 31) (iOp (put 31) (.v false (oFieldAddr 1 (sel 30)))),
      iGuard (sel 25) false (put 32) (iOp (put 32) (.v true (oLoad1 (sel 31)))),
      iGuard (sel 25) false (put 33) (iOp (put 33) (.v false (oInt2 fAnd (sel 32) ⟨fun _ => .int .u8 1⟩))),
      iGuard (sel 25) false (put 34) (iOp (put 34) (.v false (oEq (.one 1) (sel 33) ⟨fun _ => .int .u8 0⟩))),
      iOp (put 35) (.v false (oPick (sel 25) ⟨fun _ => .bool true⟩ (sel 34)))])
    (sCond (sel 35)
      (sSeq (sRegion [iOp (put 36) (.v false (oBuild [.int .u16 0, .bool false, .int .u32 0, .slice none 0 0] [])),
         iOp ⟨fun _ a => a⟩ (.e (eStore 4 (sel 2) (sel 36))),
         iOp (put 3) (.v false (oEv ⟨fun _ => .bool false⟩))])
       (sEx .ret))
      (sEx .normal)))
   (sSeq (sRegion [iOp (put 37) (.v false (oEv (sel 0))),
      iOp (put 38) (.v false (oIndexAddrS 12 (sel 37) ⟨fun _ => .int .i64 0⟩)),
      iOp (put 39) (.v false (oFieldAddr 4 (sel 38))),
      iOp (put 40) (.v true (oLoad1 (sel 39))),
      iOp (put 41) (.v false (oEv (sel 0))),
      iOp (put 42) (.v false (oIndexAddrS 12 (sel 41) ⟨fun _ => .int .i64 0⟩)),
      iOp (put 43) (.v false (oFieldAddr 1 (sel 42))),
      iOp (put 44) (.v true (oLoad1 (sel 43))),
      iOp (put 45) (.v false (oInt2 fAnd (sel 44) ⟨fun _ => .int .u8 4⟩)),
      iOp (put 46) (.v false (oNe (.one 1) (sel 45) ⟨fun _ => .int .u8 0⟩)),
      iOp (put 47) (.v false (oEv (sel 0))),
      iOp (put 48) (.v false (oIndexAddrS 12 (sel 47) ⟨fun _ => .int .i64 0⟩)),
      iOp (put 49) (.v false (oFieldAddr 6 (sel 48))),
      iOp (put 50) (.v true (oLoad1 (sel 49))),
      iOp (put 51) (.v false (oBuild [.int .u16 0, .bool false, .int .u32 0, .slice none 0 0] [(0, 1, (sel 40)), (1, 1, (sel 46)), (2, 1, (sel 50))])),
      iOp (put 4) (.a (aAlloc 34 [.int .u16 0, .bool false, .int .u32 0, .slice none 0 0])),
      iOp ⟨fun _ a => a⟩ (.e (eStore 4 (sel 4) (sel 51)))])
    (sSeq (sSeq (sRegion [iOp (put 52) (.v false (oEv (sel 0))),
        iOp (put 53) (.v false (oLenS (sel 52))),
        iOp (put 54) (.v false (oEv ⟨fun _ => .int .i64 0⟩))])
      (sBlock 0 (sLoop c88_0)))
     (sSeq (sRegion [iOp (put 79) (.v true (oLoadN 4 (sel 4))),
        iOp ⟨fun _ a => a⟩ (.e (eStore 4 (sel 2) (sel 79))),
        iOp (put 3) (.v false (oEv ⟨fun _ => .bool true⟩))])
      (sEx .ret)))))⟩
theorem d88 : denF Tryz.prog 88 = some c88 := denF_of (by kernel_rfl)
/-- (*bollard/join.Join).keep -/
noncomputable def c89 : CF := ⟨69, [],
  sSeq (sRegion [iOp (put 4) (.a (aBox 34 (sel 1)))])
  (sSeq (sRegion [iOp (put 9) (.v false (oFieldAddr 0 (sel 4))),
     iOp (put 10) (.v true (oLoad1 (sel 9))),
     iOp (put 11) (.v false (oEv (sel 2))),
     iOp (put 12) (.v false (oBuild [.int .u16 0, .int .u16 0] [(0, 1, (sel 10)), (1, 1, (sel 11))])),
     iOp (put 6) (.a (aAlloc 136 [.int .u16 0, .int .u16 0])),
     iOp ⟨fun _ a => a⟩ (.e (eStore 2 (sel 6) (sel 12)))])
   (sSeq (sRegion [iOp (put 14) (.v false (oEv (sel 0))),
      iOp (put 15) (.v false (oNilCheck (sel 14))),
      iOp (put 16) (.v false (oFieldAddr 2 (sel 15))),
      iOp (put 17) (.v true (oLoad1 (sel 16))),
      iOp (put 18) (.v true (oLoadN 2 (sel 6))),
      iOp (put 19) (.v true (oLookup (.agg [1, 1]) (.agg #[.int .u16 0, .bool false, .int .u32 0, .slice none 0 0]) true (sel 17) (sel 18))),
      iOp (put 13) (.v false (oEv (sel 19))),
      iOp (put 20) (.v false (oExtract (sel 13) 0)),
      iOp (put 21) (.v false (oExtract (sel 13) 1)),
      iOp (put 7) (.a (aAlloc 34 [.int .u16 0, .bool false, .int .u32 0, .slice none 0 0])),
      iOp ⟨fun _ a => a⟩ (.e (eStore 4 (sel 7) (sel 20))),
      iOp (put 8) (.v false (oEv (sel 21)))])
    (sBlock 0 (sSeq (sRegion [iOp (put 33) (.v false (oFieldAddr 1 (sel 4))),
        iOp (put 34) (.v true (oLoad1 (sel 33))),
        iOp (put 32) (.v false (oEv (sel 34)))])
      (sCond (sel 32)
        (sRegion [iOp (put 35) (.v false (oEv (sel 0))),
          iOp (put 36) (.v false (oEv (sel 0))),
          iOp (put 37) (.v false (oNilCheck (sel 36))),
          iOp (put 38) (.v false (oFieldAddr 3 (sel 37))),
          iOp (put 39) (.v true (oLoad1 (sel 38))),
          iOp (put 40) (.v true (oLoadN 4 (sel 4))),
          iOp (put 41) (.a (aBuildSlice 34 1 (rep 1 [.int .u16 0, .bool false, .int .u32 0, .slice none 0 0]) [(0, 4, (sel 40))])),
          iOp (put 42) (.e (eAppend 34 4 32 (sel 39) (sel 41))),
          iOp (put 43) (.v false (oNilCheck (sel 35))),
          iOp (put 44) (.v false (oFieldAddr 3 (sel 43))),
          iOp ⟨fun _ a => a⟩ (.e (eStore 1 (sel 44) (sel 42)))])
        (sSeq (sRegion [iOp (put 46) (.v false (oEv (sel 8))),
           iOp (put 47) (.v false (oEv (sel 46))),
           iGuard (sel 47) false (put 48) (iOp (put 48) (.v false (oEv (sel 2)))),
           iGuard (sel 47) false (put 49) (iOp (put 49) (.v false (oEv (sel 0)))),
           iGuard (sel 47) false (put 50) (iOp (put 50) (.v false (oNilCheck (sel 49)))),
           iGuard (sel 47) false (put 51) (iOp (put 51) (.v false (oFieldAddr 0 (sel 50)))),
           iGuard (sel 47) false (put 52) (iOp (put 52) (.v true (oLoad1 (sel 51)))),
           iGuard (sel 47) false (put 53) (iOp (put 53) (.v false (oFieldAddr 0 (sel 4)))),
           iGuard (sel 47) false (put 54) (iOp (put 54) (.v true (oLoad1 (sel 53)))),
           iGuard (sel 47) false (put 55) (iOp (put 55) (.v false (oIndexAddrS 1 (sel 52) (sel 54)))),
           iGuard (sel 47) false (put 56) (iOp (put 56) (.v true (oLoad1 (sel 55)))),
           iGuard (sel 47) false (put 57) (iOp (put 57) (.e (eCallF 115 [(sel 48), (sel 56)]))),
           iOp (put 58) (.v false (oPick (sel 47) ⟨fun _ => .bool true⟩ (sel 57))),
           iOp (put 45) (.v false (oEv (sel 58)))])
         (sCond (sel 45)
           (sRegion [iOp (put 59) (.v false (oEv (sel 0))),
             iOp (put 60) (.v false (oNilCheck (sel 59))),
             iOp (put 61) (.v false (oFieldAddr 4 (sel 60))),
             iOp (put 62) (.v true (oLoad1 (sel 61))),
             iOp (put 63) (.v false (oFieldAddr 3 (sel 4))),
             iOp (put 64) (.v true (oLoad1 (sel 63))),
             iOp (put 65) (.v false (oLenS (sel 64))),
             iOp (put 66) (.v false (oInt2 fSub (sel 62) (sel 65))),
             iOp (put 67) (.v false (oNilCheck (sel 59))),
             iOp (put 68) (.v false (oFieldAddr 4 (sel 67))),
             iOp ⟨fun _ a => a⟩ (.e (eStore 1 (sel 68) (sel 66)))])
           (sSeq (sRegion [iOp (put 22) (.v false (oEv (sel 0))),
              iOp (put 23) (.v false (oNilCheck (sel 22))),
              iOp (put 24) (.v false (oFieldAddr 2 (sel 23))),
              iOp (put 25) (.v true (oLoad1 (sel 24))),
              iOp (put 26) (.v true (oLoadN 2 (sel 6))),
              iOp (put 27) (.v true (oLoadN 4 (sel 4))),
              iOp ⟨fun _ a => a⟩ (.e (eMapUpdate (.agg [1, 1]) (sel 25) (sel 26) (sel 27)))])
            (sRegion [iOp (put 28) (.v false (oEv (sel 0))),
              iOp (put 29) (.v false (oFieldAddr 0 (sel 4))),
              iOp (put 30) (.v true (oLoad1 (sel 29))),
              iOp (put 31) (.e (eCallF 116 [(sel 28), (sel 30)]))])))))))))⟩
theorem d89 : denF Tryz.prog 89 = some c89 := denF_of (by kernel_rfl)
/-- (*bollard/sendq.Queue).reached -/
noncomputable def c91 : CF := ⟨32, [.tmp (sel 4), .tmp (sel 5)],
  sSeq (sRegion [iOp (put 4) (.v false (oEv ⟨fun _ => .int .i64 0⟩)),
    iOp (put 5) (.v false (oEv ⟨fun _ => .bool false⟩))])
  (sSeq (sRegion [iOp (put 7) (.v false (oEv (sel 0))),
     iOp (put 8) (.e (eCallF 111 [(sel 7)])),
     iOp (put 9) (.v false (oEv (sel 1))),
     iOp (put 10) (.e (eCallF 16 [(sel 8), (sel 9)])),
     iOp (put 11) (.v false (oConvInt .i64 (sel 10))),
     iOp (put 6) (.v false (oEv (sel 11)))])
   (sSeq (sSeq (sRegion [iOp (put 12) (.v false (oEv (sel 0))),
       iOp (put 13) (.v false (oEq (.one 3) (sel 12) ⟨fun _ => .pointer none⟩)),
       iOp (put 14) (.v false (oEv (sel 13))),
       iGuard (sel 14) false (put 15) (iOp (put 15) (.v false (oEv (sel 6)))),
       iGuard (sel 14) false (put 16) (iOp (put 16) (.v false (oEv (sel 0)))),
       iGuard (sel 14) false (put 17) (iOp (put 17) (.v false (oNilCheck (sel 16)))),
       iGuard (sel 14) false (put 18) (iOp (put 18) (.v false (oFieldAddr 0 (sel 17)))),
       iGuard (sel 14) false (put 19) (iOp (put 19) (.v true (oLoad1 (sel 18)))),
       iGuard (sel 14) false (put 20) (iOp (put 20) (.v false (oLenS (sel 19)))),
       iGuard (sel 14) false (put 21) (iOp (put 21) (.v false (oInt2 fGtr (sel 15) (sel 20)))),
       iOp (put 22) (.v false (oPick (sel 14) ⟨fun _ => .bool true⟩ (sel 21)))])
     (sCond (sel 22)
       (sSeq (sRegion [iOp (put 4) (.v false (oEv ⟨fun _ => .int .i64 0⟩)),
          iOp (put 5) (.v false (oEv ⟨fun _ => .bool false⟩))])
        (sEx .ret))
       (sEx .normal)))
    (sSeq (sRegion [iOp (put 23) (.v false (oEv (sel 6))),
       iOp (put 24) (.v false (oEv (sel 0))),
       iOp (put 25) (.v false (oNilCheck (sel 24))),
       iOp (put 26) (.v false (oFieldAddr 0 (sel 25))),
       iOp (put 27) (.v true (oLoad1 (sel 26))),
       iOp (put 28) (.v false (oEv (sel 6))),
       iOp (put 29) (.v false (oSlice 1 (sel 27) none (some (sel 28)) none)),
       iOp (put 30) (.e (eCallF 117 [(sel 29), ⟨fun _ => .func (.func 118) #[] #[]⟩])),
       iOp (put 31) (.v false (oNot (sel 30))),
       iOp (put 4) (.v false (oEv (sel 23))),
       iOp (put 5) (.v false (oEv (sel 31)))])
     (sEx .ret))))⟩
theorem d91 : denF Tryz.prog 91 = some c91 := denF_of (by kernel_rfl)
noncomputable def c92_0 : Vm.Sem := sSeq (sRegion [iOp (put 21) (.v false (oInt2 fLss (sel 20) (sel 19)))])
 (sSeq (sCond (sel 21)
    (sEx .normal)
    (sEx (.exit 0)))
  (sSeq (sBlock 1 (sSeq (sRegion [iOp (put 22) (.v false (oIndexAddrS 1 (sel 18) (sel 20))),
       iOp (put 23) (.v true (oLoad1 (sel 22))),
       iOp (put 9) (.v false (oEv (sel 23)))])
     (sSeq (sSeq (sRegion [iOp (put 24) (.v false (oEv (sel 9))),
         iOp (put 25) (.v false (oNilCheck (sel 24))),
         iOp (put 26) (.v false (oFieldAddr 13 (sel 25))),
         iOp (put 27) (.v true (oLoad1 (sel 26))),
         iOp (put 28) (.v false (oEq (.one 1) (sel 27) ⟨fun _ => .int .i64 3⟩)),
         iOp (put 29) (.v false (oEv (sel 28))),
         iGuard (sel 29) false (put 30) (iOp (put 30) (.v false (oEv (sel 9)))),
         iGuard (sel 29) false (put 31) (iOp (put 31) (.v false (oNilCheck (sel 30)))),
         iGuard (sel 29) false (put 32) (iOp (put 32) (.v false (oFieldAddr 13 (sel 31)))),
         iGuard (sel 29) false (put 33) (iOp (put 33) (.v true (oLoad1 (sel 32)))),
         iGuard (sel 29) false (put 34) (iOp (put 34) (.v false (oEq (.one 1) (sel 33) ⟨fun _ => .int .i64 4⟩))),
         iOp (put 35) (.v false (oPick (sel 29) ⟨fun _ => .bool true⟩ (sel 34)))])
       (sCond (sel 35)
         (sEx (.exit 1))
         (sEx .normal)))
      (sSeq (sDr [iOp (put 36) (.v false (oFieldAddr 0 (sel 7))),
         iOp (put 37) (.v true (oLoad1 (sel 36))),
         iOp (put 38) (.v false (oEv (sel 9))),
         iOp (put 39) (.e (eCallF 81 [(sel 38)])),
         iOp (put 40) (.v false (oInt2 fAdd (sel 37) (sel 39))),
         iOp (put 41) (.v false (oFieldAddr 0 (sel 7))),
         iOp ⟨fun _ a => a⟩ (.e (eStore 1 (sel 41) (sel 40)))]
         [(1, none, (oLoad1 (sel 36)), [0, 4])])
       (sSeq (sRegion [iOp (put 42) (.v false (oEv (sel 9))),
          iOp (put 43) (.v false (oNilCheck (sel 42))),
          iOp (put 44) (.v false (oFieldAddr 14 (sel 43))),
          iOp (put 45) (.v true (oLoad1 (sel 44))),
          iOp (put 46) (.v false (oEq (.one 1) (sel 45) ⟨fun _ => .int .i64 1⟩))])
        (sCond (sel 46)
          (sRegion [iOp (put 47) (.v false (oEv (sel 2))),
            iOp (put 48) (.v false (oEv (sel 9))),
            iOp (put 49) (.v false (oNilCheck (sel 48))),
            iOp (put 50) (.v false (oFieldAddr 15 (sel 49))),
            iOp (put 51) (.v true (oLoad1 (sel 50))),
            iOp (put 52) (.v false (oInt2 fSub (sel 47) (sel 51))),
            iOp (put 53) (.v false (oFieldAddr 1 (sel 7))),
            iOp ⟨fun _ a => a⟩ (.e (eStore 1 (sel 53) (sel 52)))])
          (sEx .normal)))))))
   (sRegion [iOp (put 54) (.v false (oInt2 fAdd (sel 20) ⟨fun _ => .int .i64 1⟩)),
     iOp (put 20) (.v false (oEv (sel 54)))])))
/-- (*bollard/sendq.Queue).drop -/
noncomputable def c92 : CF := ⟨66, [.agg (sel 6) 4],
  sSeq (sRegion [iOp (put 6) (.a (aAlloc 125 [.int .i64 0, .int .i64 0, .bool false, .bool false]))])
  (sSeq (sRegion [iOp (put 10) (.v false (oEv (sel 1))),
     iOp (put 11) (.v false (oInt2 fGtr (sel 10) ⟨fun _ => .int .i64 0⟩)),
     iOp (put 12) (.v false (oBuild [.int .i64 0, .int .i64 0, .bool false, .bool false] [(1, 1, ⟨fun _ => .int .i64 (-1)⟩), (3, 1, (sel 11))])),
     iOp (put 7) (.a (aAlloc 125 [.int .i64 0, .int .i64 0, .bool false, .bool false])),
     iOp ⟨fun _ a => a⟩ (.e (eStore 4 (sel 7) (sel 12)))])
   (sSeq (sSeq (sRegion [iOp (put 13) (.v false (oEv (sel 0))),
       iOp (put 14) (.v false (oNilCheck (sel 13))),
       iOp (put 15) (.v false (oFieldAddr 0 (sel 14))),
       iOp (put 16) (.v true (oLoad1 (sel 15))),
       iOp (put 17) (.v false (oEv (sel 1))),
       iOp (put 18) (.v false (oSlice 1 (sel 16) none (some (sel 17)) none)),
       iOp (put 19) (.v false (oLenS (sel 18))),
       iOp (put 20) (.v false (oEv ⟨fun _ => .int .i64 0⟩))])
     (sBlock 0 (sLoop c92_0)))
    (sSeq (sRegion [iOp (put 55) (.v false (oEv (sel 0))),
       iOp (put 56) (.v false (oEv (sel 0))),
       iOp (put 57) (.v false (oNilCheck (sel 56))),
       iOp (put 58) (.v false (oFieldAddr 0 (sel 57))),
       iOp (put 59) (.v true (oLoad1 (sel 58))),
       iOp (put 60) (.v false (oEv (sel 1))),
       iOp (put 61) (.v false (oSlice 1 (sel 59) (some (sel 60)) none none)),
       iOp (put 62) (.e (eCallF 119 [(sel 61)])),
       iOp (put 63) (.v false (oNilCheck (sel 55))),
       iOp (put 64) (.v false (oFieldAddr 0 (sel 63))),
       iOp ⟨fun _ a => a⟩ (.e (eStore 1 (sel 64) (sel 62)))])
     (sSeq (sRegion [iOp (put 65) (.v true (oLoadN 4 (sel 7))),
        iOp ⟨fun _ a => a⟩ (.e (eStore 4 (sel 6) (sel 65)))])
      (sEx .ret)))))⟩
theorem d92 : denF Tryz.prog 92 = some c92 := denF_of (by kernel_rfl)
noncomputable def c93_0 : Vm.Sem := sSeq (sRegion [iOp (put 17) (.v false (oInt2 fLss (sel 16) (sel 15)))])
 (sSeq (sCond (sel 17)
    (sEx .normal)
    (sEx (.exit 0)))
  (sSeq (sBlock 1 (sSeq (sRegion [iOp (put 18) (.v false (oEv (sel 16))),
       iOp (put 19) (.v false (oIndexAddrS 1 (sel 14) (sel 16))),
       iOp (put 20) (.v true (oLoad1 (sel 19))),
       iOp (put 8) (.v false (oEv (sel 18))),
       iOp (put 9) (.v false (oEv (sel 20)))])
     (sSeq (sRegion [iOp (put 21) (.v false (oEv (sel 1))),
        iOp (put 22) (.v false (oEv (sel 8))),
        iOp (put 23) (.v false (oInt2 fAdd (sel 22) ⟨fun _ => .int .i64 1⟩)),
        iOp (put 24) (.e (eCallF 120 [(sel 21), (sel 23)])),
        iOp (put 10) (.v false (oEv (sel 24)))])
      (sBlock 2 (sSeq (sRegion [iOp (put 26) (.v false (oEv (sel 10))),
          iOp (put 27) (.v false (oEv (sel 26))),
          iGuard (sel 27) true (put 28) (iOp (put 28) (.v false (oEv (sel 9)))),
          iGuard (sel 27) true (put 29) (iOp (put 29) (.v false (oNilCheck (sel 28)))),
          iGuard (sel 27) true (put 30) (iOp (put 30) (.v false (oFieldAddr 13 (sel 29)))),
          iGuard (sel 27) true (put 31) (iOp (put 31) (.v true (oLoad1 (sel 30)))),
          iGuard (sel 27) true (put 32) (iOp (put 32) (.v false (oEq (.one 1) (sel 31) ⟨fun _ => .int .i64 1⟩))),
          iGuard (sel 27) true (put 33) (iOp (put 33) (.v false (oEv (sel 32)))),
          iGuard (sel 33) false (put 34) (iOp (put 34) (.v false (oEv (sel 9)))),
          iGuard (sel 33) false (put 35) (iOp (put 35) (.v false (oNilCheck (sel 34)))),
          iGuard (sel 33) false (put 36) (iOp (put 36) (.v false (oFieldAddr 13 (sel 35)))),
          iGuard (sel 33) false (put 37) (iOp (put 37) (.v true (oLoad1 (sel 36)))),
          iGuard (sel 33) false (put 38) (iOp (put 38) (.v false (oEq (.one 1) (sel 37) ⟨fun _ => .int .i64 2⟩))),
          iGuard (sel 27) true (put 39) (iOp (put 39) (.v false (oPick (sel 33) ⟨fun _ => .bool true⟩ (sel 38)))),
          iOp (put 40) (.v false (oPick (sel 27) (sel 39) ⟨fun _ => .bool false⟩)),
          iOp (put 25) (.v false (oEv (sel 40)))])
        (sCond (sel 25)
          (sSeq (sRegion [iOp (put 41) (.v false (oEv (sel 9))),
             iOp (put 42) (.v false (oNilCheck (sel 41))),
             iOp (put 43) (.v false (oFieldAddr 13 (sel 42))),
             iOp ⟨fun _ a => a⟩ (.e (eStore 1 (sel 43) ⟨fun _ => .int .i64 3⟩))])
           (sSeq (sRegion [iOp (put 44) (.v false (oEv (sel 6))),
              iOp (put 45) (.v false (oEv (sel 9))),
              iOp (put 46) (.e (eCallF 81 [(sel 45)])),
              iOp (put 47) (.v false (oInt2 fAdd (sel 44) (sel 46))),
              iOp (put 6) (.v false (oEv (sel 47)))])
            (sRegion [iOp (put 48) (.v false (oEv (sel 8))),
              iOp (put 7) (.v false (oEv (sel 48)))])))
          (sSeq (sRegion [iOp (put 50) (.v false (oEv (sel 10))),
             iOp (put 51) (.v false (oNot (sel 50))),
             iOp (put 52) (.v false (oEv (sel 51))),
             iGuard (sel 52) true (put 53) (iOp (put 53) (.v false (oEv (sel 9)))),
             iGuard (sel 52) true (put 54) (iOp (put 54) (.v false (oNilCheck (sel 53)))),
             iGuard (sel 52) true (put 55) (iOp (put 55) (.v false (oFieldAddr 13 (sel 54)))),
             iGuard (sel 52) true (put 56) (iOp (put 56) (.v true (oLoad1 (sel 55)))),
             iGuard (sel 52) true (put 57) (iOp (put 57) (.v false (oEq (.one 1) (sel 56) ⟨fun _ => .int .i64 3⟩))),
             iOp (put 58) (.v false (oPick (sel 52) (sel 57) ⟨fun _ => .bool false⟩)),
             iOp (put 49) (.v false (oEv (sel 58)))])
           (sCond (sel 49)
             (sRegion [iOp (put 59) (.v false (oEv (sel 9))),
               iOp (put 60) (.v false (oEv (sel 9))),
               iOp (put 61) (.v false (oNilCheck (sel 59))),
               iOp (put 62) (.v false (oFieldAddr 13 (sel 61))),
               iOp ⟨fun _ a => a⟩ (.e (eStore 1 (sel 62) ⟨fun _ => .int .i64 1⟩)),
               iOp (put 63) (.v false (oNilCheck (sel 60))),
               iOp (put 64) (.v false (oFieldAddr 16 (sel 63))),
               iOp ⟨fun _ a => a⟩ (.e (eStore 1 (sel 64) ⟨fun _ => .int .i64 0⟩))])
             (sEx .normal)))))))))
   (sRegion [iOp (put 65) (.v false (oInt2 fAdd (sel 16) ⟨fun _ => .int .i64 1⟩)),
     iOp (put 16) (.v false (oEv (sel 65)))])))
/-- (*bollard/sendq.Queue).mark -/
noncomputable def c93 : CF := ⟨68, [.tmp (sel 4), .tmp (sel 5)],
  sSeq (sRegion [iOp (put 4) (.v false (oEv ⟨fun _ => .int .i64 0⟩)),
    iOp (put 5) (.v false (oEv ⟨fun _ => .int .i64 0⟩))])
  (sSeq (sRegion [iOp (put 6) (.v false (oEv ⟨fun _ => .int .i64 0⟩)),
     iOp (put 7) (.v false (oEv ⟨fun _ => .int .i64 0⟩))])
   (sSeq (sSeq (sRegion [iOp (put 11) (.v false (oEv (sel 0))),
       iOp (put 12) (.v false (oNilCheck (sel 11))),
       iOp (put 13) (.v false (oFieldAddr 0 (sel 12))),
       iOp (put 14) (.v true (oLoad1 (sel 13))),
       iOp (put 15) (.v false (oLenS (sel 14))),
       iOp (put 16) (.v false (oEv ⟨fun _ => .int .i64 0⟩))])
     (sBlock 0 (sLoop c93_0)))
    (sSeq (sRegion [iOp (put 66) (.v false (oEv (sel 6))),
       iOp (put 67) (.v false (oEv (sel 7))),
       iOp (put 4) (.v false (oEv (sel 66))),
       iOp (put 5) (.v false (oEv (sel 67)))])
     (sEx .ret))))⟩
theorem d93 : denF Tryz.prog 93 = some c93 := denF_of (by kernel_rfl)
noncomputable def c94_0 : Vm.Sem := sSeq (sRegion [iOp (put 9) (.v false (oInt2 fLss (sel 8) (sel 7)))])
 (sSeq (sCond (sel 9)
    (sEx .normal)
    (sEx (.exit 0)))
  (sSeq (sBlock 1 (sSeq (sRegion [iOp (put 10) (.v false (oIndexAddrS 1 (sel 6) (sel 8))),
       iOp (put 11) (.v true (oLoad1 (sel 10))),
       iOp (put 5) (.v false (oEv (sel 11)))])
     (sSeq (sSeq (sRegion [iOp (put 12) (.v false (oEv (sel 5))),
         iOp (put 13) (.v false (oNilCheck (sel 12))),
         iOp (put 14) (.v false (oFieldAddr 13 (sel 13))),
         iOp (put 15) (.v true (oLoad1 (sel 14))),
         iOp (put 16) (.v false (oNe (.one 1) (sel 15) ⟨fun _ => .int .i64 1⟩))])
       (sCond (sel 16)
         (sEx (.exit 1))
         (sEx .normal)))
      (sSeq (sRegion [iOp (put 17) (.v false (oEv (sel 5))),
         iOp (put 18) (.v false (oNilCheck (sel 17))),
         iOp (put 19) (.v false (oFieldAddr 16 (sel 18))),
         iOp (put 20) (.v true (oLoad1 (sel 19))),
         iOp (put 21) (.v false (oInt2 fAdd (sel 20) ⟨fun _ => .int .i64 1⟩)),
         iOp (put 22) (.v false (oNilCheck (sel 17))),
         iOp (put 23) (.v false (oFieldAddr 16 (sel 22))),
         iOp ⟨fun _ a => a⟩ (.e (eStore 1 (sel 23) (sel 21)))])
       (sSeq (sRegion [iOp (put 24) (.v false (oEv (sel 5))),
          iOp (put 25) (.v false (oNilCheck (sel 24))),
          iOp (put 26) (.v false (oFieldAddr 16 (sel 25))),
          iOp (put 27) (.v true (oLoad1 (sel 26))),
          iOp (put 28) (.v false (oInt2 fGeq (sel 27) ⟨fun _ => .int .i64 3⟩))])
        (sCond (sel 28)
          (sSeq (sRegion [iOp (put 29) (.v false (oEv (sel 5))),
             iOp (put 30) (.v false (oNilCheck (sel 29))),
             iOp (put 31) (.v false (oFieldAddr 13 (sel 30))),
             iOp ⟨fun _ a => a⟩ (.e (eStore 1 (sel 31) ⟨fun _ => .int .i64 2⟩))])
           (sRegion [iOp (put 3) (.v false (oEv ⟨fun _ => .bool true⟩))]))
          (sEx .normal)))))))
   (sRegion [iOp (put 32) (.v false (oInt2 fAdd (sel 8) ⟨fun _ => .int .i64 1⟩)),
     iOp (put 8) (.v false (oEv (sel 32)))])))
/-- bollard/sendq.miss -/
noncomputable def c94 : CF := ⟨34, [.tmp (sel 2)],
  sSeq (sRegion [iOp (put 2) (.v false (oEv ⟨fun _ => .bool false⟩))])
  (sSeq (sRegion [iOp (put 3) (.v false (oEv ⟨fun _ => .bool false⟩))])
   (sSeq (sSeq (sRegion [iOp (put 6) (.v false (oEv (sel 0))),
       iOp (put 7) (.v false (oLenS (sel 6))),
       iOp (put 8) (.v false (oEv ⟨fun _ => .int .i64 0⟩))])
     (sBlock 0 (sLoop c94_0)))
    (sSeq (sRegion [iOp (put 33) (.v false (oEv (sel 3))),
       iOp (put 2) (.v false (oEv (sel 33)))])
     (sEx .ret))))⟩
theorem d94 : denF Tryz.prog 94 = some c94 := denF_of (by kernel_rfl)
noncomputable def c104_0 : Vm.Sem := sSeq (sRegion [iOp (put 14) (.v false (oInt2 fLss (sel 13) (sel 12)))])
 (sSeq (sCond (sel 14)
    (sEx .normal)
    (sEx (.exit 0)))
  (sSeq (sBlock 1 (sSeq (sRegion [iOp (put 15) (.v false (oIndexAddrS 1 (sel 11) (sel 13))),
       iOp (put 16) (.v true (oLoad1 (sel 15))),
       iOp (put 5) (.v false (oEv (sel 16)))])
     (sSeq (sRegion [iOp (put 17) (.v true (oLoad1 (sel 2))),
        iOp (put 18) (.v false (oEv (sel 5))),
        iOp (put 19) (.v false (oNilCheck (sel 18))),
        iOp (put 20) (.v false (oFieldAddr 13 (sel 19))),
        iOp (put 21) (.v true (oLoad1 (sel 20))),
        iOp (put 22) (.e (eCallF 105 [(sel 17), (sel 21)])),
        iOp (put 23) (.v false (oEv (sel 22))),
        iGuard (sel 23) true (put 24) (iOp (put 24) (.v false (oEv (sel 0)))),
        iGuard (sel 23) true (put 25) (iOp (put 25) (.v false (oEv (sel 5)))),
        iGuard (sel 23) true (put 26) (iOp (put 26) (.e (eCall (sel 24) [(sel 25)]))),
        iGuard (sel 23) true (put 27) (iOp (put 27) (.v false (oNot (sel 26)))),
        iOp (put 28) (.v false (oPick (sel 23) (sel 27) ⟨fun _ => .bool false⟩))])
      (sCond (sel 28)
        (sEx .ret)
        (sEx .normal)))))
   (sRegion [iOp (put 29) (.v false (oInt2 fAdd (sel 13) ⟨fun _ => .int .i64 1⟩)),
     iOp (put 13) (.v false (oEv (sel 29)))])))
/-- (*bollard/sendq.Queue).in$1 -/
noncomputable def c104 : CF := ⟨30, [],
  sSeq (sSeq (sRegion [iOp (put 6) (.v true (oLoad1 (sel 1))),
     iOp (put 7) (.v false (oEq (.one 3) (sel 6) ⟨fun _ => .pointer none⟩))])
   (sCond (sel 7)
     (sEx .ret)
     (sEx .normal)))
  (sSeq (sRegion [iOp (put 8) (.v true (oLoad1 (sel 1))),
     iOp (put 9) (.v false (oNilCheck (sel 8))),
     iOp (put 10) (.v false (oFieldAddr 0 (sel 9))),
     iOp (put 11) (.v true (oLoad1 (sel 10))),
     iOp (put 12) (.v false (oLenS (sel 11))),
     iOp (put 13) (.v false (oEv ⟨fun _ => .int .i64 0⟩))])
   (sBlock 0 (sLoop c104_0)))⟩
theorem d104 : denF Tryz.prog 104 = some c104 := denF_of (by kernel_rfl)
/-- slices.Contains[[]int,int] -/
noncomputable def c105 : CF := ⟨9, [.tmp (sel 4)],
  sSeq (sRegion [iOp (put 4) (.v false (oEv ⟨fun _ => .bool false⟩))])
  (sSeq (sRegion [iOp (put 5) (.v false (oEv (sel 0))),
     iOp (put 6) (.v false (oEv (sel 1))),
     iOp (put 7) (.e (eCallF 126 [(sel 5), (sel 6)])),
     iOp (put 8) (.v false (oInt2 fGeq (sel 7) ⟨fun _ => .int .i64 0⟩)),
     iOp (put 4) (.v false (oEv (sel 8)))])
   (sEx .ret))⟩
theorem d105 : denF Tryz.prog 105 = some c105 := denF_of (by kernel_rfl)
/-- bollard/rto.between$1 -/
noncomputable def c107 : CF := ⟨10, [.tmp (sel 4)],
  sSeq (sRegion [iOp (put 4) (.v false (oEv ⟨fun _ => .int .i64 0⟩))])
  (sSeq (sRegion [iOp (put 5) (.v false (oEv (sel 0))),
     iOp (put 6) (.v true (oLoad1 (sel 1))),
     iOp (put 7) (.v false (oBest false (sel 5) [(sel 6)])),
     iOp (put 8) (.v true (oLoad1 (sel 2))),
     iOp (put 9) (.v false (oBest true (sel 7) [(sel 8)])),
     iOp (put 4) (.v false (oEv (sel 9)))])
   (sEx .ret))⟩
theorem d107 : denF Tryz.prog 107 = some c107 := denF_of (by kernel_rfl)
/-- (*bollard/sendq.Queue).done -/
noncomputable def c110 : CF := ⟨23, [.tmp (sel 2)],
  sSeq (sRegion [iOp (put 2) (.v false (oEv ⟨fun _ => .slice none 0 0⟩))])
  (sSeq (sSeq (sRegion [iOp (put 4) (.v false (oEv (sel 0))),
      iOp (put 5) (.v false (oEq (.one 3) (sel 4) ⟨fun _ => .pointer none⟩))])
    (sCond (sel 5)
      (sSeq (sRegion [iOp (put 2) (.v false (oEv ⟨fun _ => .slice none 0 0⟩))])
       (sEx .ret))
      (sEx .normal)))
   (sSeq (sRegion [iOp (put 6) (.v false (oEv (sel 0))),
      iOp (put 7) (.v false (oNilCheck (sel 6))),
      iOp (put 8) (.v false (oFieldAddr 0 (sel 7))),
      iOp (put 9) (.v true (oLoad1 (sel 8))),
      iOp (put 10) (.e (eCallF 138 [(sel 9), ⟨fun _ => .func (.func 139) #[] #[]⟩])),
      iOp (put 3) (.v false (oEv (sel 10)))])
    (sSeq (sSeq (sRegion [iOp (put 11) (.v false (oEv (sel 3))),
        iOp (put 12) (.v false (oInt2 fLss (sel 11) ⟨fun _ => .int .i64 0⟩))])
      (sCond (sel 12)
        (sSeq (sRegion [iOp (put 13) (.v false (oEv (sel 0))),
           iOp (put 14) (.v false (oNilCheck (sel 13))),
           iOp (put 15) (.v false (oFieldAddr 0 (sel 14))),
           iOp (put 16) (.v true (oLoad1 (sel 15))),
           iOp (put 2) (.v false (oEv (sel 16)))])
         (sEx .ret))
        (sEx .normal)))
     (sSeq (sRegion [iOp (put 17) (.v false (oEv (sel 0))),
        iOp (put 18) (.v false (oNilCheck (sel 17))),
        iOp (put 19) (.v false (oFieldAddr 0 (sel 18))),
        iOp (put 20) (.v true (oLoad1 (sel 19))),
        iOp (put 21) (.v false (oEv (sel 3))),
        iOp (put 22) (.v false (oSlice 1 (sel 20) none (some (sel 21)) none)),
        iOp (put 2) (.v false (oEv (sel 22)))])
      (sEx .ret)))))⟩
theorem d110 : denF Tryz.prog 110 = some c110 := denF_of (by kernel_rfl)
/-- (*bollard/sendq.Queue).Floor -/
noncomputable def c111 : CF := ⟨17, [.tmp (sel 2)],
  sSeq (sRegion [iOp (put 2) (.v false (oEv ⟨fun _ => .int .u32 0⟩))])
  (sSeq (sSeq (sRegion [iOp (put 3) (.v false (oEv (sel 0))),
      iOp (put 4) (.v false (oEq (.one 3) (sel 3) ⟨fun _ => .pointer none⟩))])
    (sCond (sel 4)
      (sSeq (sRegion [iOp (put 2) (.v false (oEv ⟨fun _ => .int .u32 0⟩))])
       (sEx .ret))
      (sEx .normal)))
   (sSeq (sRegion [iOp (put 5) (.v false (oEv (sel 0))),
      iOp (put 6) (.v false (oNilCheck (sel 5))),
      iOp (put 7) (.v false (oFieldAddr 1 (sel 6))),
      iOp (put 8) (.v true (oLoad1 (sel 7))),
      iOp (put 9) (.v false (oEv (sel 0))),
      iOp (put 10) (.v false (oNilCheck (sel 9))),
      iOp (put 11) (.v false (oFieldAddr 0 (sel 10))),
      iOp (put 12) (.v true (oLoad1 (sel 11))),
      iOp (put 13) (.v false (oLenS (sel 12))),
      iOp (put 14) (.v false (oConvInt .u32 (sel 13))),
      iOp (put 15) (.v false (oInt2 fSub (sel 8) (sel 14))),
      iOp (put 16) (.v false (oInt2 fSub (sel 15) ⟨fun _ => .int .u32 1⟩)),
      iOp (put 2) (.v false (oEv (sel 16)))])
    (sEx .ret)))⟩
theorem d111 : denF Tryz.prog 111 = some c111 := denF_of (by kernel_rfl)
/-- bollard/split.Follows -/
noncomputable def c114 : CF := ⟨67, [.tmp (sel 4)],
  sSeq (sRegion [iOp (put 2) (.a (aBox 42 (sel 0))),
    iOp (put 3) (.a (aBox 42 (sel 1))),
    iOp (put 4) (.v false (oEv ⟨fun _ => .bool false⟩))])
  (sSeq (sRegion [iOp (put 7) (.v false (oFieldAddr 0 (sel 2))),
     iOp (put 8) (.v true (oLoad1 (sel 7))),
     iOp (put 9) (.v false (oEq (.one 1) (sel 8) ⟨fun _ => .int .u8 0⟩)),
     iOp (put 10) (.v false (oEv (sel 9))),
     iGuard (sel 10) true (put 11) (iOp (put 11) (.v false (oFieldAddr 0 (sel 3)))),
     iGuard (sel 10) true (put 12) (iOp (put 12) (.v true (oLoad1 (sel 11)))),
     iGuard (sel 10) true (put 13) (iOp (put 13) (.v false (oEq (.one 1) (sel 12) ⟨fun _ => .int .u8 0⟩))),
     iOp (put 14) (.v false (oPick (sel 10) (sel 13) ⟨fun _ => .bool false⟩)),
     iOp (put 5) (.v false (oEv (sel 14)))])
   (sSeq (sRegion [iOp (put 15) (.v false (oFieldAddr 4 (sel 2))),
      iOp (put 16) (.v true (oLoad1 (sel 15))),
      iOp (put 17) (.v false (oFieldAddr 4 (sel 3))),
      iOp (put 18) (.v true (oLoad1 (sel 17))),
      iOp (put 19) (.v false (oEq (.one 1) (sel 16) (sel 18))),
      iOp (put 20) (.v false (oEv (sel 19))),
      iGuard (sel 20) true (put 21) (iOp (put 21) (.v false (oFieldAddr 5 (sel 2)))),
      iGuard (sel 20) true (put 22) (iOp (put 22) (.v true (oLoad1 (sel 21)))),
      iGuard (sel 20) true (put 23) (iOp (put 23) (.v false (oFieldAddr 5 (sel 3)))),
      iGuard (sel 20) true (put 24) (iOp (put 24) (.v true (oLoad1 (sel 23)))),
      iGuard (sel 20) true (put 25) (iOp (put 25) (.v false (oEq (.one 1) (sel 22) (sel 24)))),
      iOp (put 26) (.v false (oPick (sel 20) (sel 25) ⟨fun _ => .bool false⟩)),
      iOp (put 27) (.v false (oEv (sel 26))),
      iGuard (sel 27) true (put 28) (iOp (put 28) (.v false (oFieldAddr 6 (sel 2)))),
      iGuard (sel 27) true (put 29) (iOp (put 29) (.v true (oLoad1 (sel 28)))),
      iGuard (sel 27) true (put 30) (iOp (put 30) (.v false (oFieldAddr 6 (sel 3)))),
      iGuard (sel 27) true (put 31) (iOp (put 31) (.v true (oLoad1 (sel 30)))),
      iGuard (sel 27) true (put 32) (iOp (put 32) (.v false (oEq (.one 1) (sel 29) (sel 31)))),
      iOp (put 33) (.v false (oPick (sel 27) (sel 32) ⟨fun _ => .bool false⟩)),
      iOp (put 34) (.v false (oEv (sel 33))),
      iGuard (sel 34) true (put 35) (iOp (put 35) (.v false (oFieldAddr 1 (sel 2)))),
      iGuard (sel 34) true (put 36) (iOp (put 36) (.v true (oLoad1 (sel 35)))),
      iGuard (sel 34) true (put 37) (iOp (put 37) (.v false (oFieldAddr 1 (sel 3)))),
      iGuard (sel 34) true (put 38) (iOp (put 38) (.v true (oLoad1 (sel 37)))),
      iGuard (sel 34) true (put 39) (iOp (put 39) (.v false (oInt2 fXor (sel 36) (sel 38)))),
      iGuard (sel 34) true (put 40) (iOp (put 40) (.v false (oInt2 fAnd (sel 39) ⟨fun _ => .int .u8 4⟩))),
      iGuard (sel 34) true (put 41) (iOp (put 41) (.v false (oEq (.one 1) (sel 40) ⟨fun _ => .int .u8 0⟩))),
      iOp (put 42) (.v false (oPick (sel 34) (sel 41) ⟨fun _ => .bool false⟩)),
      iOp (put 6) (.v false (oEv (sel 42)))])
    (sSeq (sRegion [iOp (put 43) (.v false (oEv (sel 5))),
       iOp (put 44) (.v false (oEv (sel 43))),
       iGuard (sel 44) true (put 45) (iOp (put 45) (.v false (oEv (sel 6)))),
       iOp (put 46) (.v false (oPick (sel 44) (sel 45) ⟨fun _ => .bool false⟩)),
       iOp (put 47) (.v false (oEv (sel 46))),
       iGuard (sel 47) true (put 48) (iOp (put 48) (.v false (oFieldAddr 2 (sel 3)))),
       iGuard (sel 47) true (put 49) (iOp (put 49) (.v true (oLoad1 (sel 48)))),
       iGuard (sel 47) true (put 50) (iOp (put 50) (.v false (oFieldAddr 2 (sel 2)))),
       iGuard (sel 47) true (put 51) (iOp (put 51) (.v true (oLoad1 (sel 50)))),
       iGuard (sel 47) true (put 52) (iOp (put 52) (.v false (oInt2 fAdd (sel 51) ⟨fun _ => .int .u32 1⟩))),
       iGuard (sel 47) true (put 53) (iOp (put 53) (.v false (oEq (.one 1) (sel 49) (sel 52)))),
       iOp (put 54) (.v false (oPick (sel 47) (sel 53) ⟨fun _ => .bool false⟩)),
       iOp (put 55) (.v false (oEv (sel 54))),
       iGuard (sel 55) true (put 56) (iOp (put 56) (.v false (oFieldAddr 1 (sel 2)))),
       iGuard (sel 55) true (put 57) (iOp (put 57) (.v true (oLoad1 (sel 56)))),
       iGuard (sel 55) true (put 58) (iOp (put 58) (.v false (oInt2 fAnd (sel 57) ⟨fun _ => .int .u8 1⟩))),
       iGuard (sel 55) true (put 59) (iOp (put 59) (.v false (oEq (.one 1) (sel 58) ⟨fun _ => .int .u8 0⟩))),
       iOp (put 60) (.v false (oPick (sel 55) (sel 59) ⟨fun _ => .bool false⟩)),
       iOp (put 61) (.v false (oEv (sel 60))),
       iGuard (sel 61) true (put 62) (iOp (put 62) (.v false (oFieldAddr 1 (sel 3)))),
       iGuard (sel 61) true (put 63) (iOp (put 63) (.v true (oLoad1 (sel 62)))),
       iGuard (sel 61) true (put 64) (iOp (put 64) (.v false (oInt2 fAnd (sel 63) ⟨fun _ => .int .u8 2⟩))),
       iGuard (sel 61) true (put 65) (iOp (put 65) (.v false (oEq (.one 1) (sel 64) ⟨fun _ => .int .u8 0⟩))),
       iOp (put 66) (.v false (oPick (sel 61) (sel 65) ⟨fun _ => .bool false⟩)),
       iOp (put 4) (.v false (oEv (sel 66)))])
     (sEx .ret))))⟩
theorem d114 : denF Tryz.prog 114 = some c114 := denF_of (by kernel_rfl)
/-- bollard/serial.Less16 -/
noncomputable def c115 : CF := ⟨8, [.tmp (sel 4)],
  sSeq (sRegion [iOp (put 4) (.v false (oEv ⟨fun _ => .bool false⟩))])
  (sSeq (sRegion [iOp (put 5) (.v false (oEv (sel 0))),
     iOp (put 6) (.v false (oEv (sel 1))),
     iOp (put 7) (.e (eCallF 140 [(sel 5), (sel 6)])),
     iOp (put 4) (.v false (oEv (sel 7)))])
   (sEx .ret))⟩
theorem d115 : denF Tryz.prog 115 = some c115 := denF_of (by kernel_rfl)
noncomputable def c116_0 : Vm.Sem := sSeq (sSeq (sRegion [iOp (put 4) (.v false (oEv (sel 0))),
    iOp (put 5) (.v false (oEv (sel 1))),
    iOp (put 6) (.v false (oEv (sel 0))),
    iOp (put 7) (.v false (oNilCheck (sel 6))),
    iOp (put 8) (.v false (oFieldAddr 0 (sel 7))),
    iOp (put 9) (.v true (oLoad1 (sel 8))),
    iOp (put 10) (.v false (oEv (sel 1))),
    iOp (put 11) (.v false (oIndexAddrS 1 (sel 9) (sel 10))),
    iOp (put 12) (.v true (oLoad1 (sel 11))),
    iOp (put 13) (.v false (oBuild [.int .u16 0, .int .u16 0] [(0, 1, (sel 5)), (1, 1, (sel 12))])),
    iOp (put 14) (.e (eCallF 125 [(sel 4), (sel 13)]))])
  (sCond (sel 14)
    (sEx .normal)
    (sEx (.exit 0))))
 (sBlock 1 (sRegion [iOp (put 15) (.v false (oEv (sel 0))),
    iOp (put 16) (.v false (oNilCheck (sel 15))),
    iOp (put 17) (.v false (oFieldAddr 0 (sel 16))),
    iOp (put 18) (.v true (oLoad1 (sel 17))),
    iOp (put 19) (.v false (oEv (sel 1))),
    iOp (put 20) (.v false (oIndexAddrS 1 (sel 18) (sel 19))),
    iOp (put 21) (.v true (oLoad1 (sel 20))),
    iOp (put 22) (.v false (oInt2 fAdd (sel 21) ⟨fun _ => .int .u16 1⟩)),
    iOp (put 23) (.v false (oIndexAddrS 1 (sel 18) (sel 19))),
    iOp ⟨fun _ a => a⟩ (.e (eStore 1 (sel 23) (sel 22)))]))
/-- (*bollard/join.Join).tell -/
noncomputable def c116 : CF := ⟨24, [],
  sBlock 0 (sLoop c116_0)⟩
theorem d116 : denF Tryz.prog 116 = some c116 := denF_of (by kernel_rfl)
/-- slices.ContainsFunc[[]*bollard/sendq.entry,*bollard/sendq.entry] -/
noncomputable def c117 : CF := ⟨9, [.tmp (sel 4)],
  sSeq (sRegion [iOp (put 4) (.v false (oEv ⟨fun _ => .bool false⟩))])
  (sSeq (sRegion [iOp (put 5) (.v false (oEv (sel 0))),
     iOp (put 6) (.v false (oEv (sel 1))),
     iOp (put 7) (.e (eCallF 138 [(sel 5), (sel 6)])),
     iOp (put 8) (.v false (oInt2 fGeq (sel 7) ⟨fun _ => .int .i64 0⟩)),
     iOp (put 4) (.v false (oEv (sel 8)))])
   (sEx .ret))⟩
theorem d117 : denF Tryz.prog 117 = some c117 := denF_of (by kernel_rfl)
/-- (*bollard/sendq.Queue).reached$1 -/
noncomputable def c118 : CF := ⟨8, [.tmp (sel 2)],
  sSeq (sRegion [iOp (put 2) (.v false (oEv ⟨fun _ => .bool false⟩))])
  (sSeq (sRegion [iOp (put 3) (.v false (oEv (sel 0))),
     iOp (put 4) (.v false (oNilCheck (sel 3))),
     iOp (put 5) (.v false (oFieldAddr 13 (sel 4))),
     iOp (put 6) (.v true (oLoad1 (sel 5))),
     iOp (put 7) (.v false (oEq (.one 1) (sel 6) ⟨fun _ => .int .i64 0⟩)),
     iOp (put 2) (.v false (oEv (sel 7)))])
   (sEx .ret))⟩
theorem d118 : denF Tryz.prog 118 = some c118 := denF_of (by kernel_rfl)
/-- slices.Clone[[]*bollard/sendq.entry,*bollard/sendq.entry] -/
noncomputable def c119 : CF := ⟨8, [.tmp (sel 2)],
  sSeq (sRegion [iOp (put 2) (.v false (oEv ⟨fun _ => .slice none 0 0⟩))])
  (sSeq (sSeq (sRegion [iOp (put 3) (.v false (oEv (sel 0))),
      iOp (put 4) (.v false (oEq (.one 4) (sel 3) ⟨fun _ => .slice none 0 0⟩))])
    (sCond (sel 4)
      (sSeq (sRegion [iOp (put 2) (.v false (oEv ⟨fun _ => .slice none 0 0⟩))])
       (sEx .ret))
      (sEx .normal)))
   (sSeq (sRegion [iOp (put 5) (.a (aBuildSlice 113 0 (rep 0 [.pointer none]) [])),
      iOp (put 6) (.v false (oEv (sel 0))),
      iOp (put 7) (.e (eAppend 113 1 8 (sel 5) (sel 6))),
      iOp (put 2) (.v false (oEv (sel 7)))])
    (sEx .ret)))⟩
theorem d119 : denF Tryz.prog 119 = some c119 := denF_of (by kernel_rfl)
/-- (*bollard/join.Join).pull -/
noncomputable def c125 : CF := ⟨33, [.tmp (sel 4)],
  sSeq (sRegion [iOp (put 3) (.a (aBox 136 (sel 1))),
    iOp (put 4) (.v false (oEv ⟨fun _ => .bool false⟩))])
  (sSeq (sRegion [iOp (put 8) (.v false (oEv (sel 0))),
     iOp (put 9) (.v false (oNilCheck (sel 8))),
     iOp (put 10) (.v false (oFieldAddr 2 (sel 9))),
     iOp (put 11) (.v true (oLoad1 (sel 10))),
     iOp (put 12) (.v true (oLoadN 2 (sel 3))),
     iOp (put 13) (.v true (oLookup (.agg [1, 1]) (.agg #[.int .u16 0, .bool false, .int .u32 0, .slice none 0 0]) true (sel 11) (sel 12))),
     iOp (put 7) (.v false (oEv (sel 13))),
     iOp (put 14) (.v false (oExtract (sel 7) 0)),
     iOp (put 15) (.v false (oExtract (sel 7) 1)),
     iOp (put 5) (.a (aAlloc 34 [.int .u16 0, .bool false, .int .u32 0, .slice none 0 0])),
     iOp ⟨fun _ a => a⟩ (.e (eStore 4 (sel 5) (sel 14))),
     iOp (put 6) (.v false (oEv (sel 15)))])
   (sSeq (sSeq (sRegion [iOp (put 16) (.v false (oEv (sel 6)))])
     (sCond (sel 16)
       (sSeq (sRegion [iOp (put 17) (.v false (oEv (sel 0))),
          iOp (put 18) (.v false (oEv (sel 0))),
          iOp (put 19) (.v false (oNilCheck (sel 18))),
          iOp (put 20) (.v false (oFieldAddr 3 (sel 19))),
          iOp (put 21) (.v true (oLoad1 (sel 20))),
          iOp (put 22) (.v true (oLoadN 4 (sel 5))),
          iOp (put 23) (.a (aBuildSlice 34 1 (rep 1 [.int .u16 0, .bool false, .int .u32 0, .slice none 0 0]) [(0, 4, (sel 22))])),
          iOp (put 24) (.e (eAppend 34 4 32 (sel 21) (sel 23))),
          iOp (put 25) (.v false (oNilCheck (sel 17))),
          iOp (put 26) (.v false (oFieldAddr 3 (sel 25))),
          iOp ⟨fun _ a => a⟩ (.e (eStore 1 (sel 26) (sel 24)))])
        (sRegion [iOp (put 27) (.v false (oEv (sel 0))),
          iOp (put 28) (.v false (oNilCheck (sel 27))),
          iOp (put 29) (.v false (oFieldAddr 2 (sel 28))),
          iOp (put 30) (.v true (oLoad1 (sel 29))),
          iOp (put 31) (.v true (oLoadN 2 (sel 3))),
          iOp ⟨fun _ a => a⟩ (.e (eDelete (.agg [1, 1]) (sel 30) (sel 31)))]))
       (sEx .normal)))
    (sSeq (sRegion [iOp (put 32) (.v false (oEv (sel 6))),
       iOp (put 4) (.v false (oEv (sel 32)))])
     (sEx .ret))))⟩
theorem d125 : denF Tryz.prog 125 = some c125 := denF_of (by kernel_rfl)
noncomputable def c126_0 : Vm.Sem := sSeq (sRegion [iOp (put 9) (.v false (oInt2 fLss (sel 8) (sel 7)))])
 (sSeq (sCond (sel 9)
    (sEx .normal)
    (sEx (.exit 0)))
  (sSeq (sBlock 1 (sSeq (sRegion [iOp (put 10) (.v false (oEv (sel 8))),
       iOp (put 5) (.v false (oEv (sel 10)))])
     (sSeq (sRegion [iOp (put 11) (.v false (oEv (sel 1))),
        iOp (put 12) (.v false (oEv (sel 0))),
        iOp (put 13) (.v false (oEv (sel 5))),
        iOp (put 14) (.v false (oIndexAddrS 1 (sel 12) (sel 13))),
        iOp (put 15) (.v true (oLoad1 (sel 14))),
        iOp (put 16) (.v false (oEq (.one 1) (sel 11) (sel 15)))])
      (sCond (sel 16)
        (sSeq (sRegion [iOp (put 17) (.v false (oEv (sel 5))),
           iOp (put 4) (.v false (oEv (sel 17)))])
         (sEx .ret))
        (sEx .normal)))))
   (sRegion [iOp (put 18) (.v false (oInt2 fAdd (sel 8) ⟨fun _ => .int .i64 1⟩)),
     iOp (put 8) (.v false (oEv (sel 18)))])))
/-- slices.Index[[]int,int] -/
noncomputable def c126 : CF := ⟨19, [.tmp (sel 4)],
  sSeq (sRegion [iOp (put 4) (.v false (oEv ⟨fun _ => .int .i64 0⟩))])
  (sSeq (sSeq (sRegion [iOp (put 6) (.v false (oEv (sel 0))),
      iOp (put 7) (.v false (oLenS (sel 6))),
      iOp (put 8) (.v false (oEv ⟨fun _ => .int .i64 0⟩))])
    (sBlock 0 (sLoop c126_0)))
   (sSeq (sRegion [iOp (put 4) (.v false (oEv ⟨fun _ => .int .i64 (-1)⟩))])
    (sEx .ret)))⟩
theorem d126 : denF Tryz.prog 126 = some c126 := denF_of (by kernel_rfl)
noncomputable def c138_0 : Vm.Sem := sSeq (sRegion [iOp (put 9) (.v false (oInt2 fLss (sel 8) (sel 7)))])
 (sSeq (sCond (sel 9)
    (sEx .normal)
    (sEx (.exit 0)))
  (sSeq (sBlock 1 (sSeq (sRegion [iOp (put 10) (.v false (oEv (sel 8))),
       iOp (put 5) (.v false (oEv (sel 10)))])
     (sSeq (sRegion [iOp (put 11) (.v false (oEv (sel 1))),
        iOp (put 12) (.v false (oEv (sel 0))),
        iOp (put 13) (.v false (oEv (sel 5))),
        iOp (put 14) (.v false (oIndexAddrS 1 (sel 12) (sel 13))),
        iOp (put 15) (.v true (oLoad1 (sel 14))),
        iOp (put 16) (.e (eCall (sel 11) [(sel 15)]))])
      (sCond (sel 16)
        (sSeq (sRegion [iOp (put 17) (.v false (oEv (sel 5))),
           iOp (put 4) (.v false (oEv (sel 17)))])
         (sEx .ret))
        (sEx .normal)))))
   (sRegion [iOp (put 18) (.v false (oInt2 fAdd (sel 8) ⟨fun _ => .int .i64 1⟩)),
     iOp (put 8) (.v false (oEv (sel 18)))])))
/-- slices.IndexFunc[[]*bollard/sendq.entry,*bollard/sendq.entry] -/
noncomputable def c138 : CF := ⟨19, [.tmp (sel 4)],
  sSeq (sRegion [iOp (put 4) (.v false (oEv ⟨fun _ => .int .i64 0⟩))])
  (sSeq (sSeq (sRegion [iOp (put 6) (.v false (oEv (sel 0))),
      iOp (put 7) (.v false (oLenS (sel 6))),
      iOp (put 8) (.v false (oEv ⟨fun _ => .int .i64 0⟩))])
    (sBlock 0 (sLoop c138_0)))
   (sSeq (sRegion [iOp (put 4) (.v false (oEv ⟨fun _ => .int .i64 (-1)⟩))])
    (sEx .ret)))⟩
theorem d138 : denF Tryz.prog 138 = some c138 := denF_of (by kernel_rfl)
/-- (*bollard/sendq.Queue).done$1 -/
noncomputable def c139 : CF := ⟨8, [.tmp (sel 2)],
  sSeq (sRegion [iOp (put 2) (.v false (oEv ⟨fun _ => .bool false⟩))])
  (sSeq (sRegion [iOp (put 3) (.v false (oEv (sel 0))),
     iOp (put 4) (.v false (oNilCheck (sel 3))),
     iOp (put 5) (.v false (oFieldAddr 13 (sel 4))),
     iOp (put 6) (.v true (oLoad1 (sel 5))),
     iOp (put 7) (.v false (oInt2 fLss (sel 6) ⟨fun _ => .int .i64 3⟩)),
     iOp (put 2) (.v false (oEv (sel 7)))])
   (sEx .ret))⟩
theorem d139 : denF Tryz.prog 139 = some c139 := denF_of (by kernel_rfl)
/-- bollard/serial.less[uint16] -/
noncomputable def c140 : CF := ⟨18, [.tmp (sel 4)],
  sSeq (sRegion [iOp (put 4) (.v false (oEv ⟨fun _ => .bool false⟩))])
  (sSeq (sRegion [iOp (put 6) (.v false (oEv (sel 1))),
     iOp (put 7) (.v false (oEv (sel 0))),
     iOp (put 8) (.v false (oInt2 fSub (sel 6) (sel 7))),
     iOp (put 5) (.v false (oEv (sel 8)))])
   (sSeq (sRegion [iOp (put 9) (.v false (oEv (sel 5))),
      iOp (put 10) (.v false (oNe (.one 1) (sel 9) ⟨fun _ => .int .u16 0⟩)),
      iOp (put 11) (.v false (oEv (sel 10))),
      iGuard (sel 11) true (put 12) (iOp (put 12) (.v false (oEv (sel 5)))),
      iGuard (sel 11) true (put 13) (iOp (put 13) (.v false (oConvInt .u16 ⟨fun _ => .int .i64 0⟩))),
      iGuard (sel 11) true (put 14) (iOp (put 14) (.v false (oCom (sel 13)))),
      iGuard (sel 11) true (put 15) (iOp (put 15) (.v false (oSh fShr (sel 14) ⟨fun _ => .int .u64 1⟩))),
      iGuard (sel 11) true (put 16) (iOp (put 16) (.v false (oInt2 fLeq (sel 12) (sel 15)))),
      iOp (put 17) (.v false (oPick (sel 11) (sel 16) ⟨fun _ => .bool false⟩)),
      iOp (put 4) (.v false (oEv (sel 17)))])
    (sEx .ret)))⟩
theorem d140 : denF Tryz.prog 140 = some c140 := denF_of (by kernel_rfl)
end Go.Proofs.YtmlagbknnngjjaaGreat

/-! The law awake, by one computation of the kernel. -/
namespace Go.Proofs.YtmlagbknnngjjaaGreat
open Go Vm
abbrev G0 : Sums := oneSum 7
theorem mixed : Tryz.prog.follows .mixedOrders = true := by kernel_rfl
theorem awakeSays : Vm.says Tryz.prog (fun _ => none) 400 7 [] = true := by kernel_rfl
theorem sumsAwake (B : Nat) : SumsOK Tryz.prog B G0 := sums_one (enters_of (by kernel_rfl)) (fun w => Vm.says_true mixed awakeSays w) B
theorem own : ownKnob Tryz.prog.godebug = none := by kernel_rfl
theorem laidOut : laidOutB Tryz.prog = true := by kernel_rfl
end Go.Proofs.YtmlagbknnngjjaaGreat

