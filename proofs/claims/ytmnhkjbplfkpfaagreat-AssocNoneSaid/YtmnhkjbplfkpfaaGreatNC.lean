/- Part of a proof by an abstract run of the program's code: NC. No condition. -/
import Derived.Test.YtmnhkjbplfkpfaaGreatChecked
import Derived.Test.YtmnhkjbplfkpfaaGreatVmD
namespace Go.Proofs.YtmnhkjbplfkpfaaGreat
open Go Vm
/-- bollard/bollardlaw17.AssocNone -/
noncomputable def c8 : CF := ⟨128, [.tmp (sel 8)],
  sSeq (sRegion [iOp (put 5) (.a (aBox 63 (sel 1))),
    iOp (put 8) (.v false (oEv ⟨fun _ => .bool false⟩))])
  (sSeq (sRegion [iOp (put 15) (.e (eCallF 9 [])),
     iOp (put 9) (.v false (oEv (sel 15)))])
   (sSeq (sSeq (sRegion [iOp (put 16) (.v false (oEv (sel 0))),
       iOp (put 17) (.v false (oLenS (sel 16))),
       iOp (put 18) (.v false (oInt2 fGtr (sel 17) ⟨fun _ => .int .i64 2000⟩)),
       iOp (put 19) (.v false (oEv (sel 18))),
       iGuard (sel 19) false (put 20) (iOp (put 20) (.v false (oFieldAddr 3 (sel 5)))),
       iGuard (sel 19) false (put 21) (iOp (put 21) (.v true (oLoad1 (sel 20)))),
       iGuard (sel 19) false (put 22) (iOp (put 22) (.v false (oLenS (sel 21)))),
       iGuard (sel 19) false (put 23) (iOp (put 23) (.v false (oInt2 fGtr (sel 22) ⟨fun _ => .int .i64 2000⟩))),
       iOp (put 24) (.v false (oPick (sel 19) ⟨fun _ => .bool true⟩ (sel 23)))])
     (sCond (sel 24)
       (sSeq (sRegion [iOp (put 25) (.v false (oEv (sel 9))),
          iOp (put 8) (.v false (oEv (sel 25)))])
        (sEx .ret))
       (sEx .normal)))
    (sSeq (sRegion [iOp (put 10) (.v false (oEv ⟨fun _ => .pointer none⟩))])
     (sSeq (sRegion [iOp (put 27) (.v false (oEv (sel 10))),
        iOp (put 28) (.v false (oEv (sel 0))),
        iOp (put 29) (.v false (oEv (sel 2))),
        iOp (put 30) (.v false (oEv (sel 3))),
        iOp (put 31) (.e (eCallF 16 [(sel 27), (sel 28), (sel 29), (sel 30)])),
        iOp (put 26) (.v false (oEv (sel 31))),
        iOp (put 32) (.v false (oExtract (sel 26) 0)),
        iOp (put 33) (.v false (oExtract (sel 26) 1)),
        iOp (put 11) (.v false (oEv (sel 32))),
        iOp (put 12) (.v false (oEv (sel 33)))])
      (sSeq (sRegion [iOp (put 34) (.v false (oEv (sel 10))),
         iOp (put 35) (.v false (oEv (sel 2))),
         iOp (put 36) (.e (eCallF 13 [(sel 34), (sel 35)]))])
       (sSeq (sRegion [iOp (put 38) (.v false (oEv (sel 10))),
          iOp (put 39) (.e (eCallF 17 [(sel 38)])),
          iOp (put 37) (.v false (oEv (sel 39))),
          iOp (put 40) (.v false (oExtract (sel 37) 0)),
          iOp (put 41) (.v false (oExtract (sel 37) 1)),
          iOp (put 13) (.v false (oEv (sel 40))),
          iOp (put 14) (.v false (oEv (sel 41)))])
        (sSeq (sRegion [iOp (put 42) (.v false (oEv (sel 9))),
           iOp (put 43) (.v false (oEv (sel 42))),
           iGuard (sel 43) true (put 44) (iOp (put 44) (.v false (oEv (sel 10)))),
           iGuard (sel 43) true (put 45) (iOp (put 45) (.v false (oEv (sel 2)))),
           iGuard (sel 43) true (put 46) (iOp (put 46) (.v false (oEv (sel 3)))),
           iGuard (sel 43) true (put 47) (iOp (put 47) (.e (eCallF 11 [(sel 44), (sel 45), (sel 46)]))),
           iGuard (sel 43) true (put 48) (iOp (put 48) (.v false (oEq (.one 1) (sel 47) ⟨fun _ => .int .i64 1⟩))),
           iOp (put 49) (.v false (oPick (sel 43) (sel 48) ⟨fun _ => .bool false⟩)),
           iOp (put 50) (.v false (oEv (sel 49))),
           iGuard (sel 50) true (put 51) (iOp (put 51) (.v false (oEv (sel 11)))),
           iGuard (sel 50) true (put 52) (iOp (put 52) (.v false (oLenS (sel 51)))),
           iGuard (sel 50) true (put 53) (iOp (put 53) (.v false (oEq (.one 1) (sel 52) ⟨fun _ => .int .i64 0⟩))),
           iOp (put 54) (.v false (oPick (sel 50) (sel 53) ⟨fun _ => .bool false⟩)),
           iOp (put 55) (.v false (oEv (sel 54))),
           iGuard (sel 55) true (put 56) (iOp (put 56) (.v false (oEv (sel 12)))),
           iGuard (sel 55) true (put 57) (iOp (put 57) (.v false (oEq (.one 1) (sel 56) ⟨fun _ => .int .i64 1⟩))),
           iOp (put 58) (.v false (oPick (sel 55) (sel 57) ⟨fun _ => .bool false⟩)),
           iOp (put 59) (.v false (oEv (sel 58))),
           iGuard (sel 59) true (put 60) (iOp (put 60) (.v false (oEv (sel 10)))),
           iGuard (sel 59) true (put 61) (iOp (put 61) (.v false (oEv (sel 2)))),
           iGuard (sel 59) true (put 62) (iOp (put 62) (.e (eCallF 12 [(sel 60), (sel 61)]))),
           iGuard (sel 59) true (put 63) (iOp (put 63) (.v false (oLenS (sel 62)))),
           iGuard (sel 59) true (put 64) (iOp (put 64) (.v false (oEq (.one 1) (sel 63) ⟨fun _ => .int .i64 0⟩))),
           iOp (put 65) (.v false (oPick (sel 59) (sel 64) ⟨fun _ => .bool false⟩)),
           iOp (put 66) (.v false (oEv (sel 65))),
           iGuard (sel 66) true (put 67) (iOp (put 67) (.v false (oEv (sel 10)))),
           iGuard (sel 66) true (put 68) (iOp (put 68) (.v true (oLoadN 4 (sel 5)))),
           iGuard (sel 66) true (put 69) (iOp (put 69) (.v false (oEv (sel 2)))),
           iGuard (sel 66) true (put 70) (iOp (put 70) (.v false (oEv (sel 2)))),
           iGuard (sel 66) true (put 71) (iOp (put 71) (.v false (oEv (sel 2)))),
           iGuard (sel 66) true (put 72) (iOp (put 72) (.e (eCallF 24 [(sel 67), (sel 68), (sel 69), (sel 70), (sel 71)]))),
           iGuard (sel 66) true (put 73) (iOp (put 73) (.v false (oEq (.one 1) (sel 72) ⟨fun _ => .int .i64 1⟩))),
           iOp (put 74) (.v false (oPick (sel 66) (sel 73) ⟨fun _ => .bool false⟩)),
           iOp (put 75) (.v false (oEv (sel 74))),
           iGuard (sel 75) true (put 76) (iOp (put 76) (.v false (oEv (sel 10)))),
           iGuard (sel 75) true (put 77) (iOp (put 77) (.e (eCallF 18 [(sel 76)]))),
           iGuard (sel 75) true (put 78) (iOp (put 78) (.v false (oLenS (sel 77)))),
           iGuard (sel 75) true (put 79) (iOp (put 79) (.v false (oEq (.one 1) (sel 78) ⟨fun _ => .int .i64 0⟩))),
           iOp (put 80) (.v false (oPick (sel 75) (sel 79) ⟨fun _ => .bool false⟩)),
           iOp (put 81) (.v false (oEv (sel 80))),
           iGuard (sel 81) true (put 82) (iOp (put 82) (.v false (oEv (sel 10)))),
           iGuard (sel 81) true (put 83) (iOp (put 83) (.v false (oEv (sel 2)))),
           iGuard (sel 81) true (put 84) (iOp (put 84) (.e (eCallF 23 [(sel 82), (sel 83)]))),
           iGuard (sel 81) true (put 85) (iOp (put 85) (.v false (oEq (.one 1) (sel 84) ⟨fun _ => .int .i64 1⟩))),
           iOp (put 86) (.v false (oPick (sel 81) (sel 85) ⟨fun _ => .bool false⟩)),
           iOp (put 87) (.v false (oEv (sel 86))),
           iGuard (sel 87) true (put 88) (iOp (put 88) (.v false (oEv (sel 10)))),
           iGuard (sel 87) true (put 89) (iOp (put 89) (.e (eCallF 22 [(sel 88)]))),
           iGuard (sel 87) true (put 90) (iOp (put 90) (.v false (oLenS (sel 89)))),
           iGuard (sel 87) true (put 91) (iOp (put 91) (.v false (oEq (.one 1) (sel 90) ⟨fun _ => .int .i64 0⟩))),
           iOp (put 92) (.v false (oPick (sel 87) (sel 91) ⟨fun _ => .bool false⟩)),
           iOp (put 93) (.v false (oEv (sel 92))),
           iGuard (sel 93) true (put 94) (iOp (put 94) (.v false (oEv (sel 10)))),
           iGuard (sel 93) true (put 95) (iOp (put 95) (.a (aBuildSlice 43 1 (rep 1 [.int .u16 0]) [(0, 1, ⟨fun _ => .int .u16 1⟩)]))),
           iGuard (sel 93) true (put 96) (iOp (put 96) (.v false (oEv (sel 2)))),
           iGuard (sel 93) true (put 97) (iOp (put 97) (.e (eCallF 25 [(sel 94), (sel 95), (sel 96)]))),
           iGuard (sel 93) true (put 98) (iOp (put 98) (.v false (oEq (.one 1) (sel 97) ⟨fun _ => .int .i64 1⟩))),
           iOp (put 99) (.v false (oPick (sel 93) (sel 98) ⟨fun _ => .bool false⟩)),
           iOp (put 100) (.v false (oEv (sel 99))),
           iGuard (sel 100) true (put 101) (iOp (put 101) (.v false (oEv (sel 10)))),
           iGuard (sel 100) true (put 102) (iOp (put 102) (.e (eCallF 26 [(sel 101)]))),
           iGuard (sel 100) true (put 103) (iOp (put 103) (.v false (oLenS (sel 102)))),
           iGuard (sel 100) true (put 104) (iOp (put 104) (.v false (oEv (sel 10)))),
           iGuard (sel 100) true (put 105) (iOp (put 105) (.e (eCallF 27 [(sel 104)]))),
           iGuard (sel 100) true (put 106) (iOp (put 106) (.v false (oLenS (sel 105)))),
           iGuard (sel 100) true (put 107) (iOp (put 107) (.v false (oInt2 fAdd (sel 103) (sel 106)))),
           iGuard (sel 100) true (put 108) (iOp (put 108) (.v false (oEq (.one 1) (sel 107) ⟨fun _ => .int .i64 0⟩))),
           iOp (put 109) (.v false (oPick (sel 100) (sel 108) ⟨fun _ => .bool false⟩)),
           iOp (put 110) (.v false (oEv (sel 109))),
           iGuard (sel 110) true (put 111) (iOp (put 111) (.v false (oEv (sel 10)))),
           iGuard (sel 110) true (put 112) (iOp (put 112) (.e (eCallF 14 [(sel 111)]))),
           iGuard (sel 110) true (put 113) (iOp (put 113) (.v false (oEq (.one 1) (sel 112) ⟨fun _ => .int .i64 8⟩))),
           iOp (put 114) (.v false (oPick (sel 110) (sel 113) ⟨fun _ => .bool false⟩)),
           iOp (put 115) (.v false (oEv (sel 114))),
           iGuard (sel 115) true (put 116) (iOp (put 116) (.v false (oEv (sel 10)))),
           iGuard (sel 115) true (put 117) (iOp (put 117) (.e (eCallF 28 [(sel 116)]))),
           iGuard (sel 115) true (put 118) (iOp (put 118) (.v false (oEq (.one 1) (sel 117) ⟨fun _ => .int .i64 0⟩))),
           iOp (put 119) (.v false (oPick (sel 115) (sel 118) ⟨fun _ => .bool false⟩)),
           iOp (put 120) (.v false (oEv (sel 119))),
           iGuard (sel 120) true (put 121) (iOp (put 121) (.v false (oEv (sel 13)))),
           iGuard (sel 120) true (put 122) (iOp (put 122) (.v false (oEq (.one 1) (sel 121) ⟨fun _ => .int .u32 0⟩))),
           iOp (put 123) (.v false (oPick (sel 120) (sel 122) ⟨fun _ => .bool false⟩)),
           iOp (put 124) (.v false (oEv (sel 123))),
           iGuard (sel 124) true (put 125) (iOp (put 125) (.v false (oEv (sel 14)))),
           iGuard (sel 124) true (put 126) (iOp (put 126) (.v false (oEq (.one 1) (sel 125) ⟨fun _ => .int .u32 0⟩))),
           iOp (put 127) (.v false (oPick (sel 124) (sel 126) ⟨fun _ => .bool false⟩)),
           iOp (put 8) (.v false (oEv (sel 127)))])
         (sEx .ret))))))))⟩
theorem d8 : denF Tryz.prog 8 = some c8 := denF_of (by kernel_rfl)
/-- (*bollard/assoc.Assoc).Start -/
noncomputable def c11 : CF := ⟨46, [.tmp (sel 6)],
  sSeq (sRegion [iOp (put 6) (.v false (oEv ⟨fun _ => .int .i64 0⟩))])
  (sSeq (sBlock 0 (sSeq (sRegion [iOp (put 9) (.v false (oEv (sel 0))),
       iOp (put 10) (.v false (oEq (.one 3) (sel 9) ⟨fun _ => .pointer none⟩)),
       iOp (put 8) (.v false (oEv (sel 10)))])
     (sCond (sel 8)
       (sSeq (sRegion [iOp (put 6) (.v false (oEv ⟨fun _ => .int .i64 1⟩))])
        (sEx .ret))
       (sSeq (sRegion [iOp (put 12) (.v false (oEv (sel 0))),
          iOp (put 13) (.v false (oNilCheck (sel 12))),
          iOp (put 14) (.v false (oFieldAddr 7 (sel 13))),
          iOp (put 15) (.v true (oLoad1 (sel 14))),
          iOp (put 16) (.v false (oNe (.one 1) (sel 15) ⟨fun _ => .int .i64 0⟩)),
          iOp (put 11) (.v false (oEv (sel 16)))])
        (sCond (sel 11)
          (sSeq (sRegion [iOp (put 6) (.v false (oEv ⟨fun _ => .int .i64 8⟩))])
           (sEx .ret))
          (sEx .normal))))))
   (sSeq (sRegion [iOp (put 17) (.v false (oEv (sel 0))),
      iOp (put 18) (.v false (oEv (sel 0))),
      iOp (put 19) (.v false (oEv (sel 2))),
      iOp (put 20) (.e (eCallF 32 [(sel 19)])),
      iOp (put 21) (.v false (oNilCheck (sel 17))),
      iOp (put 22) (.v false (oFieldAddr 7 (sel 21))),
      iOp ⟨fun _ a => a⟩ (.e (eStore 1 (sel 22) ⟨fun _ => .int .i64 1⟩)),
      iOp (put 23) (.v false (oNilCheck (sel 18))),
      iOp (put 24) (.v false (oFieldAddr 8 (sel 23))),
      iOp ⟨fun _ a => a⟩ (.e (eStore 1 (sel 24) (sel 20)))])
    (sSeq (sRegion [iOp (put 25) (.v false (oEv (sel 0))),
       iOp (put 26) (.v false (oNilCheck (sel 25))),
       iOp (put 27) (.v false (oFieldAddr 0 (sel 26))),
       iOp (put 28) (.v false (oFieldAddr 3 (sel 27))),
       iOp (put 29) (.v true (oLoad1 (sel 28))),
       iOp (put 30) (.v false (oConvInt .u16 (sel 29))),
       iOp (put 7) (.v false (oEv (sel 30)))])
     (sSeq (sDr [iOp (put 31) (.v false (oEv (sel 0))),
        iOp (put 32) (.v false (oEv (sel 0))),
        iOp (put 33) (.v false (oNilCheck (sel 32))),
        iOp (put 34) (.v false (oFieldAddr 8 (sel 33))),
        iOp (put 35) (.v true (oLoad1 (sel 34))),
        iOp (put 36) (.v false (oEv (sel 7))),
        iOp (put 37) (.v false (oEv (sel 7))),
        iOp (put 38) (.v false (oEv (sel 0))),
        iOp (put 39) (.v false (oNilCheck (sel 38))),
        iOp (put 40) (.v false (oFieldAddr 8 (sel 39))),
        iOp (put 41) (.v true (oLoad1 (sel 40))),
        iOp (put 42) (.v false (oBuild [.int .u8 0, .int .u8 0, .int .u32 0, .int .u32 0, .int .u16 0, .int .u16 0, .int .u32 0, .slice none 0 0, .slice none 0 0, .slice none 0 0, .slice none 0 0, .slice none 0 0] [(0, 1, ⟨fun _ => .int .u8 1⟩), (2, 1, (sel 35)), (3, 1, ⟨fun _ => .int .u32 65536⟩), (4, 1, (sel 36)), (5, 1, (sel 37)), (6, 1, (sel 41))])),
        iOp (put 43) (.v false (oEv (sel 1))),
        iOp (put 44) (.e (eCallF 34 [(sel 43)])),
        iOp (put 45) (.e (eCallF 33 [(sel 31), ⟨fun _ => .int .i64 1⟩, (sel 42), (sel 44)]))]
        [(4, none, (oLoad1 (sel 34)), [0, 14]), (10, none, (oLoad1 (sel 40)), [0, 14])])
      (sSeq (sRegion [iOp (put 6) (.v false (oEv ⟨fun _ => .int .i64 0⟩))])
       (sEx .ret))))))⟩
theorem d11 : denF Tryz.prog 11 = some c11 := denF_of (by kernel_rfl)
noncomputable def c12_0 : Vm.Sem := sSeq (sRegion [iOp (put 33) (.v false (oInt2 fLss (sel 32) (sel 31)))])
 (sSeq (sCond (sel 33)
    (sEx .normal)
    (sEx (.exit 0)))
  (sSeq (sBlock 1 (sSeq (sRegion [iOp (put 34) (.v false (oIndexAddrS 1 (sel 30) (sel 32))),
       iOp (put 35) (.v true (oLoad1 (sel 34))),
       iOp (put 8) (.v false (oEv (sel 35)))])
     (sSeq (sRegion [iOp (put 36) (.v false (oEv (sel 0))),
        iOp (put 37) (.v false (oNilCheck (sel 36))),
        iOp (put 38) (.v false (oFieldAddr 12 (sel 37))),
        iOp (put 39) (.v true (oLoad1 (sel 38))),
        iOp (put 40) (.v false (oEv (sel 8))),
        iOp (put 41) (.v true (oLookup (.one 1) (.pointer none) false (sel 39) (sel 40))),
        iOp (put 9) (.v false (oEv (sel 41)))])
      (sSeq (sRegion [iOp (put 42) (.v false (oEv (sel 9))),
         iOp (put 43) (.v false (oNe (.one 3) (sel 42) ⟨fun _ => .pointer none⟩)),
         iOp (put 44) (.v false (oEv (sel 43))),
         iGuard (sel 44) true (put 45) (iOp (put 45) (.v false (oEv (sel 9)))),
         iGuard (sel 44) true (put 46) (iOp (put 46) (.v false (oNilCheck (sel 45)))),
         iGuard (sel 44) true (put 47) (iOp (put 47) (.v false (oFieldAddr 17 (sel 46)))),
         iGuard (sel 44) true (put 48) (iOp (put 48) (.v true (oLoad1 (sel 47)))),
         iOp (put 49) (.v false (oPick (sel 44) (sel 48) ⟨fun _ => .bool false⟩))])
       (sCond (sel 49)
         (sSeq (sRegion [iOp (put 50) (.v false (oEv (sel 9))),
            iOp (put 51) (.v false (oNilCheck (sel 50))),
            iOp (put 52) (.v false (oFieldAddr 17 (sel 51))),
            iOp ⟨fun _ a => a⟩ (.e (eStore 1 (sel 52) ⟨fun _ => .bool false⟩))])
          (sRegion [iOp (put 53) (.v false (oEv (sel 6))),
            iOp (put 54) (.v false (oEv (sel 9))),
            iOp (put 55) (.v false (oNilCheck (sel 54))),
            iOp (put 56) (.v false (oFieldAddr 0 (sel 55))),
            iOp (put 57) (.v true (oLoadN 12 (sel 56))),
            iOp (put 58) (.a (aBuildSlice 57 1 (rep 1 [.int .u8 0, .int .u8 0, .int .u32 0, .int .u32 0, .int .u16 0, .int .u16 0, .int .u32 0, .slice none 0 0, .slice none 0 0, .slice none 0 0, .slice none 0 0, .slice none 0 0]) [(0, 12, (sel 57))])),
            iOp (put 59) (.e (eAppend 57 12 144 (sel 53) (sel 58))),
            iOp (put 6) (.v false (oEv (sel 59)))]))
         (sEx .normal))))))
   (sRegion [iOp (put 60) (.v false (oInt2 fAdd (sel 32) ⟨fun _ => .int .i64 1⟩)),
     iOp (put 32) (.v false (oEv (sel 60)))])))
/-- (*bollard/assoc.Assoc).Tell -/
noncomputable def c12 : CF := ⟨76, [.tmp (sel 4)],
  sSeq (sRegion [iOp (put 4) (.v false (oEv ⟨fun _ => .slice none 0 0⟩))])
  (sSeq (sSeq (sRegion [iOp (put 11) (.v false (oEv (sel 0))),
      iOp (put 12) (.a (aBuildSlice 3 2 (rep 2 [.int .i64 0]) [(0, 1, ⟨fun _ => .int .i64 0⟩), (1, 1, ⟨fun _ => .int .i64 8⟩)])),
      iOp (put 13) (.e (eCallF 35 [(sel 11), (sel 12)]))])
    (sCond (sel 13)
      (sSeq (sRegion [iOp (put 4) (.v false (oEv ⟨fun _ => .slice none 0 0⟩))])
       (sEx .ret))
      (sEx .normal)))
   (sSeq (sRegion [iOp (put 14) (.v false (oEv (sel 1))),
      iOp (put 15) (.e (eCallF 34 [(sel 14)])),
      iOp (put 1) (.v false (oEv (sel 15)))])
    (sSeq (sRegion [iOp (put 5) (.v false (oEv ⟨fun _ => .slice none 0 0⟩))])
     (sSeq (sSeq (sRegion [iOp (put 16) (.v false (oEv (sel 0))),
         iOp (put 17) (.v false (oNilCheck (sel 16))),
         iOp (put 18) (.v false (oFieldAddr 7 (sel 17))),
         iOp (put 19) (.v true (oLoad1 (sel 18))),
         iOp (put 20) (.v false (oInt2 fGeq (sel 19) ⟨fun _ => .int .i64 3⟩))])
       (sCond (sel 20)
         (sSeq (sRegion [iOp (put 21) (.v false (oEv (sel 0))),
            iOp (put 22) (.v false (oNilCheck (sel 21))),
            iOp (put 23) (.v false (oFieldAddr 10 (sel 22))),
            iOp (put 24) (.v true (oLoad1 (sel 23))),
            iOp (put 25) (.v false (oEv (sel 1))),
            iOp (put 26) (.e (eCallF 36 [(sel 24), (sel 25)])),
            iOp (put 5) (.v false (oEv (sel 26)))])
          (sRegion [iOp (put 27) (.v false (oEv (sel 0))),
            iOp (put 28) (.v false (oEv (sel 1))),
            iOp (put 29) (.e (eCallF 37 [(sel 27), (sel 28)]))]))
         (sEx .normal)))
      (sSeq (sRegion [iOp (put 6) (.v false (oEv ⟨fun _ => .slice none 0 0⟩))])
       (sSeq (sSeq (sRegion [iOp (put 30) (.a (aBuildSlice 3 3 (rep 3 [.int .i64 0]) [(0, 1, ⟨fun _ => .int .i64 1⟩), (1, 1, ⟨fun _ => .int .i64 2⟩), (2, 1, ⟨fun _ => .int .i64 3⟩)])),
           iOp (put 31) (.v false (oLenS (sel 30))),
           iOp (put 32) (.v false (oEv ⟨fun _ => .int .i64 0⟩))])
         (sBlock 0 (sLoop c12_0)))
        (sSeq (sRegion [iOp (put 61) (.v false (oEv (sel 0))),
           iOp (put 62) (.v false (oNilCheck (sel 61))),
           iOp (put 63) (.v false (oFieldAddr 9 (sel 62))),
           iOp (put 64) (.v true (oLoad1 (sel 63))),
           iOp (put 10) (.v false (oEv (sel 64)))])
         (sSeq (sSeq (sRegion [iOp (put 65) (.v false (oEv (sel 0))),
             iOp (put 66) (.v false (oNilCheck (sel 65))),
             iOp (put 67) (.v false (oFieldAddr 7 (sel 66))),
             iOp (put 68) (.v true (oLoad1 (sel 67))),
             iOp (put 69) (.v false (oEq (.one 1) (sel 68) ⟨fun _ => .int .i64 1⟩))])
           (sCond (sel 69)
             (sRegion [iOp (put 10) (.v false (oEv ⟨fun _ => .int .u32 0⟩))])
             (sEx .normal)))
          (sSeq (sRegion [iOp (put 70) (.v false (oEv (sel 0))),
             iOp (put 71) (.v false (oEv (sel 10))),
             iOp (put 72) (.v false (oEv (sel 6))),
             iOp (put 73) (.v false (oEv (sel 5))),
             iOp (put 74) (.e (eAppend 57 12 144 (sel 72) (sel 73))),
             iOp (put 75) (.e (eCallF 38 [(sel 70), (sel 71), (sel 74)])),
             iOp (put 4) (.v false (oEv (sel 75)))])
           (sEx .ret))))))))))⟩
theorem d12 : denF Tryz.prog 12 = some c12 := denF_of (by kernel_rfl)
noncomputable def c13_0 : Vm.Sem := sSeq (sRegion [iOp (put 32) (.v false (oInt2 fLss (sel 31) (sel 30)))])
 (sSeq (sCond (sel 32)
    (sEx .normal)
    (sEx (.exit 0)))
  (sSeq (sBlock 1 (sSeq (sRegion [iOp (put 33) (.v false (oIndexAddrS 1 (sel 29) (sel 31))),
       iOp (put 34) (.v true (oLoad1 (sel 33))),
       iOp (put 5) (.v false (oEv (sel 34)))])
     (sSeq (sRegion [iOp (put 35) (.v false (oEv (sel 0))),
        iOp (put 36) (.v false (oEv (sel 5))),
        iOp (put 37) (.v false (oEv (sel 1))),
        iOp (put 38) (.e (eCallF 43 [(sel 35), (sel 36), (sel 37)])),
        iOp (put 39) (.v false (oNot (sel 38)))])
      (sCond (sel 39)
        (sSeq (sRegion [iOp (put 40) (.v false (oEv (sel 0))),
           iOp (put 41) (.e (eCallF 41 [(sel 40)]))])
         (sEx .ret))
        (sEx .normal)))))
   (sRegion [iOp (put 42) (.v false (oInt2 fAdd (sel 31) ⟨fun _ => .int .i64 1⟩)),
     iOp (put 31) (.v false (oEv (sel 42)))])))
/-- (*bollard/assoc.Assoc).Tick -/
noncomputable def c13 : CF := ⟨43, [],
  sSeq (sSeq (sRegion [iOp (put 6) (.v false (oEv (sel 0))),
     iOp (put 7) (.a (aBuildSlice 3 2 (rep 2 [.int .i64 0]) [(0, 1, ⟨fun _ => .int .i64 0⟩), (1, 1, ⟨fun _ => .int .i64 8⟩)])),
     iOp (put 8) (.e (eCallF 35 [(sel 6), (sel 7)]))])
   (sCond (sel 8)
     (sEx .ret)
     (sEx .normal)))
  (sSeq (sRegion [iOp (put 9) (.v false (oEv (sel 1))),
     iOp (put 10) (.e (eCallF 34 [(sel 9)])),
     iOp (put 1) (.v false (oEv (sel 10)))])
   (sSeq (sRegion [iOp (put 11) (.v false (oEv (sel 0))),
      iOp (put 12) (.v false (oNilCheck (sel 11))),
      iOp (put 13) (.v false (oFieldAddr 10 (sel 12))),
      iOp (put 14) (.v true (oLoad1 (sel 13))),
      iOp (put 15) (.v false (oEv (sel 1))),
      iOp (put 16) (.e (eCallF 39 [(sel 14), (sel 15)]))])
    (sSeq (sSeq (sRegion [iOp (put 17) (.v false (oEv (sel 0))),
        iOp (put 18) (.v false (oNilCheck (sel 17))),
        iOp (put 19) (.v false (oFieldAddr 10 (sel 18))),
        iOp (put 20) (.v true (oLoad1 (sel 19))),
        iOp (put 21) (.e (eCallF 40 [(sel 20)])),
        iOp (put 22) (.v false (oInt2 fGtr (sel 21) ⟨fun _ => .int .i64 10⟩))])
      (sCond (sel 22)
        (sSeq (sRegion [iOp (put 23) (.v false (oEv (sel 0))),
           iOp (put 24) (.e (eCallF 41 [(sel 23)]))])
         (sEx .ret))
        (sEx .normal)))
     (sSeq (sRegion [iOp (put 25) (.v false (oEv (sel 0))),
        iOp (put 26) (.v false (oNilCheck (sel 25))),
        iOp (put 27) (.v false (oFieldAddr 11 (sel 26))),
        iOp (put 28) (.v false (oEv (sel 1))),
        iOp (put 29) (.e (eCallF 42 [(sel 27), (sel 28)])),
        iOp (put 30) (.v false (oLenS (sel 29))),
        iOp (put 31) (.v false (oEv ⟨fun _ => .int .i64 0⟩))])
      (sBlock 0 (sLoop c13_0))))))⟩
theorem d13 : denF Tryz.prog 13 = some c13 := denF_of (by kernel_rfl)
/-- (*bollard/assoc.Assoc).State -/
noncomputable def c14 : CF := ⟨9, [.tmp (sel 2)],
  sSeq (sRegion [iOp (put 2) (.v false (oEv ⟨fun _ => .int .i64 0⟩))])
  (sSeq (sSeq (sRegion [iOp (put 3) (.v false (oEv (sel 0))),
      iOp (put 4) (.v false (oEq (.one 3) (sel 3) ⟨fun _ => .pointer none⟩))])
    (sCond (sel 4)
      (sSeq (sRegion [iOp (put 2) (.v false (oEv ⟨fun _ => .int .i64 8⟩))])
       (sEx .ret))
      (sEx .normal)))
   (sSeq (sRegion [iOp (put 5) (.v false (oEv (sel 0))),
      iOp (put 6) (.v false (oNilCheck (sel 5))),
      iOp (put 7) (.v false (oFieldAddr 7 (sel 6))),
      iOp (put 8) (.v true (oLoad1 (sel 7))),
      iOp (put 2) (.v false (oEv (sel 8)))])
    (sEx .ret)))⟩
theorem d14 : denF Tryz.prog 14 = some c14 := denF_of (by kernel_rfl)
noncomputable def c16_0 : Vm.Sem := sSeq (sRegion [iOp (put 57) (.v false (oInt2 fLss (sel 56) (sel 55)))])
 (sSeq (sCond (sel 57)
    (sEx .normal)
    (sEx (.exit 1)))
  (sSeq (sBlock 2 (sSeq (sRegion [iOp (put 58) (.v false (oIndexAddrS 12 (sel 54) (sel 56))),
       iOp (put 59) (.v true (oLoadN 12 (sel 58))),
       iOp (put 14) (.a (aAlloc 57 [.int .u8 0, .int .u8 0, .int .u32 0, .int .u32 0, .int .u16 0, .int .u16 0, .int .u32 0, .slice none 0 0, .slice none 0 0, .slice none 0 0, .slice none 0 0, .slice none 0 0])),
       iOp ⟨fun _ a => a⟩ (.e (eStore 12 (sel 14) (sel 59)))])
     (sSeq (sDr [iOp (put 61) (.v false (oEv (sel 0))),
        iOp (put 62) (.v true (oLoadN 12 (sel 14))),
        iOp (put 63) (.v false (oFieldAddr 2 (sel 10))),
        iOp (put 64) (.v true (oLoad1 (sel 63))),
        iOp (put 65) (.v false (oEv (sel 2))),
        iOp (put 66) (.e (eCallF 34 [(sel 65)])),
        iOp (put 67) (.v false (oEv (sel 3))),
        iOp (put 68) (.v false (oBuild [.int .u32 0, .int .i64 0, .int .u32 0] [(0, 1, (sel 64)), (1, 1, (sel 66)), (2, 1, (sel 67))])),
        iOp (put 69) (.e (eCallF 47 [(sel 61), (sel 62), (sel 68)])),
        iOp (put 60) (.v false (oEv (sel 69))),
        iOp (put 70) (.v false (oExtract (sel 60) 0)),
        iOp (put 71) (.v false (oExtract (sel 60) 1)),
        iOp (put 15) (.v false (oEv (sel 70))),
        iOp (put 16) (.v false (oEv (sel 71)))]
        [(1, none, (oLoadN 12 (sel 14)), [0, 6]), (3, none, (oLoad1 (sel 63)), [0, 6])])
      (sSeq (sRegion [iOp (put 72) (.v false (oEv (sel 12))),
         iOp (put 73) (.v false (oEv (sel 15))),
         iOp (put 74) (.e (eAppend 34 1 24 (sel 72) (sel 73))),
         iOp (put 12) (.v false (oEv (sel 74)))])
       (sSeq (sSeq (sRegion [iOp (put 75) (.v false (oEv (sel 16))),
           iOp (put 76) (.v false (oNe (.one 1) (sel 75) ⟨fun _ => .int .i64 0⟩))])
         (sCond (sel 76)
           (sSeq (sRegion [iOp (put 77) (.v false (oEv (sel 12))),
              iOp (put 78) (.v false (oEv (sel 16))),
              iOp (put 8) (.v false (oEv (sel 77))),
              iOp (put 9) (.v false (oEv (sel 78)))])
            (sEx .ret))
           (sEx .normal)))
        (sSeq (sRegion [iOp (put 80) (.v false (oFieldAddr 0 (sel 14))),
           iOp (put 81) (.v true (oLoad1 (sel 80))),
           iOp (put 82) (.e (eCallF 48 [(sel 81)])),
           iOp (put 79) (.v false (oEv (sel 82))),
           iOp (put 83) (.v false (oExtract (sel 79) 0)),
           iOp (put 84) (.v false (oExtract (sel 79) 1)),
           iOp (put 17) (.v false (oEv (sel 83))),
           iOp (put 18) (.v false (oEv (sel 84)))])
         (sSeq (sRegion [iOp (put 85) (.v false (oEv (sel 17))),
            iOp (put 86) (.v false (oEv (sel 85))),
            iGuard (sel 86) true (put 87) (iOp (put 87) (.v false (oFieldAddr 0 (sel 14)))),
            iGuard (sel 86) true (put 88) (iOp (put 88) (.v true (oLoad1 (sel 87)))),
            iGuard (sel 86) true (put 89) (iOp (put 89) (.e (eCallF 49 [(sel 88)]))),
            iGuard (sel 86) true (put 90) (iOp (put 90) (.v false (oNot (sel 89)))),
            iOp (put 91) (.v false (oPick (sel 86) (sel 90) ⟨fun _ => .bool false⟩))])
          (sCond (sel 91)
            (sEx (.exit 1))
            (sEx .normal)))))))))
   (sRegion [iOp (put 92) (.v false (oInt2 fAdd (sel 56) ⟨fun _ => .int .i64 1⟩)),
     iOp (put 56) (.v false (oEv (sel 92)))])))
/-- (*bollard/assoc.Assoc).Hear -/
noncomputable def c16 : CF := ⟨94, [.tmp (sel 8), .tmp (sel 9)],
  sSeq (sRegion [iOp (put 8) (.v false (oEv ⟨fun _ => .slice none 0 0⟩)),
    iOp (put 9) (.v false (oEv ⟨fun _ => .int .i64 0⟩))])
  (sSeq (sSeq (sRegion [iOp (put 19) (.v false (oEv (sel 0))),
      iOp (put 20) (.v false (oEq (.one 3) (sel 19) ⟨fun _ => .pointer none⟩))])
    (sCond (sel 20)
      (sSeq (sRegion [iOp (put 8) (.v false (oEv ⟨fun _ => .slice none 0 0⟩)),
         iOp (put 9) (.v false (oEv ⟨fun _ => .int .i64 1⟩))])
       (sEx .ret))
      (sEx .normal)))
   (sSeq (sRegion [iOp (put 22) (.v false (oEv (sel 0))),
      iOp (put 23) (.v false (oNilCheck (sel 22))),
      iOp (put 24) (.v false (oFieldAddr 6 (sel 23))),
      iOp (put 25) (.v true (oLoad1 (sel 24))),
      iOp (put 26) (.v false (oEv (sel 1))),
      iOp (put 27) (.e (eCallF 46 [(sel 25), (sel 26)])),
      iOp (put 21) (.v false (oEv (sel 27))),
      iOp (put 28) (.v false (oExtract (sel 21) 0)),
      iOp (put 29) (.v false (oExtract (sel 21) 1)),
      iOp (put 10) (.a (aAlloc 46 [.int .u16 0, .int .u16 0, .int .u32 0, .slice none 0 0])),
      iOp ⟨fun _ a => a⟩ (.e (eStore 4 (sel 10) (sel 28))),
      iOp (put 11) (.v false (oEv (sel 29)))])
    (sSeq (sBlock 0 (sSeq (sRegion [iOp (put 31) (.v false (oEv (sel 11))),
         iOp (put 32) (.v false (oNe (.one 1) (sel 31) ⟨fun _ => .int .i64 0⟩)),
         iOp (put 30) (.v false (oEv (sel 32)))])
       (sCond (sel 30)
         (sSeq (sRegion [iOp (put 33) (.v false (oEv (sel 11))),
            iOp (put 8) (.v false (oEv ⟨fun _ => .slice none 0 0⟩)),
            iOp (put 9) (.v false (oEv (sel 33)))])
          (sEx .ret))
         (sSeq (sRegion [iOp (put 35) (.v false (oFieldAddr 0 (sel 10))),
            iOp (put 36) (.v true (oLoad1 (sel 35))),
            iOp (put 37) (.v false (oEv (sel 0))),
            iOp (put 38) (.v false (oNilCheck (sel 37))),
            iOp (put 39) (.v false (oFieldAddr 0 (sel 38))),
            iOp (put 40) (.v false (oFieldAddr 1 (sel 39))),
            iOp (put 41) (.v true (oLoad1 (sel 40))),
            iOp (put 42) (.v false (oNe (.one 1) (sel 36) (sel 41))),
            iOp (put 43) (.v false (oEv (sel 42))),
            iGuard (sel 43) false (put 44) (iOp (put 44) (.v false (oFieldAddr 1 (sel 10)))),
            iGuard (sel 43) false (put 45) (iOp (put 45) (.v true (oLoad1 (sel 44)))),
            iGuard (sel 43) false (put 46) (iOp (put 46) (.v false (oEv (sel 0)))),
            iGuard (sel 43) false (put 47) (iOp (put 47) (.v false (oNilCheck (sel 46)))),
            iGuard (sel 43) false (put 48) (iOp (put 48) (.v false (oFieldAddr 0 (sel 47)))),
            iGuard (sel 43) false (put 49) (iOp (put 49) (.v false (oFieldAddr 0 (sel 48)))),
            iGuard (sel 43) false (put 50) (iOp (put 50) (.v true (oLoad1 (sel 49)))),
            iGuard (sel 43) false (put 51) (iOp (put 51) (.v false (oNe (.one 1) (sel 45) (sel 50)))),
            iOp (put 52) (.v false (oPick (sel 43) ⟨fun _ => .bool true⟩ (sel 51))),
            iOp (put 34) (.v false (oEv (sel 52)))])
          (sCond (sel 34)
            (sSeq (sRegion [iOp (put 8) (.v false (oEv ⟨fun _ => .slice none 0 0⟩)),
               iOp (put 9) (.v false (oEv ⟨fun _ => .int .i64 1⟩))])
             (sEx .ret))
            (sEx .normal))))))
     (sSeq (sRegion [iOp (put 12) (.v false (oEv ⟨fun _ => .slice none 0 0⟩))])
      (sSeq (sSeq (sRegion [iOp (put 53) (.v false (oFieldAddr 3 (sel 10))),
          iOp (put 54) (.v true (oLoad1 (sel 53))),
          iOp (put 55) (.v false (oLenS (sel 54))),
          iOp (put 56) (.v false (oEv ⟨fun _ => .int .i64 0⟩))])
        (sBlock 1 (sLoop c16_0)))
       (sSeq (sRegion [iOp (put 93) (.v false (oEv (sel 12))),
          iOp (put 8) (.v false (oEv (sel 93))),
          iOp (put 9) (.v false (oEv ⟨fun _ => .int .i64 0⟩))])
        (sEx .ret)))))))⟩
theorem d16 : denF Tryz.prog 16 = some c16 := denF_of (by kernel_rfl)
/-- (*bollard/assoc.Assoc).Tags -/
noncomputable def c17 : CF := ⟨14, [.tmp (sel 2), .tmp (sel 3)],
  sSeq (sRegion [iOp (put 2) (.v false (oEv ⟨fun _ => .int .u32 0⟩)),
    iOp (put 3) (.v false (oEv ⟨fun _ => .int .u32 0⟩))])
  (sSeq (sSeq (sRegion [iOp (put 4) (.v false (oEv (sel 0))),
      iOp (put 5) (.v false (oEq (.one 3) (sel 4) ⟨fun _ => .pointer none⟩))])
    (sCond (sel 5)
      (sSeq (sRegion [iOp (put 2) (.v false (oEv ⟨fun _ => .int .u32 0⟩)),
         iOp (put 3) (.v false (oEv ⟨fun _ => .int .u32 0⟩))])
       (sEx .ret))
      (sEx .normal)))
   (sSeq (sRegion [iOp (put 6) (.v false (oEv (sel 0))),
      iOp (put 7) (.v false (oNilCheck (sel 6))),
      iOp (put 8) (.v false (oFieldAddr 8 (sel 7))),
      iOp (put 9) (.v true (oLoad1 (sel 8))),
      iOp (put 10) (.v false (oEv (sel 0))),
      iOp (put 11) (.v false (oNilCheck (sel 10))),
      iOp (put 12) (.v false (oFieldAddr 9 (sel 11))),
      iOp (put 13) (.v true (oLoad1 (sel 12))),
      iOp (put 2) (.v false (oEv (sel 9))),
      iOp (put 3) (.v false (oEv (sel 13)))])
    (sEx .ret)))⟩
theorem d17 : denF Tryz.prog 17 = some c17 := denF_of (by kernel_rfl)
/-- (*bollard/assoc.Assoc).Messages -/
noncomputable def c18 : CF := ⟨10, [.tmp (sel 2)],
  sSeq (sRegion [iOp (put 2) (.v false (oEv ⟨fun _ => .slice none 0 0⟩))])
  (sSeq (sSeq (sRegion [iOp (put 3) (.v false (oEv (sel 0))),
      iOp (put 4) (.v false (oEq (.one 3) (sel 3) ⟨fun _ => .pointer none⟩))])
    (sCond (sel 4)
      (sSeq (sRegion [iOp (put 2) (.v false (oEv ⟨fun _ => .slice none 0 0⟩))])
       (sEx .ret))
      (sEx .normal)))
   (sSeq (sRegion [iOp (put 5) (.v false (oEv (sel 0))),
      iOp (put 6) (.v false (oNilCheck (sel 5))),
      iOp (put 7) (.v false (oFieldAddr 10 (sel 6))),
      iOp (put 8) (.v true (oLoad1 (sel 7))),
      iOp (put 9) (.e (eCallF 50 [(sel 8)])),
      iOp (put 2) (.v false (oEv (sel 9)))])
    (sEx .ret)))⟩
theorem d18 : denF Tryz.prog 18 = some c18 := denF_of (by kernel_rfl)
/-- (*bollard/assoc.Assoc).Abort -/
noncomputable def c22 : CF := ⟨21, [.tmp (sel 2)],
  sSeq (sRegion [iOp (put 2) (.v false (oEv ⟨fun _ => .slice none 0 0⟩))])
  (sSeq (sSeq (sRegion [iOp (put 3) (.v false (oEv (sel 0))),
      iOp (put 4) (.a (aBuildSlice 3 2 (rep 2 [.int .i64 0]) [(0, 1, ⟨fun _ => .int .i64 0⟩), (1, 1, ⟨fun _ => .int .i64 8⟩)])),
      iOp (put 5) (.e (eCallF 35 [(sel 3), (sel 4)]))])
    (sCond (sel 5)
      (sSeq (sRegion [iOp (put 2) (.v false (oEv ⟨fun _ => .slice none 0 0⟩))])
       (sEx .ret))
      (sEx .normal)))
   (sSeq (sRegion [iOp (put 6) (.v false (oEv (sel 0))),
      iOp (put 7) (.e (eCallF 41 [(sel 6)]))])
    (sSeq (sSeq (sRegion [iOp (put 8) (.v false (oEv (sel 0))),
        iOp (put 9) (.v false (oNilCheck (sel 8))),
        iOp (put 10) (.v false (oFieldAddr 9 (sel 9))),
        iOp (put 11) (.v true (oLoad1 (sel 10))),
        iOp (put 12) (.v false (oEq (.one 1) (sel 11) ⟨fun _ => .int .u32 0⟩))])
      (sCond (sel 12)
        (sSeq (sRegion [iOp (put 2) (.v false (oEv ⟨fun _ => .slice none 0 0⟩))])
         (sEx .ret))
        (sEx .normal)))
     (sSeq (sRegion [iOp (put 13) (.v false (oEv (sel 0))),
        iOp (put 14) (.v false (oEv (sel 0))),
        iOp (put 15) (.v false (oNilCheck (sel 14))),
        iOp (put 16) (.v false (oFieldAddr 9 (sel 15))),
        iOp (put 17) (.v true (oLoad1 (sel 16))),
        iOp (put 18) (.v false (oBuild [.int .u8 0, .int .u8 0, .int .u32 0, .int .u32 0, .int .u16 0, .int .u16 0, .int .u32 0, .slice none 0 0, .slice none 0 0, .slice none 0 0, .slice none 0 0, .slice none 0 0] [(0, 1, ⟨fun _ => .int .u8 6⟩)])),
        iOp (put 19) (.a (aBuildSlice 57 1 (rep 1 [.int .u8 0, .int .u8 0, .int .u32 0, .int .u32 0, .int .u16 0, .int .u16 0, .int .u32 0, .slice none 0 0, .slice none 0 0, .slice none 0 0, .slice none 0 0, .slice none 0 0]) [(0, 12, (sel 18))])),
        iOp (put 20) (.e (eCallF 38 [(sel 13), (sel 17), (sel 19)])),
        iOp (put 2) (.v false (oEv (sel 20)))])
      (sEx .ret)))))⟩
theorem d22 : denF Tryz.prog 22 = some c22 := denF_of (by kernel_rfl)
/-- (*bollard/assoc.Assoc).Close -/
noncomputable def c23 : CF := ⟨17, [.tmp (sel 4)],
  sSeq (sRegion [iOp (put 4) (.v false (oEv ⟨fun _ => .int .i64 0⟩))])
  (sSeq (sBlock 0 (sSeq (sRegion [iOp (put 6) (.v false (oEv (sel 0))),
       iOp (put 7) (.v false (oEq (.one 3) (sel 6) ⟨fun _ => .pointer none⟩)),
       iOp (put 5) (.v false (oEv (sel 7)))])
     (sCond (sel 5)
       (sSeq (sRegion [iOp (put 4) (.v false (oEv ⟨fun _ => .int .i64 1⟩))])
        (sEx .ret))
       (sSeq (sRegion [iOp (put 9) (.v false (oEv (sel 0))),
          iOp (put 10) (.v false (oNilCheck (sel 9))),
          iOp (put 11) (.v false (oFieldAddr 7 (sel 10))),
          iOp (put 12) (.v true (oLoad1 (sel 11))),
          iOp (put 13) (.v false (oNe (.one 1) (sel 12) ⟨fun _ => .int .i64 3⟩)),
          iOp (put 8) (.v false (oEv (sel 13)))])
        (sCond (sel 8)
          (sSeq (sRegion [iOp (put 4) (.v false (oEv ⟨fun _ => .int .i64 8⟩))])
           (sEx .ret))
          (sEx .normal))))))
   (sSeq (sRegion [iOp (put 14) (.v false (oEv (sel 0))),
      iOp (put 15) (.v false (oNilCheck (sel 14))),
      iOp (put 16) (.v false (oFieldAddr 7 (sel 15))),
      iOp ⟨fun _ a => a⟩ (.e (eStore 1 (sel 16) ⟨fun _ => .int .i64 4⟩))])
    (sSeq (sRegion [iOp (put 4) (.v false (oEv ⟨fun _ => .int .i64 0⟩))])
     (sEx .ret))))⟩
theorem d23 : denF Tryz.prog 23 = some c23 := denF_of (by kernel_rfl)
/-- (*bollard/assoc.Assoc).Send -/
noncomputable def c24 : CF := ⟨29, [.tmp (sel 10)],
  sSeq (sRegion [iOp (put 6) (.a (aBox 63 (sel 1))),
    iOp (put 10) (.v false (oEv ⟨fun _ => .int .i64 0⟩))])
  (sSeq (sBlock 0 (sSeq (sRegion [iOp (put 12) (.v false (oEv (sel 0))),
       iOp (put 13) (.v false (oEq (.one 3) (sel 12) ⟨fun _ => .pointer none⟩)),
       iOp (put 11) (.v false (oEv (sel 13)))])
     (sCond (sel 11)
       (sSeq (sRegion [iOp (put 10) (.v false (oEv ⟨fun _ => .int .i64 1⟩))])
        (sEx .ret))
       (sSeq (sRegion [iOp (put 15) (.v false (oEv (sel 0))),
          iOp (put 16) (.v false (oNilCheck (sel 15))),
          iOp (put 17) (.v false (oFieldAddr 7 (sel 16))),
          iOp (put 18) (.v true (oLoad1 (sel 17))),
          iOp (put 19) (.v false (oNe (.one 1) (sel 18) ⟨fun _ => .int .i64 3⟩)),
          iOp (put 14) (.v false (oEv (sel 19)))])
        (sCond (sel 14)
          (sSeq (sRegion [iOp (put 10) (.v false (oEv ⟨fun _ => .int .i64 8⟩))])
           (sEx .ret))
          (sEx .normal))))))
   (sSeq (sRegion [iOp (put 20) (.v false (oEv (sel 0))),
      iOp (put 21) (.v false (oNilCheck (sel 20))),
      iOp (put 22) (.v false (oFieldAddr 10 (sel 21))),
      iOp (put 23) (.v true (oLoad1 (sel 22))),
      iOp (put 24) (.v true (oLoadN 4 (sel 6))),
      iOp (put 25) (.v false (oEv (sel 2))),
      iOp (put 26) (.v false (oEv (sel 3))),
      iOp (put 27) (.v false (oEv (sel 4))),
      iOp (put 28) (.e (eCallF 57 [(sel 23), (sel 24), (sel 25), (sel 26), (sel 27)])),
      iOp (put 10) (.v false (oEv (sel 28)))])
    (sEx .ret)))⟩
theorem d24 : denF Tryz.prog 24 = some c24 := denF_of (by kernel_rfl)
noncomputable def c25_0 : Vm.Sem := sSeq (sRegion [iOp (put 58) (.v false (oInt2 fLss (sel 57) (sel 56)))])
 (sSeq (sCond (sel 58)
    (sEx .normal)
    (sEx (.exit 1)))
  (sSeq (sBlock 2 (sSeq (sRegion [iOp (put 59) (.v false (oIndexAddrS 1 (sel 55) (sel 57))),
       iOp (put 60) (.v true (oLoad1 (sel 59))),
       iOp (put 9) (.v false (oEv (sel 60)))])
     (sRegion [iOp (put 61) (.v false (oEv (sel 7))),
       iOp (put 62) (.v false (oEv (sel 9))),
       iOp (put 63) (.e (eCallF 60 [(sel 61), (sel 62)])),
       iOp (put 7) (.v false (oEv (sel 63)))])))
   (sRegion [iOp (put 64) (.v false (oInt2 fAdd (sel 57) ⟨fun _ => .int .i64 1⟩)),
     iOp (put 57) (.v false (oEv (sel 64)))])))
/-- (*bollard/assoc.Assoc).Restart -/
noncomputable def c25 : CF := ⟨78, [.tmp (sel 6)],
  sSeq (sRegion [iOp (put 6) (.v false (oEv ⟨fun _ => .int .i64 0⟩))])
  (sSeq (sBlock 0 (sSeq (sRegion [iOp (put 11) (.v false (oEv (sel 0))),
       iOp (put 12) (.v false (oEq (.one 3) (sel 11) ⟨fun _ => .pointer none⟩)),
       iOp (put 10) (.v false (oEv (sel 12)))])
     (sCond (sel 10)
       (sSeq (sRegion [iOp (put 6) (.v false (oEv ⟨fun _ => .int .i64 1⟩))])
        (sEx .ret))
       (sSeq (sRegion [iOp (put 14) (.v false (oEv (sel 0))),
          iOp (put 15) (.v false (oNilCheck (sel 14))),
          iOp (put 16) (.v false (oFieldAddr 7 (sel 15))),
          iOp (put 17) (.v true (oLoad1 (sel 16))),
          iOp (put 18) (.v false (oNe (.one 1) (sel 17) ⟨fun _ => .int .i64 3⟩)),
          iOp (put 19) (.v false (oEv (sel 18))),
          iGuard (sel 19) false (put 20) (iOp (put 20) (.v false (oEv (sel 0)))),
          iGuard (sel 19) false (put 21) (iOp (put 21) (.v false (oNilCheck (sel 20)))),
          iGuard (sel 19) false (put 22) (iOp (put 22) (.v false (oFieldAddr 12 (sel 21)))),
          iGuard (sel 19) false (put 23) (iOp (put 23) (.v true (oLoad1 (sel 22)))),
          iGuard (sel 19) false (put 24) (iOp (put 24) (.v true (oLookup (.one 1) (.pointer none) false (sel 23) ⟨fun _ => .int .i64 3⟩))),
          iGuard (sel 19) false (put 25) (iOp (put 25) (.v false (oNe (.one 3) (sel 24) ⟨fun _ => .pointer none⟩))),
          iOp (put 26) (.v false (oPick (sel 19) ⟨fun _ => .bool true⟩ (sel 25))),
          iOp (put 13) (.v false (oEv (sel 26)))])
        (sCond (sel 13)
          (sSeq (sRegion [iOp (put 6) (.v false (oEv ⟨fun _ => .int .i64 8⟩))])
           (sEx .ret))
          (sSeq (sRegion [iOp (put 28) (.v false (oEv (sel 1))),
             iOp (put 29) (.v false (oLenS (sel 28))),
             iOp (put 30) (.v false (oEq (.one 1) (sel 29) ⟨fun _ => .int .i64 0⟩)),
             iOp (put 31) (.v false (oEv (sel 30))),
             iGuard (sel 31) false (put 32) (iOp (put 32) (.v false (oEv (sel 1)))),
             iGuard (sel 31) false (put 33) (iOp (put 33) (.v false (oLenS (sel 32)))),
             iGuard (sel 31) false (put 34) (iOp (put 34) (.v false (oInt2 fGtr (sel 33) ⟨fun _ => .int .i64 64⟩))),
             iOp (put 35) (.v false (oPick (sel 31) ⟨fun _ => .bool true⟩ (sel 34))),
             iOp (put 27) (.v false (oEv (sel 35)))])
           (sCond (sel 27)
             (sSeq (sRegion [iOp (put 6) (.v false (oEv ⟨fun _ => .int .i64 1⟩))])
              (sEx .ret))
             (sEx .normal))))))))
   (sSeq (sRegion [iOp (put 36) (.v false (oEv (sel 0))),
      iOp (put 37) (.v false (oNilCheck (sel 36))),
      iOp (put 38) (.v false (oFieldAddr 13 (sel 37))),
      iOp (put 39) (.v true (oLoad1 (sel 38))),
      iOp (put 40) (.v false (oInt2 fAdd (sel 39) ⟨fun _ => .int .u32 1⟩)),
      iOp (put 41) (.v false (oNilCheck (sel 36))),
      iOp (put 42) (.v false (oFieldAddr 13 (sel 41))),
      iOp ⟨fun _ a => a⟩ (.e (eStore 1 (sel 42) (sel 40)))])
    (sSeq (sDr [iOp (put 43) (.v false (oEv (sel 0))),
       iOp (put 44) (.v false (oNilCheck (sel 43))),
       iOp (put 45) (.v false (oFieldAddr 13 (sel 44))),
       iOp (put 46) (.v true (oLoad1 (sel 45))),
       iOp (put 47) (.e (eCallF 58 [⟨fun _ => .slice none 0 0⟩, (sel 46)])),
       iOp (put 48) (.v false (oEv (sel 0))),
       iOp (put 49) (.v false (oNilCheck (sel 48))),
       iOp (put 50) (.v false (oFieldAddr 10 (sel 49))),
       iOp (put 51) (.v true (oLoad1 (sel 50))),
       iOp (put 52) (.e (eCallF 59 [(sel 51)])),
       iOp (put 53) (.v false (oInt2 fSub (sel 52) ⟨fun _ => .int .u32 1⟩)),
       iOp (put 54) (.e (eCallF 58 [(sel 47), (sel 53)])),
       iOp (put 7) (.v false (oEv (sel 54)))]
       [(8, none, (oLoad1 (sel 50)), [0, 5])])
     (sSeq (sSeq (sRegion [iOp (put 55) (.v false (oEv (sel 1))),
         iOp (put 56) (.v false (oLenS (sel 55))),
         iOp (put 57) (.v false (oEv ⟨fun _ => .int .i64 0⟩))])
       (sBlock 1 (sLoop c25_0)))
      (sSeq (sRegion [iOp (put 65) (.v false (oEv (sel 0))),
         iOp (put 66) (.v false (oEv (sel 1))),
         iOp (put 67) (.e (eAppend 43 1 2 ⟨fun _ => .slice none 0 0⟩ (sel 66))),
         iOp (put 68) (.v false (oNilCheck (sel 65))),
         iOp (put 69) (.v false (oFieldAddr 16 (sel 68))),
         iOp ⟨fun _ a => a⟩ (.e (eStore 1 (sel 69) (sel 67)))])
       (sSeq (sRegion [iOp (put 70) (.v false (oEv (sel 0))),
          iOp (put 71) (.v false (oEv (sel 7))),
          iOp (put 72) (.v false (oBuild [.int .u16 0, .slice none 0 0] [(0, 1, ⟨fun _ => .int .u16 13⟩), (1, 1, (sel 71))])),
          iOp (put 73) (.a (aBuildSlice 117 1 (rep 1 [.int .u16 0, .slice none 0 0]) [(0, 2, (sel 72))])),
          iOp (put 74) (.v false (oBuild [.int .u8 0, .int .u8 0, .int .u32 0, .int .u32 0, .int .u16 0, .int .u16 0, .int .u32 0, .slice none 0 0, .slice none 0 0, .slice none 0 0, .slice none 0 0, .slice none 0 0] [(0, 1, ⟨fun _ => .int .u8 130⟩), (10, 1, (sel 73))])),
          iOp (put 75) (.v false (oEv (sel 2))),
          iOp (put 76) (.e (eCallF 34 [(sel 75)])),
          iOp (put 77) (.e (eCallF 33 [(sel 70), ⟨fun _ => .int .i64 3⟩, (sel 74), (sel 76)]))])
        (sSeq (sRegion [iOp (put 6) (.v false (oEv ⟨fun _ => .int .i64 0⟩))])
         (sEx .ret))))))))⟩
theorem d25 : denF Tryz.prog 25 = some c25 := denF_of (by kernel_rfl)
/-- (*bollard/assoc.Assoc).Restarted -/
noncomputable def c26 : CF := ⟨14, [.tmp (sel 2)],
  sSeq (sRegion [iOp (put 2) (.v false (oEv ⟨fun _ => .slice none 0 0⟩))])
  (sSeq (sSeq (sRegion [iOp (put 4) (.v false (oEv (sel 0))),
      iOp (put 5) (.v false (oEq (.one 3) (sel 4) ⟨fun _ => .pointer none⟩))])
    (sCond (sel 5)
      (sSeq (sRegion [iOp (put 2) (.v false (oEv ⟨fun _ => .slice none 0 0⟩))])
       (sEx .ret))
      (sEx .normal)))
   (sSeq (sRegion [iOp (put 6) (.v false (oEv (sel 0))),
      iOp (put 7) (.v false (oNilCheck (sel 6))),
      iOp (put 8) (.v false (oFieldAddr 17 (sel 7))),
      iOp (put 9) (.v true (oLoad1 (sel 8))),
      iOp (put 3) (.v false (oEv (sel 9)))])
    (sSeq (sRegion [iOp (put 10) (.v false (oEv (sel 0))),
       iOp (put 11) (.v false (oNilCheck (sel 10))),
       iOp (put 12) (.v false (oFieldAddr 17 (sel 11))),
       iOp ⟨fun _ a => a⟩ (.e (eStore 1 (sel 12) ⟨fun _ => .slice none 0 0⟩))])
     (sSeq (sRegion [iOp (put 13) (.v false (oEv (sel 3))),
        iOp (put 2) (.v false (oEv (sel 13)))])
      (sEx .ret)))))⟩
theorem d26 : denF Tryz.prog 26 = some c26 := denF_of (by kernel_rfl)
/-- (*bollard/assoc.Assoc).Performed -/
noncomputable def c27 : CF := ⟨14, [.tmp (sel 2)],
  sSeq (sRegion [iOp (put 2) (.v false (oEv ⟨fun _ => .slice none 0 0⟩))])
  (sSeq (sSeq (sRegion [iOp (put 4) (.v false (oEv (sel 0))),
      iOp (put 5) (.v false (oEq (.one 3) (sel 4) ⟨fun _ => .pointer none⟩))])
    (sCond (sel 5)
      (sSeq (sRegion [iOp (put 2) (.v false (oEv ⟨fun _ => .slice none 0 0⟩))])
       (sEx .ret))
      (sEx .normal)))
   (sSeq (sRegion [iOp (put 6) (.v false (oEv (sel 0))),
      iOp (put 7) (.v false (oNilCheck (sel 6))),
      iOp (put 8) (.v false (oFieldAddr 18 (sel 7))),
      iOp (put 9) (.v true (oLoad1 (sel 8))),
      iOp (put 3) (.v false (oEv (sel 9)))])
    (sSeq (sRegion [iOp (put 10) (.v false (oEv (sel 0))),
       iOp (put 11) (.v false (oNilCheck (sel 10))),
       iOp (put 12) (.v false (oFieldAddr 18 (sel 11))),
       iOp ⟨fun _ a => a⟩ (.e (eStore 1 (sel 12) ⟨fun _ => .slice none 0 0⟩))])
     (sSeq (sRegion [iOp (put 13) (.v false (oEv (sel 3))),
        iOp (put 2) (.v false (oEv (sel 13)))])
      (sEx .ret)))))⟩
theorem d27 : denF Tryz.prog 27 = some c27 := denF_of (by kernel_rfl)
/-- (*bollard/assoc.Assoc).Times -/
noncomputable def c28 : CF := ⟨9, [.tmp (sel 2)],
  sSeq (sRegion [iOp (put 2) (.v false (oEv ⟨fun _ => .int .i64 0⟩))])
  (sSeq (sSeq (sRegion [iOp (put 3) (.v false (oEv (sel 0))),
      iOp (put 4) (.v false (oEq (.one 3) (sel 3) ⟨fun _ => .pointer none⟩))])
    (sCond (sel 4)
      (sSeq (sRegion [iOp (put 2) (.v false (oEv ⟨fun _ => .int .i64 0⟩))])
       (sEx .ret))
      (sEx .normal)))
   (sSeq (sRegion [iOp (put 5) (.v false (oEv (sel 0))),
      iOp (put 6) (.v false (oNilCheck (sel 5))),
      iOp (put 7) (.v false (oFieldAddr 19 (sel 6))),
      iOp (put 8) (.v true (oLoad1 (sel 7))),
      iOp (put 2) (.v false (oEv (sel 8)))])
    (sEx .ret)))⟩
theorem d28 : denF Tryz.prog 28 = some c28 := denF_of (by kernel_rfl)
/-- (*bollard/assoc.Assoc).in -/
noncomputable def c35 : CF := ⟨9, [.tmp (sel 4)],
  sSeq (sRegion [iOp (put 4) (.v false (oEv ⟨fun _ => .bool false⟩))])
  (sSeq (sRegion [iOp (put 5) (.v false (oEv (sel 1))),
     iOp (put 6) (.v false (oEv (sel 0))),
     iOp (put 7) (.e (eCallF 14 [(sel 6)])),
     iOp (put 8) (.e (eCallF 66 [(sel 5), (sel 7)])),
     iOp (put 4) (.v false (oEv (sel 8)))])
   (sEx .ret))⟩
theorem d35 : denF Tryz.prog 35 = some c35 := denF_of (by kernel_rfl)
noncomputable def c63_0 : Vm.Sem := sSeq (sRegion [iOp (put 10) (.v false (oInt2 fLss (sel 9) ⟨fun _ => .int .i64 8⟩))])
 (sSeq (sCond (sel 10)
    (sEx .normal)
    (sEx (.exit 2)))
  (sSeq (sBlock 3 (sRegion [iOp (put 11) (.v false (oEv (sel 3))),
      iOp (put 12) (.v false (oSh fShr (sel 11) ⟨fun _ => .int .u64 1⟩)),
      iOp (put 13) (.v false (oEv (sel 3))),
      iOp (put 14) (.v false (oInt2 fAnd (sel 13) ⟨fun _ => .int .u32 1⟩)),
      iOp (put 15) (.v false (oNeg (sel 14))),
      iOp (put 16) (.v false (oInt2 fAnd ⟨fun _ => .int .u32 2197175160⟩ (sel 15))),
      iOp (put 17) (.v false (oInt2 fXor (sel 12) (sel 16))),
      iOp (put 3) (.v false (oEv (sel 17)))]))
   (sRegion [iOp (put 18) (.v false (oInt2 fAdd (sel 9) ⟨fun _ => .int .i64 1⟩)),
     iOp (put 9) (.v false (oEv (sel 18)))])))
noncomputable def c63_1 : Vm.Sem := sSeq (sRegion [iOp (put 5) (.v false (oInt2 fLss (sel 4) ⟨fun _ => .int .i64 256⟩))])
 (sSeq (sCond (sel 5)
    (sEx .normal)
    (sEx (.exit 0)))
  (sSeq (sBlock 1 (sSeq (sRegion [iOp (put 6) (.v false (oEv (sel 4))),
       iOp (put 2) (.v false (oEv (sel 6)))])
     (sSeq (sRegion [iOp (put 7) (.v false (oEv (sel 2))),
        iOp (put 8) (.v false (oConvInt .u32 (sel 7))),
        iOp (put 3) (.v false (oEv (sel 8)))])
      (sSeq (sSeq (sRegion [iOp (put 9) (.v false (oEv ⟨fun _ => .int .i64 0⟩))])
        (sBlock 2 (sLoop c63_0)))
       (sRegion [iOp (put 19) (.v false (oEv (sel 2))),
         iOp (put 20) (.v false (oEv (sel 3))),
         iOp (put 21) (.v false (oIndexAddrA 256 1 (sel 1) (sel 19))),
         iOp ⟨fun _ a => a⟩ (.e (eStore 1 (sel 21) (sel 20)))])))))
   (sRegion [iOp (put 22) (.v false (oInt2 fAdd (sel 4) ⟨fun _ => .int .i64 1⟩)),
     iOp (put 4) (.v false (oEv (sel 22)))])))
/-- bollard/crc.Table -/
noncomputable def c63 : CF := ⟨24, [.tmp (sel 0)],
  sSeq (sRegion [iOp (put 0) (.v false (oEv ⟨fun _ => .slice none 0 0⟩))])
  (sSeq (sRegion [iOp (put 1) (.a (aAlloc 177 [.int .u32 0, .int .u32 0, .int .u32 0, .int .u32 0, .int .u32 0, .int .u32 0, .int .u32 0, .int .u32 0, .int .u32 0, .int .u32 0, .int .u32 0, .int .u32 0, .int .u32 0, .int .u32 0, .int .u32 0, .int .u32 0, .int .u32 0, .int .u32 0, .int .u32 0, .int .u32 0, .int .u32 0, .int .u32 0, .int .u32 0, .int .u32 0, .int .u32 0, .int .u32 0, .int .u32 0, .int .u32 0, .int .u32 0, .int .u32 0, .int .u32 0, .int .u32 0, .int .u32 0, .int .u32 0, .int .u32 0, .int .u32 0, .int .u32 0, .int .u32 0, .int .u32 0, .int .u32 0, .int .u32 0, .int .u32 0, .int .u32 0, .int .u32 0, .int .u32 0, .int .u32 0, .int .u32 0, .int .u32 0, .int .u32 0, .int .u32 0, .int .u32 0, .int .u32 0, .int .u32 0, .int .u32 0, .int .u32 0, .int .u32 0, .int .u32 0, .int .u32 0, .int .u32 0, .int .u32 0, .int .u32 0, .int .u32 0, .int .u32 0, .int .u32 0, .int .u32 0, .int .u32 0, .int .u32 0, .int .u32 0, .int .u32 0, .int .u32 0, .int .u32 0, .int .u32 0, .int .u32 0, .int .u32 0, .int .u32 0, .int .u32 0, .int .u32 0, .int .u32 0, .int .u32 0, .int .u32 0, .int .u32 0, .int .u32 0, .int .u32 0, .int .u32 0, .int .u32 0, .int .u32 0, .int .u32 0, .int .u32 0, .int .u32 0, .int .u32 0, .int .u32 0, .int .u32 0, .int .u32 0, .int .u32 0, .int .u32 0, .int .u32 0, .int .u32 0, .int .u32 0, .int .u32 0, .int .u32 0, .int .u32 0, .int .u32 0, .int .u32 0, .int .u32 0, .int .u32 0, .int .u32 0, .int .u32 0, .int .u32 0, .int .u32 0, .int .u32 0, .int .u32 0, .int .u32 0, .int .u32 0, .int .u32 0, .int .u32 0, .int .u32 0, .int .u32 0, .int .u32 0, .int .u32 0, .int .u32 0, .int .u32 0, .int .u32 0, .int .u32 0, .int .u32 0, .int .u32 0, .int .u32 0, .int .u32 0, .int .u32 0, .int .u32 0, .int .u32 0, .int .u32 0, .int .u32 0, .int .u32 0, .int .u32 0, .int .u32 0, .int .u32 0, .int .u32 0, .int .u32 0, .int .u32 0, .int .u32 0, .int .u32 0, .int .u32 0, .int .u32 0, .int .u32 0, .int .u32 0, .int .u32 0, .int .u32 0, .int .u32 0, .int .u32 0, .int .u32 0, .int .u32 0, .int .u32 0, .int .u32 0, .int .u32 0, .int .u32 0, .int .u32 0, .int .u32 0, .int .u32 0, .int .u32 0, .int .u32 0, .int .u32 0, .int .u32 0, .int .u32 0, .int .u32 0, .int .u32 0, .int .u32 0, .int .u32 0, .int .u32 0, .int .u32 0, .int .u32 0, .int .u32 0, .int .u32 0, .int .u32 0, .int .u32 0, .int .u32 0, .int .u32 0, .int .u32 0, .int .u32 0, .int .u32 0, .int .u32 0, .int .u32 0, .int .u32 0, .int .u32 0, .int .u32 0, .int .u32 0, .int .u32 0, .int .u32 0, .int .u32 0, .int .u32 0, .int .u32 0, .int .u32 0, .int .u32 0, .int .u32 0, .int .u32 0, .int .u32 0, .int .u32 0, .int .u32 0, .int .u32 0, .int .u32 0, .int .u32 0, .int .u32 0, .int .u32 0, .int .u32 0, .int .u32 0, .int .u32 0, .int .u32 0, .int .u32 0, .int .u32 0, .int .u32 0, .int .u32 0, .int .u32 0, .int .u32 0, .int .u32 0, .int .u32 0, .int .u32 0, .int .u32 0, .int .u32 0, .int .u32 0, .int .u32 0, .int .u32 0, .int .u32 0, .int .u32 0, .int .u32 0, .int .u32 0, .int .u32 0, .int .u32 0, .int .u32 0, .int .u32 0, .int .u32 0, .int .u32 0, .int .u32 0, .int .u32 0, .int .u32 0, .int .u32 0, .int .u32 0, .int .u32 0, .int .u32 0, .int .u32 0, .int .u32 0, .int .u32 0, .int .u32 0, .int .u32 0, .int .u32 0, .int .u32 0, .int .u32 0, .int .u32 0, .int .u32 0, .int .u32 0, .int .u32 0, .int .u32 0, .int .u32 0, .int .u32 0, .int .u32 0, .int .u32 0, .int .u32 0, .int .u32 0]))])
   (sSeq (sSeq (sRegion [iOp (put 4) (.v false (oEv ⟨fun _ => .int .i64 0⟩))])
     (sBlock 0 (sLoop c63_1)))
    (sSeq (sRegion [iOp (put 23) (.v false (oSliceA 256 1 (sel 1) none none none)),
       iOp (put 0) (.v false (oEv (sel 23)))])
     (sEx .ret))))⟩
theorem d63 : denF Tryz.prog 63 = some c63 := denF_of (by kernel_rfl)
/-- slices.Contains[[]int,int] -/
noncomputable def c66 : CF := ⟨9, [.tmp (sel 4)],
  sSeq (sRegion [iOp (put 4) (.v false (oEv ⟨fun _ => .bool false⟩))])
  (sSeq (sRegion [iOp (put 5) (.v false (oEv (sel 0))),
     iOp (put 6) (.v false (oEv (sel 1))),
     iOp (put 7) (.e (eCallF 110 [(sel 5), (sel 6)])),
     iOp (put 8) (.v false (oInt2 fGeq (sel 7) ⟨fun _ => .int .i64 0⟩)),
     iOp (put 4) (.v false (oEv (sel 8)))])
   (sEx .ret))⟩
theorem d66 : denF Tryz.prog 66 = some c66 := denF_of (by kernel_rfl)
noncomputable def c110_0 : Vm.Sem := sSeq (sRegion [iOp (put 9) (.v false (oInt2 fLss (sel 8) (sel 7)))])
 (sSeq (sCond (sel 9)
    (sEx .normal)
    (sEx (.exit 0)))
  (sSeq (sBlock 1 (sSeq (sRegion [iOp (put 10) (.v false (oEv (sel 8))),
       iOp (put 5) (.v false (oEv (sel 10)))])
     (sSeq (sRegion [iOp (put 11) (.v false (oEv (sel 1))),
        iOp (put 12) (.v false (oEv (sel 0))),
        iOp (put 13) (.v false (oEv (sel 5))),
        iOp (put 14) (.v false (oIndexAddrS 1 (sel 12) (sel 13))),
        iOp (put 15) (.v true (oLoad1 (sel 14))),
        iOp (put 16) (.v false (oEq (.one 1) (sel 11) (sel 15)))])
      (sCond (sel 16)
        (sSeq (sRegion [iOp (put 17) (.v false (oEv (sel 5))),
           iOp (put 4) (.v false (oEv (sel 17)))])
         (sEx .ret))
        (sEx .normal)))))
   (sRegion [iOp (put 18) (.v false (oInt2 fAdd (sel 8) ⟨fun _ => .int .i64 1⟩)),
     iOp (put 8) (.v false (oEv (sel 18)))])))
/-- slices.Index[[]int,int] -/
noncomputable def c110 : CF := ⟨19, [.tmp (sel 4)],
  sSeq (sRegion [iOp (put 4) (.v false (oEv ⟨fun _ => .int .i64 0⟩))])
  (sSeq (sSeq (sRegion [iOp (put 6) (.v false (oEv (sel 0))),
      iOp (put 7) (.v false (oLenS (sel 6))),
      iOp (put 8) (.v false (oEv ⟨fun _ => .int .i64 0⟩))])
    (sBlock 0 (sLoop c110_0)))
   (sSeq (sRegion [iOp (put 4) (.v false (oEv ⟨fun _ => .int .i64 (-1)⟩))])
    (sEx .ret)))⟩
theorem d110 : denF Tryz.prog 110 = some c110 := denF_of (by kernel_rfl)
noncomputable def c177_0 : Vm.Sem := sSeq (sRegion [iOp (put 15) (.v false (oInt2 fLss (sel 14) (sel 13)))])
 (sSeq (sCond (sel 15)
    (sEx .normal)
    (sEx (.exit 0)))
  (sSeq (sBlock 1 (sSeq (sRegion [iOp (put 16) (.v false (oIndexAddrS 1 (sel 12) (sel 14))),
       iOp (put 17) (.v true (oLoad1 (sel 16))),
       iOp (put 8) (.v false (oEv (sel 17)))])
     (sRegion [iOp (put 18) (.v false (oEv (sel 1))),
       iOp (put 19) (.v false (oSh fShr (sel 18) ⟨fun _ => .int .u64 8⟩)),
       iOp (put 20) (.v false (oEv (sel 0))),
       iOp (put 21) (.v false (oEv (sel 1))),
       iOp (put 22) (.v false (oConvInt .u8 (sel 21))),
       iOp (put 23) (.v false (oEv (sel 8))),
       iOp (put 24) (.v false (oInt2 fXor (sel 22) (sel 23))),
       iOp (put 25) (.v false (oIndexAddrS 1 (sel 20) (sel 24))),
       iOp (put 26) (.v true (oLoad1 (sel 25))),
       iOp (put 27) (.v false (oInt2 fXor (sel 19) (sel 26))),
       iOp (put 1) (.v false (oEv (sel 27)))])))
   (sRegion [iOp (put 28) (.v false (oInt2 fAdd (sel 14) ⟨fun _ => .int .i64 1⟩)),
     iOp (put 14) (.v false (oEv (sel 28)))])))
/-- bollard/crc.Step -/
noncomputable def c177 : CF := ⟨30, [.tmp (sel 6)],
  sSeq (sRegion [iOp (put 6) (.v false (oEv ⟨fun _ => .int .u32 0⟩))])
  (sSeq (sSeq (sRegion [iOp (put 9) (.v false (oEv (sel 0))),
      iOp (put 10) (.v false (oLenS (sel 9))),
      iOp (put 11) (.v false (oNe (.one 1) (sel 10) ⟨fun _ => .int .i64 256⟩))])
    (sCond (sel 11)
      (sSeq (sRegion [iOp (put 6) (.v false (oEv ⟨fun _ => .int .u32 0⟩))])
       (sEx .ret))
      (sEx .normal)))
   (sSeq (sSeq (sRegion [iOp (put 12) (.v false (oEv (sel 2))),
       iOp (put 13) (.v false (oLenS (sel 12))),
       iOp (put 14) (.v false (oEv ⟨fun _ => .int .i64 0⟩))])
     (sBlock 0 (sLoop c177_0)))
    (sSeq (sRegion [iOp (put 29) (.v false (oEv (sel 1))),
       iOp (put 6) (.v false (oEv (sel 29)))])
     (sEx .ret))))⟩
theorem d177 : denF Tryz.prog 177 = some c177 := denF_of (by kernel_rfl)
end Go.Proofs.YtmnhkjbplfkpfaaGreat

