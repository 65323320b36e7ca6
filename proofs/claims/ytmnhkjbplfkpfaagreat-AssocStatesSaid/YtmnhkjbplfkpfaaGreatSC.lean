/- Part of a proof by an abstract run of the program's code: SC. No condition. -/
import Derived.Test.YtmnhkjbplfkpfaaGreatChecked
import Derived.Test.YtmnhkjbplfkpfaaGreatVmD
namespace Go.Proofs.YtmnhkjbplfkpfaaGreat
open Go Vm
/-- bollard/bollardlaw17.AssocStates -/
noncomputable def c7 : CF := ⟨123, [.tmp (sel 4)],
  sSeq (sRegion [iOp (put 4) (.v false (oEv ⟨fun _ => .bool false⟩))])
  (sSeq (sRegion [iOp (put 17) (.e (eCallF 9 [])),
     iOp (put 5) (.v false (oEv (sel 17)))])
   (sSeq (sRegion [iOp (put 19) (.e (eCallF 10 [⟨fun _ => .int .i64 1200⟩])),
      iOp (put 18) (.v false (oEv (sel 19))),
      iOp (put 20) (.v false (oExtract (sel 18) 0)),
      iOp (put 21) (.v false (oExtract (sel 18) 1)),
      iOp (put 6) (.v false (oEv (sel 20))),
      iOp (put 7) (.v false (oEv (sel 21)))])
    (sSeq (sRegion [iOp (put 22) (.a (aBuildSlice 5 1 (rep 1 [.int .u8 0]) [(0, 1, ⟨fun _ => .int .u8 1⟩)])),
       iOp (put 23) (.v false (oBuild [.int .u16 0, .bool false, .int .u32 0, .slice none 0 0] [(0, 1, ⟨fun _ => .int .u16 0⟩), (3, 1, (sel 22))])),
       iOp (put 8) (.a (aAlloc 63 [.int .u16 0, .bool false, .int .u32 0, .slice none 0 0])),
       iOp ⟨fun _ a => a⟩ (.e (eStore 4 (sel 8) (sel 23)))])
     (sSeq (sSeq (sRegion [iOp (put 24) (.v false (oEv (sel 6))),
         iOp (put 25) (.v true (oLoadN 4 (sel 8))),
         iOp (put 26) (.v false (oEv (sel 1))),
         iOp (put 27) (.e (eCallF 24 [(sel 24), (sel 25), ⟨fun _ => .int .i64 (-1)⟩, ⟨fun _ => .int .i64 (-1)⟩, (sel 26)])),
         iOp (put 28) (.v false (oNe (.one 1) (sel 27) ⟨fun _ => .int .i64 8⟩)),
         iOp (put 29) (.v false (oEv (sel 28))),
         iGuard (sel 29) false (put 30) (iOp (put 30) (.v false (oEv (sel 6)))),
         iGuard (sel 29) false (put 31) (iOp (put 31) (.v false (oEv (sel 1)))),
         iGuard (sel 29) false (put 32) (iOp (put 32) (.e (eCallF 23 [(sel 30), (sel 31)]))),
         iGuard (sel 29) false (put 33) (iOp (put 33) (.v false (oNe (.one 1) (sel 32) ⟨fun _ => .int .i64 8⟩))),
         iOp (put 34) (.v false (oPick (sel 29) ⟨fun _ => .bool true⟩ (sel 33))),
         iOp (put 35) (.v false (oEv (sel 34))),
         iGuard (sel 35) false (put 36) (iOp (put 36) (.v false (oEv (sel 6)))),
         iGuard (sel 35) false (put 37) (iOp (put 37) (.a (aBuildSlice 43 1 (rep 1 [.int .u16 0]) [(0, 1, ⟨fun _ => .int .u16 0⟩)]))),
         iGuard (sel 35) false (put 38) (iOp (put 38) (.v false (oEv (sel 1)))),
         iGuard (sel 35) false (put 39) (iOp (put 39) (.e (eCallF 25 [(sel 36), (sel 37), (sel 38)]))),
         iGuard (sel 35) false (put 40) (iOp (put 40) (.v false (oNe (.one 1) (sel 39) ⟨fun _ => .int .i64 8⟩))),
         iOp (put 41) (.v false (oPick (sel 35) ⟨fun _ => .bool true⟩ (sel 40))),
         iOp (put 42) (.v false (oEv (sel 41))),
         iGuard (sel 42) false (put 43) (iOp (put 43) (.v false (oEv (sel 6)))),
         iGuard (sel 42) false (put 44) (iOp (put 44) (.e (eCallF 22 [(sel 43)]))),
         iGuard (sel 42) false (put 45) (iOp (put 45) (.v false (oLenS (sel 44)))),
         iGuard (sel 42) false (put 46) (iOp (put 46) (.v false (oNe (.one 1) (sel 45) ⟨fun _ => .int .i64 0⟩))),
         iOp (put 47) (.v false (oPick (sel 42) ⟨fun _ => .bool true⟩ (sel 46))),
         iOp (put 48) (.v false (oEv (sel 47))),
         iGuard (sel 48) false (put 49) (iOp (put 49) (.v false (oEv (sel 6)))),
         iGuard (sel 48) false (put 50) (iOp (put 50) (.e (eCallF 14 [(sel 49)]))),
         iGuard (sel 48) false (put 51) (iOp (put 51) (.v false (oNe (.one 1) (sel 50) ⟨fun _ => .int .i64 0⟩))),
         iOp (put 52) (.v false (oPick (sel 48) ⟨fun _ => .bool true⟩ (sel 51)))])
       (sCond (sel 52)
         (sSeq (sRegion [iOp (put 4) (.v false (oEv ⟨fun _ => .bool false⟩))])
          (sEx .ret))
         (sEx .normal)))
      (sSeq (sRegion [iOp (put 53) (.v false (oEv (sel 6))),
         iOp (put 54) (.v false (oEv (sel 1))),
         iOp (put 55) (.v false (oEv (sel 0))),
         iOp (put 56) (.e (eCallF 11 [(sel 53), (sel 54), (sel 55)])),
         iOp (put 9) (.v false (oEv (sel 56)))])
       (sSeq (sRegion [iOp (put 57) (.v false (oEv (sel 6))),
          iOp (put 58) (.v false (oEv (sel 1))),
          iOp (put 59) (.v false (oEv (sel 0))),
          iOp (put 60) (.e (eCallF 11 [(sel 57), (sel 58), (sel 59)])),
          iOp (put 10) (.v false (oEv (sel 60)))])
        (sSeq (sRegion [iOp (put 61) (.v false (oEv (sel 6))),
           iOp (put 62) (.v true (oLoadN 4 (sel 8))),
           iOp (put 63) (.v false (oEv (sel 1))),
           iOp (put 64) (.e (eCallF 24 [(sel 61), (sel 62), ⟨fun _ => .int .i64 (-1)⟩, ⟨fun _ => .int .i64 (-1)⟩, (sel 63)])),
           iOp (put 11) (.v false (oEv (sel 64)))])
         (sSeq (sRegion [iOp (put 65) (.v false (oEv (sel 6))),
            iOp (put 66) (.v false (oEv (sel 1))),
            iOp (put 67) (.e (eCallF 23 [(sel 65), (sel 66)])),
            iOp (put 12) (.v false (oEv (sel 67)))])
          (sSeq (sRegion [iOp (put 69) (.v false (oEv (sel 6))),
             iOp (put 70) (.e (eCallF 17 [(sel 69)])),
             iOp (put 68) (.v false (oEv (sel 70))),
             iOp (put 71) (.v false (oExtract (sel 68) 0)),
             iOp (put 72) (.v false (oExtract (sel 68) 1)),
             iOp (put 13) (.v false (oEv (sel 71))),
             iOp (put 14) (.v false (oEv (sel 72)))])
           (sSeq (sRegion [iOp (put 73) (.v false (oEv (sel 6))),
              iOp (put 74) (.e (eCallF 14 [(sel 73)])),
              iOp (put 15) (.v false (oEv (sel 74)))])
            (sSeq (sRegion [iOp (put 75) (.v false (oEv (sel 6))),
               iOp (put 76) (.e (eCallF 22 [(sel 75)])),
               iOp (put 16) (.v false (oEv (sel 76)))])
             (sSeq (sRegion [iOp (put 77) (.v false (oEv (sel 5))),
                iOp (put 78) (.v false (oEv (sel 77))),
                iGuard (sel 78) true (put 79) (iOp (put 79) (.v false (oEv (sel 9)))),
                iGuard (sel 78) true (put 80) (iOp (put 80) (.v false (oEq (.one 1) (sel 79) ⟨fun _ => .int .i64 0⟩))),
                iOp (put 81) (.v false (oPick (sel 78) (sel 80) ⟨fun _ => .bool false⟩)),
                iOp (put 82) (.v false (oEv (sel 81))),
                iGuard (sel 82) true (put 83) (iOp (put 83) (.v false (oEv (sel 10)))),
                iGuard (sel 82) true (put 84) (iOp (put 84) (.v false (oEq (.one 1) (sel 83) ⟨fun _ => .int .i64 8⟩))),
                iOp (put 85) (.v false (oPick (sel 82) (sel 84) ⟨fun _ => .bool false⟩)),
                iOp (put 86) (.v false (oEv (sel 85))),
                iGuard (sel 86) true (put 87) (iOp (put 87) (.v false (oEv (sel 11)))),
                iGuard (sel 86) true (put 88) (iOp (put 88) (.v false (oEq (.one 1) (sel 87) ⟨fun _ => .int .i64 8⟩))),
                iOp (put 89) (.v false (oPick (sel 86) (sel 88) ⟨fun _ => .bool false⟩)),
                iOp (put 90) (.v false (oEv (sel 89))),
                iGuard (sel 90) true (put 91) (iOp (put 91) (.v false (oEv (sel 12)))),
                iGuard (sel 90) true (put 92) (iOp (put 92) (.v false (oEq (.one 1) (sel 91) ⟨fun _ => .int .i64 8⟩))),
                iOp (put 93) (.v false (oPick (sel 90) (sel 92) ⟨fun _ => .bool false⟩)),
                iOp (put 94) (.v false (oEv (sel 93))),
                iGuard (sel 94) true (put 95) (iOp (put 95) (.v false (oEv (sel 13)))),
                iGuard (sel 94) true (put 96) (iOp (put 96) (.v false (oNe (.one 1) (sel 95) ⟨fun _ => .int .u32 0⟩))),
                iOp (put 97) (.v false (oPick (sel 94) (sel 96) ⟨fun _ => .bool false⟩)),
                iOp (put 98) (.v false (oEv (sel 97))),
                iGuard (sel 98) true (put 99) (iOp (put 99) (.v false (oEv (sel 14)))),
                iGuard (sel 98) true (put 100) (iOp (put 100) (.v false (oEq (.one 1) (sel 99) ⟨fun _ => .int .u32 0⟩))),
                iOp (put 101) (.v false (oPick (sel 98) (sel 100) ⟨fun _ => .bool false⟩)),
                iOp (put 102) (.v false (oEv (sel 101))),
                iGuard (sel 102) true (put 103) (iOp (put 103) (.v false (oEv (sel 15)))),
                iGuard (sel 102) true (put 104) (iOp (put 104) (.v false (oEq (.one 1) (sel 103) ⟨fun _ => .int .i64 1⟩))),
                iOp (put 105) (.v false (oPick (sel 102) (sel 104) ⟨fun _ => .bool false⟩)),
                iOp (put 106) (.v false (oEv (sel 105))),
                iGuard (sel 106) true (put 107) (iOp (put 107) (.v false (oEv (sel 16)))),
                iGuard (sel 106) true (put 108) (iOp (put 108) (.v false (oLenS (sel 107)))),
                iGuard (sel 106) true (put 109) (iOp (put 109) (.v false (oEq (.one 1) (sel 108) ⟨fun _ => .int .i64 0⟩))),
                iOp (put 110) (.v false (oPick (sel 106) (sel 109) ⟨fun _ => .bool false⟩)),
                iOp (put 111) (.v false (oEv (sel 110))),
                iGuard (sel 111) true (put 112) (iOp (put 112) (.v false (oEv (sel 6)))),
                iGuard (sel 111) true (put 113) (iOp (put 113) (.e (eCallF 14 [(sel 112)]))),
                iGuard (sel 111) true (put 114) (iOp (put 114) (.v false (oEq (.one 1) (sel 113) ⟨fun _ => .int .i64 8⟩))),
                iOp (put 115) (.v false (oPick (sel 111) (sel 114) ⟨fun _ => .bool false⟩)),
                iOp (put 116) (.v false (oEv (sel 115))),
                iGuard (sel 116) true (put 117) (iOp (put 117) (.v false (oEv (sel 6)))),
                iGuard (sel 116) true (put 118) (iOp (put 118) (.v false (oEv (sel 1)))),
                iGuard (sel 116) true (put 119) (iOp (put 119) (.v false (oEv (sel 0)))),
                iGuard (sel 116) true (put 120) (iOp (put 120) (.e (eCallF 11 [(sel 117), (sel 118), (sel 119)]))),
                iGuard (sel 116) true (put 121) (iOp (put 121) (.v false (oEq (.one 1) (sel 120) ⟨fun _ => .int .i64 8⟩))),
                iOp (put 122) (.v false (oPick (sel 116) (sel 121) ⟨fun _ => .bool false⟩)),
                iOp (put 4) (.v false (oEv (sel 122)))])
              (sEx .ret)))))))))))))⟩
theorem d7 : denF Tryz.prog 7 = some c7 := denF_of (by kernel_rfl)
/-- (*bollard/assoc.Assoc).Start -/
noncomputable def c11 : CF := ⟨46, [.tmp (sel 6)],
  sSeq (sRegion [iOp (put 6) (.v false (oEv ⟨fun _ => .int .i64 0⟩))])
  (sSeq (sBlock 0 (sSeq (sRegion [iOp (put 9) (.v false (oEv (sel 0))),
       iOp (put 10) (.v false (oEq (.one 3) (sel 9) ⟨fun _ => .pointer none⟩)),
       iOp (put 8) (.v false (oEv (sel 10)))])
     (sCond (sel 8)
       (sSeq (sRegion [iOp (put 6) (.v false (oEv ⟨fun _ => .int .i64 1⟩))])
        (sEx .ret))
       (sSeq (sRegion [iOp (put 12) (.v false (oEv (sel 0))),
          iOp (put 13) (.v false (oNilCheck (sel 12))),
          iOp (put 14) (.v false (oFieldAddr 7 (sel 13))),
          iOp (put 15) (.v true (oLoad1 (sel 14))),
          iOp (put 16) (.v false (oNe (.one 1) (sel 15) ⟨fun _ => .int .i64 0⟩)),
          iOp (put 11) (.v false (oEv (sel 16)))])
        (sCond (sel 11)
          (sSeq (sRegion [iOp (put 6) (.v false (oEv ⟨fun _ => .int .i64 8⟩))])
           (sEx .ret))
          (sEx .normal))))))
   (sSeq (sRegion [iOp (put 17) (.v false (oEv (sel 0))),
      iOp (put 18) (.v false (oEv (sel 0))),
      iOp (put 19) (.v false (oEv (sel 2))),
      iOp (put 20) (.e (eCallF 32 [(sel 19)])),
      iOp (put 21) (.v false (oNilCheck (sel 17))),
      iOp (put 22) (.v false (oFieldAddr 7 (sel 21))),
      iOp ⟨fun _ a => a⟩ (.e (eStore 1 (sel 22) ⟨fun _ => .int .i64 1⟩)),
      iOp (put 23) (.v false (oNilCheck (sel 18))),
      iOp (put 24) (.v false (oFieldAddr 8 (sel 23))),
      iOp ⟨fun _ a => a⟩ (.e (eStore 1 (sel 24) (sel 20)))])
    (sSeq (sRegion [iOp (put 25) (.v false (oEv (sel 0))),
       iOp (put 26) (.v false (oNilCheck (sel 25))),
       iOp (put 27) (.v false (oFieldAddr 0 (sel 26))),
       iOp (put 28) (.v false (oFieldAddr 3 (sel 27))),
       iOp (put 29) (.v true (oLoad1 (sel 28))),
       iOp (put 30) (.v false (oConvInt .u16 (sel 29))),
       iOp (put 7) (.v false (oEv (sel 30)))])
     (sSeq (sDr [iOp (put 31) (.v false (oEv (sel 0))),
        iOp (put 32) (.v false (oEv (sel 0))),
        iOp (put 33) (.v false (oNilCheck (sel 32))),
        iOp (put 34) (.v false (oFieldAddr 8 (sel 33))),
        iOp (put 35) (.v true (oLoad1 (sel 34))),
        iOp (put 36) (.v false (oEv (sel 7))),
        iOp (put 37) (.v false (oEv (sel 7))),
        iOp (put 38) (.v false (oEv (sel 0))),
        iOp (put 39) (.v false (oNilCheck (sel 38))),
        iOp (put 40) (.v false (oFieldAddr 8 (sel 39))),
        iOp (put 41) (.v true (oLoad1 (sel 40))),
        iOp (put 42) (.v false (oBuild [.int .u8 0, .int .u8 0, .int .u32 0, .int .u32 0, .int .u16 0, .int .u16 0, .int .u32 0, .slice none 0 0, .slice none 0 0, .slice none 0 0, .slice none 0 0, .slice none 0 0] [(0, 1, ⟨fun _ => .int .u8 1⟩), (2, 1, (sel 35)), (3, 1, ⟨fun _ => .int .u32 65536⟩), (4, 1, (sel 36)), (5, 1, (sel 37)), (6, 1, (sel 41))])),
        iOp (put 43) (.v false (oEv (sel 1))),
        iOp (put 44) (.e (eCallF 34 [(sel 43)])),
        iOp (put 45) (.e (eCallF 33 [(sel 31), ⟨fun _ => .int .i64 1⟩, (sel 42), (sel 44)]))]
        [(4, none, (oLoad1 (sel 34)), [0, 14]), (10, none, (oLoad1 (sel 40)), [0, 14])])
      (sSeq (sRegion [iOp (put 6) (.v false (oEv ⟨fun _ => .int .i64 0⟩))])
       (sEx .ret))))))⟩
theorem d11 : denF Tryz.prog 11 = some c11 := denF_of (by kernel_rfl)
/-- bollard/assoc.drawn -/
noncomputable def c32 : CF := ⟨5, [.tmp (sel 2)],
  sSeq (sRegion [iOp (put 2) (.v false (oEv ⟨fun _ => .int .u32 0⟩))])
  (sSeq (sRegion [iOp (put 3) (.v false (oEv (sel 0))),
     iOp (put 4) (.v false (oBest false (sel 3) [⟨fun _ => .int .u32 1⟩])),
     iOp (put 2) (.v false (oEv (sel 4)))])
   (sEx .ret))⟩
theorem d32 : denF Tryz.prog 32 = some c32 := denF_of (by kernel_rfl)
/-- (*bollard/assoc.Assoc).say -/
noncomputable def c33 : CF := ⟨31, [],
  sSeq (sRegion [iOp (put 6) (.a (aBox 57 (sel 2)))])
  (sSeq (sDr [iOp (put 9) (.v true (oLoadN 12 (sel 6))),
     iOp (put 10) (.e (eCallF 64 [])),
     iOp (put 11) (.v false (oBuild [.int .u8 0, .int .u8 0, .int .u32 0, .int .u32 0, .int .u16 0, .int .u16 0, .int .u32 0, .slice none 0 0, .slice none 0 0, .slice none 0 0, .slice none 0 0, .slice none 0 0, .int .i64 0, .int .i64 0, .int .i64 0, .bool false, .int .i64 0, .bool false] [(0, 12, (sel 9)), (12, 4, (sel 10)), (17, 1, ⟨fun _ => .bool true⟩)])),
     iOp (put 12) (.a (aBox 90 (sel 11))),
     iOp (put 8) (.v false (oEv (sel 12)))]
     [(0, none, (oLoadN 12 (sel 6)), [0, 2])])
   (sSeq (sRegion [iOp (put 13) (.v false (oEv (sel 0))),
      iOp (put 14) (.v false (oNilCheck (sel 13))),
      iOp (put 15) (.v false (oFieldAddr 12 (sel 14))),
      iOp (put 16) (.v true (oLoad1 (sel 15))),
      iOp (put 17) (.v false (oEv (sel 1))),
      iOp (put 18) (.v false (oEv (sel 8))),
      iOp ⟨fun _ a => a⟩ (.e (eMapUpdate (.one 1) (sel 16) (sel 17) (sel 18)))])
    (sRegion [iOp (put 19) (.v false (oEv (sel 0))),
      iOp (put 20) (.v false (oNilCheck (sel 19))),
      iOp (put 21) (.v false (oFieldAddr 11 (sel 20))),
      iOp (put 22) (.v false (oEv (sel 1))),
      iOp (put 23) (.v false (oEv (sel 3))),
      iOp (put 24) (.v false (oEv (sel 8))),
      iOp (put 25) (.v false (oNilCheck (sel 24))),
      iOp (put 26) (.v false (oFieldAddr 12 (sel 25))),
      iOp (put 27) (.v false (oFieldAddr 2 (sel 26))),
      iOp (put 28) (.v true (oLoad1 (sel 27))),
      iOp (put 29) (.v false (oInt2 fAdd (sel 23) (sel 28))),
      iOp (put 30) (.e (eCallF 65 [(sel 21), (sel 22), (sel 29)]))])))⟩
theorem d33 : denF Tryz.prog 33 = some c33 := denF_of (by kernel_rfl)
/-- bollard/assoc.time -/
noncomputable def c34 : CF := ⟨6, [.tmp (sel 2)],
  sSeq (sRegion [iOp (put 2) (.v false (oEv ⟨fun _ => .int .i64 0⟩))])
  (sSeq (sRegion [iOp (put 3) (.v false (oEv (sel 0))),
     iOp (put 4) (.v false (oBest false (sel 3) [⟨fun _ => .int .i64 0⟩])),
     iOp (put 5) (.v false (oBest true (sel 4) [⟨fun _ => .int .i64 1099511627776⟩])),
     iOp (put 2) (.v false (oEv (sel 5)))])
   (sEx .ret))⟩
theorem d34 : denF Tryz.prog 34 = some c34 := denF_of (by kernel_rfl)
noncomputable def c63_0 : Vm.Sem := sSeq (sRegion [iOp (put 10) (.v false (oInt2 fLss (sel 9) ⟨fun _ => .int .i64 8⟩))])
 (sSeq (sCond (sel 10)
    (sEx .normal)
    (sEx (.exit 2)))
  (sSeq (sBlock 3 (sRegion [iOp (put 11) (.v false (oEv (sel 3))),
      iOp (put 12) (.v false (oSh fShr (sel 11) ⟨fun _ => .int .u64 1⟩)),
      iOp (put 13) (.v false (oEv (sel 3))),
      iOp (put 14) (.v false (oInt2 fAnd (sel 13) ⟨fun _ => .int .u32 1⟩)),
      iOp (put 15) (.v false (oNeg (sel 14))),
      iOp (put 16) (.v false (oInt2 fAnd ⟨fun _ => .int .u32 2197175160⟩ (sel 15))),
      iOp (put 17) (.v false (oInt2 fXor (sel 12) (sel 16))),
      iOp (put 3) (.v false (oEv (sel 17)))]))
   (sRegion [iOp (put 18) (.v false (oInt2 fAdd (sel 9) ⟨fun _ => .int .i64 1⟩)),
     iOp (put 9) (.v false (oEv (sel 18)))])))
noncomputable def c63_1 : Vm.Sem := sSeq (sRegion [iOp (put 5) (.v false (oInt2 fLss (sel 4) ⟨fun _ => .int .i64 256⟩))])
 (sSeq (sCond (sel 5)
    (sEx .normal)
    (sEx (.exit 0)))
  (sSeq (sBlock 1 (sSeq (sRegion [iOp (put 6) (.v false (oEv (sel 4))),
       iOp (put 2) (.v false (oEv (sel 6)))])
     (sSeq (sRegion [iOp (put 7) (.v false (oEv (sel 2))),
        iOp (put 8) (.v false (oConvInt .u32 (sel 7))),
        iOp (put 3) (.v false (oEv (sel 8)))])
      (sSeq (sSeq (sRegion [iOp (put 9) (.v false (oEv ⟨fun _ => .int .i64 0⟩))])
        (sBlock 2 (sLoop c63_0)))
       (sRegion [iOp (put 19) (.v false (oEv (sel 2))),
         iOp (put 20) (.v false (oEv (sel 3))),
         iOp (put 21) (.v false (oIndexAddrA 256 1 (sel 1) (sel 19))),
         iOp ⟨fun _ a => a⟩ (.e (eStore 1 (sel 21) (sel 20)))])))))
   (sRegion [iOp (put 22) (.v false (oInt2 fAdd (sel 4) ⟨fun _ => .int .i64 1⟩)),
     iOp (put 4) (.v false (oEv (sel 22)))])))
/-- bollard/crc.Table -/
noncomputable def c63 : CF := ⟨24, [.tmp (sel 0)],
  sSeq (sRegion [iOp (put 0) (.v false (oEv ⟨fun _ => .slice none 0 0⟩))])
  (sSeq (sRegion [iOp (put 1) (.a (aAlloc 177 [.int .u32 0, .int .u32 0, .int .u32 0, .int .u32 0, .int .u32 0, .int .u32 0, .int .u32 0, .int .u32 0, .int .u32 0, .int .u32 0, .int .u32 0, .int .u32 0, .int .u32 0, .int .u32 0, .int .u32 0, .int .u32 0, .int .u32 0, .int .u32 0, .int .u32 0, .int .u32 0, .int .u32 0, .int .u32 0, .int .u32 0, .int .u32 0, .int .u32 0, .int .u32 0, .int .u32 0, .int .u32 0, .int .u32 0, .int .u32 0, .int .u32 0, .int .u32 0, .int .u32 0, .int .u32 0, .int .u32 0, .int .u32 0, .int .u32 0, .int .u32 0, .int .u32 0, .int .u32 0, .int .u32 0, .int .u32 0, .int .u32 0, .int .u32 0, .int .u32 0, .int .u32 0, .int .u32 0, .int .u32 0, .int .u32 0, .int .u32 0, .int .u32 0, .int .u32 0, .int .u32 0, .int .u32 0, .int .u32 0, .int .u32 0, .int .u32 0, .int .u32 0, .int .u32 0, .int .u32 0, .int .u32 0, .int .u32 0, .int .u32 0, .int .u32 0, .int .u32 0, .int .u32 0, .int .u32 0, .int .u32 0, .int .u32 0, .int .u32 0, .int .u32 0, .int .u32 0, .int .u32 0, .int .u32 0, .int .u32 0, .int .u32 0, .int .u32 0, .int .u32 0, .int .u32 0, .int .u32 0, .int .u32 0, .int .u32 0, .int .u32 0, .int .u32 0, .int .u32 0, .int .u32 0, .int .u32 0, .int .u32 0, .int .u32 0, .int .u32 0, .int .u32 0, .int .u32 0, .int .u32 0, .int .u32 0, .int .u32 0, .int .u32 0, .int .u32 0, .int .u32 0, .int .u32 0, .int .u32 0, .int .u32 0, .int .u32 0, .int .u32 0, .int .u32 0, .int .u32 0, .int .u32 0, .int .u32 0, .int .u32 0, .int .u32 0, .int .u32 0, .int .u32 0, .int .u32 0, .int .u32 0, .int .u32 0, .int .u32 0, .int .u32 0, .int .u32 0, .int .u32 0, .int .u32 0, .int .u32 0, .int .u32 0, .int .u32 0, .int .u32 0, .int .u32 0, .int .u32 0, .int .u32 0, .int .u32 0, .int .u32 0, .int .u32 0, .int .u32 0, .int .u32 0, .int .u32 0, .int .u32 0, .int .u32 0, .int .u32 0, .int .u32 0, .int .u32 0, .int .u32 0, .int .u32 0, .int .u32 0, .int .u32 0, .int .u32 0, .int .u32 0, .int .u32 0, .int .u32 0, .int .u32 0, .int .u32 0, .int .u32 0, .int .u32 0, .int .u32 0, .int .u32 0, .int .u32 0, .int .u32 0, .int .u32 0, .int .u32 0, .int .u32 0, .int .u32 0, .int .u32 0, .int .u32 0, .int .u32 0, .int .u32 0, .int .u32 0, .int .u32 0, .int .u32 0, .int .u32 0, .int .u32 0, .int .u32 0, .int .u32 0, .int .u32 0, .int .u32 0, .int .u32 0, .int .u32 0, .int .u32 0, .int .u32 0, .int .u32 0, .int .u32 0, .int .u32 0, .int .u32 0, .int .u32 0, .int .u32 0, .int .u32 0, .int .u32 0, .int .u32 0, .int .u32 0, .int .u32 0, .int .u32 0, .int .u32 0, .int .u32 0, .int .u32 0, .int .u32 0, .int .u32 0, .int .u32 0, .int .u32 0, .int .u32 0, .int .u32 0, .int .u32 0, .int .u32 0, .int .u32 0, .int .u32 0, .int .u32 0, .int .u32 0, .int .u32 0, .int .u32 0, .int .u32 0, .int .u32 0, .int .u32 0, .int .u32 0, .int .u32 0, .int .u32 0, .int .u32 0, .int .u32 0, .int .u32 0, .int .u32 0, .int .u32 0, .int .u32 0, .int .u32 0, .int .u32 0, .int .u32 0, .int .u32 0, .int .u32 0, .int .u32 0, .int .u32 0, .int .u32 0, .int .u32 0, .int .u32 0, .int .u32 0, .int .u32 0, .int .u32 0, .int .u32 0, .int .u32 0, .int .u32 0, .int .u32 0, .int .u32 0, .int .u32 0, .int .u32 0, .int .u32 0, .int .u32 0, .int .u32 0, .int .u32 0, .int .u32 0, .int .u32 0, .int .u32 0, .int .u32 0, .int .u32 0, .int .u32 0, .int .u32 0, .int .u32 0, .int .u32 0, .int .u32 0, .int .u32 0, .int .u32 0, .int .u32 0, .int .u32 0, .int .u32 0, .int .u32 0, .int .u32 0]))])
   (sSeq (sSeq (sRegion [iOp (put 4) (.v false (oEv ⟨fun _ => .int .i64 0⟩))])
     (sBlock 0 (sLoop c63_1)))
    (sSeq (sRegion [iOp (put 23) (.v false (oSliceA 256 1 (sel 1) none none none)),
       iOp (put 0) (.v false (oEv (sel 23)))])
     (sEx .ret))))⟩
theorem d63 : denF Tryz.prog 63 = some c63 := denF_of (by kernel_rfl)
/-- bollard/rto.Start -/
noncomputable def c64 : CF := ⟨2, [.agg (sel 0) 4],
  sSeq (sRegion [iOp (put 0) (.a (aAlloc 88 [.int .i64 0, .int .i64 0, .int .i64 0, .bool false]))])
  (sSeq (sRegion [iOp (put 1) (.v false (oBuild [.int .i64 0, .int .i64 0, .int .i64 0, .bool false] [(2, 1, ⟨fun _ => .int .i64 3000⟩)])),
     iOp ⟨fun _ a => a⟩ (.e (eStore 4 (sel 0) (sel 1)))])
   (sEx .ret))⟩
theorem d64 : denF Tryz.prog 64 = some c64 := denF_of (by kernel_rfl)
/-- (*bollard/timer.Set).Start -/
noncomputable def c65 : CF := ⟨23, [],
  sSeq (sSeq (sRegion [iOp (put 6) (.v false (oEv (sel 0))),
     iOp (put 7) (.v false (oEq (.one 3) (sel 6) ⟨fun _ => .pointer none⟩))])
   (sCond (sel 7)
     (sEx .ret)
     (sEx .normal)))
  (sSeq (sSeq (sRegion [iOp (put 8) (.v false (oEv (sel 0))),
      iOp (put 9) (.v false (oNilCheck (sel 8))),
      iOp (put 10) (.v false (oFieldAddr 0 (sel 9))),
      iOp (put 11) (.v true (oLoad1 (sel 10))),
      iOp (put 12) (.v false (oEq (.one 5) (sel 11) ⟨fun _ => .map none⟩))])
    (sCond (sel 12)
      (sRegion [iOp (put 13) (.v false (oEv (sel 0))),
        iOp (put 14) (.a aMakeMap),
        iOp (put 15) (.v false (oNilCheck (sel 13))),
        iOp (put 16) (.v false (oFieldAddr 0 (sel 15))),
        iOp ⟨fun _ a => a⟩ (.e (eStore 1 (sel 16) (sel 14)))])
      (sEx .normal)))
   (sRegion [iOp (put 17) (.v false (oEv (sel 0))),
     iOp (put 18) (.v false (oNilCheck (sel 17))),
     iOp (put 19) (.v false (oFieldAddr 0 (sel 18))),
     iOp (put 20) (.v true (oLoad1 (sel 19))),
     iOp (put 21) (.v false (oEv (sel 1))),
     iOp (put 22) (.v false (oEv (sel 2))),
     iOp ⟨fun _ a => a⟩ (.e (eMapUpdate (.one 1) (sel 20) (sel 21) (sel 22)))]))⟩
theorem d65 : denF Tryz.prog 65 = some c65 := denF_of (by kernel_rfl)
noncomputable def c177_0 : Vm.Sem := sSeq (sRegion [iOp (put 15) (.v false (oInt2 fLss (sel 14) (sel 13)))])
 (sSeq (sCond (sel 15)
    (sEx .normal)
    (sEx (.exit 0)))
  (sSeq (sBlock 1 (sSeq (sRegion [iOp (put 16) (.v false (oIndexAddrS 1 (sel 12) (sel 14))),
       iOp (put 17) (.v true (oLoad1 (sel 16))),
       iOp (put 8) (.v false (oEv (sel 17)))])
     (sRegion [iOp (put 18) (.v false (oEv (sel 1))),
       iOp (put 19) (.v false (oSh fShr (sel 18) ⟨fun _ => .int .u64 8⟩)),
       iOp (put 20) (.v false (oEv (sel 0))),
       iOp (put 21) (.v false (oEv (sel 1))),
       iOp (put 22) (.v false (oConvInt .u8 (sel 21))),
       iOp (put 23) (.v false (oEv (sel 8))),
       iOp (put 24) (.v false (oInt2 fXor (sel 22) (sel 23))),
       iOp (put 25) (.v false (oIndexAddrS 1 (sel 20) (sel 24))),
       iOp (put 26) (.v true (oLoad1 (sel 25))),
       iOp (put 27) (.v false (oInt2 fXor (sel 19) (sel 26))),
       iOp (put 1) (.v false (oEv (sel 27)))])))
   (sRegion [iOp (put 28) (.v false (oInt2 fAdd (sel 14) ⟨fun _ => .int .i64 1⟩)),
     iOp (put 14) (.v false (oEv (sel 28)))])))
/-- bollard/crc.Step -/
noncomputable def c177 : CF := ⟨30, [.tmp (sel 6)],
  sSeq (sRegion [iOp (put 6) (.v false (oEv ⟨fun _ => .int .u32 0⟩))])
  (sSeq (sSeq (sRegion [iOp (put 9) (.v false (oEv (sel 0))),
      iOp (put 10) (.v false (oLenS (sel 9))),
      iOp (put 11) (.v false (oNe (.one 1) (sel 10) ⟨fun _ => .int .i64 256⟩))])
    (sCond (sel 11)
      (sSeq (sRegion [iOp (put 6) (.v false (oEv ⟨fun _ => .int .u32 0⟩))])
       (sEx .ret))
      (sEx .normal)))
   (sSeq (sSeq (sRegion [iOp (put 12) (.v false (oEv (sel 2))),
       iOp (put 13) (.v false (oLenS (sel 12))),
       iOp (put 14) (.v false (oEv ⟨fun _ => .int .i64 0⟩))])
     (sBlock 0 (sLoop c177_0)))
    (sSeq (sRegion [iOp (put 29) (.v false (oEv (sel 1))),
       iOp (put 6) (.v false (oEv (sel 29)))])
     (sEx .ret))))⟩
theorem d177 : denF Tryz.prog 177 = some c177 := denF_of (by kernel_rfl)
end Go.Proofs.YtmnhkjbplfkpfaaGreat

