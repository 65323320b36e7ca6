/- Part of a proof by an abstract run of the program's code: SC. No condition. -/
import Derived.Test.YtnffglfpjcbfaaaChecked
import Derived.Test.YtnffglfpjcbfaaaVmD
namespace Go.Proofs.Ytnffglfpjcbfaaa
open Go Vm
noncomputable def c5_0 : Vm.Sem := sSeq (sSeq (sRegion [iOp (put 24) (.v false (oEv (sel 11))),
    iOp (put 25) (.v false (oEv (sel 8))),
    iOp (put 26) (.v false (oInt2 fLss (sel 24) (sel 25)))])
  (sCond (sel 26)
    (sEx .normal)
    (sEx (.exit 0))))
 (sSeq (sBlock 1 (sSeq (sRegion [iOp (put 29) (.v false (oEv (sel 11))),
      iOp (put 30) (.v false (oEv (sel 9))),
      iOp (put 31) (.v false (oNe (.one 1) (sel 29) (sel 30))),
      iOp (put 32) (.v false (oEv (sel 31))),
      iGuard (sel 32) true (put 33) (iOp (put 33) (.v false (oEv (sel 10)))),
      iGuard (sel 32) true (put 34) (iOp (put 34) (.v false (oEv (sel 0)))),
      iGuard (sel 32) true (put 35) (iOp (put 35) (.v false (oEv (sel 11)))),
      iGuard (sel 32) true (put 36) (iOp (put 36) (.v false (oConvInt .u32 (sel 35)))),
      iGuard (sel 32) true (put 37) (iOp (put 37) (.v false (oInt2 fAdd (sel 34) (sel 36)))),
      iGuard (sel 32) true (put 38) (iOp (put 38) (.v false (oEv (sel 11)))),
      iGuard (sel 32) true (put 39) (iOp (put 39) (.v false (oConvInt .u16 (sel 38)))),
      iGuard (sel 32) true (put 40) (iOp (put 40) (.v false (oEv (sel 11)))),
      iGuard (sel 32) true (put 41) (iOp (put 41) (.v false (oConvInt .u8 (sel 40)))),
      iGuard (sel 32) true (put 42) (iOp (put 42) (.e (eCallF 14 [(sel 37), ⟨fun _ => .int .u16 0⟩, (sel 39), ⟨fun _ => .int .u8 3⟩, (sel 41)]))),
      iGuard (sel 32) true (put 43) (iOp (put 43) (.e (eCallF 11 [(sel 33), (sel 42)]))),
      iGuard (sel 32) true (put 44) (iOp (put 44) (.v false (oNe (.one 1) (sel 43) ⟨fun _ => .int .i64 0⟩))),
      iOp (put 45) (.v false (oPick (sel 32) (sel 44) ⟨fun _ => .bool false⟩))])
    (sCond (sel 45)
      (sSeq (sRegion [iOp (put 6) (.v false (oEv ⟨fun _ => .bool false⟩))])
       (sEx .ret))
      (sEx .normal))))
  (sRegion [iOp (put 27) (.v false (oEv (sel 11))),
    iOp (put 28) (.v false (oInt2 fAdd (sel 27) ⟨fun _ => .int .i64 1⟩)),
    iOp (put 11) (.v false (oEv (sel 28)))]))
noncomputable def c5_1 : Vm.Sem := sSeq (sSeq (sRegion [iOp (put 73) (.v false (oEv (sel 14))),
    iOp (put 74) (.v false (oEv (sel 13))),
    iOp (put 75) (.v false (oLenS (sel 74))),
    iOp (put 76) (.v false (oInt2 fLss (sel 73) (sel 75)))])
  (sCond (sel 76)
    (sEx .normal)
    (sEx (.exit 2))))
 (sSeq (sBlock 3 (sSeq (sRegion [iOp (put 79) (.v false (oEv (sel 13))),
      iOp (put 80) (.v false (oEv (sel 14))),
      iOp (put 81) (.v false (oIndexAddrS 4 (sel 79) (sel 80))),
      iOp (put 82) (.v false (oFieldAddr 3 (sel 81))),
      iOp (put 83) (.v true (oLoad1 (sel 82))),
      iOp (put 84) (.v false (oLenS (sel 83))),
      iOp (put 85) (.v false (oNe (.one 1) (sel 84) ⟨fun _ => .int .i64 1⟩)),
      iOp (put 86) (.v false (oEv (sel 85))),
      iGuard (sel 86) false (put 87) (iOp (put 87) (.v false (oEv (sel 13)))),
      iGuard (sel 86) false (put 88) (iOp (put 88) (.v false (oEv (sel 14)))),
      iGuard (sel 86) false (put 89) (iOp (put 89) (.v false (oIndexAddrS 4 (sel 87) (sel 88)))),
      iGuard (sel 86) false (put 90) (iOp (put 90) (.v false (oFieldAddr 3 (sel 89)))),
      iGuard (sel 86) false (put 91) (iOp (put 91) (.v true (oLoad1 (sel 90)))),
      iGuard (sel 86) false (put 92) (iOp (put 92) (.v false (oIndexAddrS 1 (sel 91) ⟨fun _ => .int .i64 0⟩))),
      iGuard (sel 86) false (put 93) (iOp (put 93) (.v true (oLoad1 (sel 92)))),
      iGuard (sel 86) false (put 94) (iOp (put 94) (.v false (oEv (sel 9)))),
      iGuard (sel 86) false (put 95) (iOp (put 95) (.v false (oInt2 fAdd (sel 94) ⟨fun _ => .int .i64 1⟩))),
      iGuard (sel 86) false (put 96) (iOp (put 96) (.v false (oEv (sel 14)))),
      iGuard (sel 86) false (put 97) (iOp (put 97) (.v false (oInt2 fAdd (sel 95) (sel 96)))),
      iGuard (sel 86) false (put 98) (iOp (put 98) (.v false (oConvInt .u8 (sel 97)))),
      iGuard (sel 86) false (put 99) (iOp (put 99) (.v false (oNe (.one 1) (sel 93) (sel 98)))),
      iOp (put 100) (.v false (oPick (sel 86) ⟨fun _ => .bool true⟩ (sel 99)))])
    (sCond (sel 100)
      (sSeq (sRegion [iOp (put 6) (.v false (oEv ⟨fun _ => .bool false⟩))])
       (sEx .ret))
      (sEx .normal))))
  (sRegion [iOp (put 77) (.v false (oEv (sel 14))),
    iOp (put 78) (.v false (oInt2 fAdd (sel 77) ⟨fun _ => .int .i64 1⟩)),
    iOp (put 14) (.v false (oEv (sel 78)))]))
/-- bollard/bollardlaw14.JoinSkips -/
noncomputable def c5 : CF := ⟨107, [.tmp (sel 6)],
  sSeq (sRegion [iOp (put 6) (.v false (oEv ⟨fun _ => .bool false⟩))])
  (sSeq (sRegion [iOp (put 15) (.e (eCallF 8 [])),
     iOp (put 7) (.v false (oEv (sel 15)))])
   (sSeq (sRegion [iOp (put 16) (.v false (oEv (sel 1))),
      iOp (put 17) (.v false (oInt2 fAnd (sel 16) ⟨fun _ => .int .i64 31⟩)),
      iOp (put 18) (.v false (oInt2 fAdd ⟨fun _ => .int .i64 2⟩ (sel 17))),
      iOp (put 8) (.v false (oEv (sel 18)))])
    (sSeq (sRegion [iOp (put 19) (.v false (oEv (sel 2))),
       iOp (put 20) (.v false (oInt2 fAnd (sel 19) ⟨fun _ => .int .i64 65535⟩)),
       iOp (put 21) (.v false (oEv (sel 8))),
       iOp (put 22) (.v false (oInt2 fRem (sel 20) (sel 21))),
       iOp (put 9) (.v false (oEv (sel 22)))])
     (sSeq (sRegion [iOp (put 23) (.e (eCallF 10 [⟨fun _ => .int .i64 1⟩])),
        iOp (put 10) (.v false (oEv (sel 23)))])
      (sSeq (sSeq (sRegion [iOp (put 11) (.v false (oEv ⟨fun _ => .int .i64 0⟩))])
        (sBlock 0 (sLoop c5_0)))
       (sSeq (sRegion [iOp (put 46) (.v false (oEv (sel 10))),
          iOp (put 47) (.e (eCallF 12 [(sel 46)])),
          iOp (put 12) (.v false (oEv (sel 47)))])
        (sSeq (sRegion [iOp (put 48) (.v false (oEv (sel 10))),
           iOp (put 49) (.v false (oEv (sel 0))),
           iOp (put 50) (.v false (oEv (sel 9))),
           iOp (put 51) (.v false (oConvInt .u32 (sel 50))),
           iOp (put 52) (.v false (oInt2 fAdd (sel 49) (sel 51))),
           iOp (put 53) (.v false (oEv (sel 9))),
           iOp (put 54) (.v false (oConvInt .u16 (sel 53))),
           iOp (put 55) (.v false (oBuild [.int .u16 0, .int .u16 0] [(0, 1, ⟨fun _ => .int .u16 0⟩), (1, 1, (sel 54))])),
           iOp (put 56) (.a (aBuildSlice 51 1 (rep 1 [.int .u16 0, .int .u16 0]) [(0, 2, (sel 55))])),
           iOp (put 57) (.e (eCallF 16 [(sel 48), (sel 52), (sel 56)]))])
         (sSeq (sRegion [iOp (put 58) (.v false (oEv (sel 10))),
            iOp (put 59) (.e (eCallF 12 [(sel 58)])),
            iOp (put 13) (.v false (oEv (sel 59)))])
          (sSeq (sSeq (sRegion [iOp (put 60) (.v false (oEv (sel 12))),
              iOp (put 61) (.v false (oLenS (sel 60))),
              iOp (put 62) (.v false (oEv (sel 9))),
              iOp (put 63) (.v false (oNe (.one 1) (sel 61) (sel 62))),
              iOp (put 64) (.v false (oEv (sel 63))),
              iGuard (sel 64) false (put 65) (iOp (put 65) (.v false (oEv (sel 13)))),
              iGuard (sel 64) false (put 66) (iOp (put 66) (.v false (oLenS (sel 65)))),
              iGuard (sel 64) false (put 67) (iOp (put 67) (.v false (oEv (sel 8)))),
              iGuard (sel 64) false (put 68) (iOp (put 68) (.v false (oEv (sel 9)))),
              iGuard (sel 64) false (put 69) (iOp (put 69) (.v false (oInt2 fSub (sel 67) (sel 68)))),
              iGuard (sel 64) false (put 70) (iOp (put 70) (.v false (oInt2 fSub (sel 69) ⟨fun _ => .int .i64 1⟩))),
              iGuard (sel 64) false (put 71) (iOp (put 71) (.v false (oNe (.one 1) (sel 66) (sel 70)))),
              iOp (put 72) (.v false (oPick (sel 64) ⟨fun _ => .bool true⟩ (sel 71)))])
            (sCond (sel 72)
              (sSeq (sRegion [iOp (put 6) (.v false (oEv ⟨fun _ => .bool false⟩))])
               (sEx .ret))
              (sEx .normal)))
           (sSeq (sSeq (sRegion [iOp (put 14) (.v false (oEv ⟨fun _ => .int .i64 0⟩))])
             (sBlock 2 (sLoop c5_1)))
            (sSeq (sRegion [iOp (put 101) (.v false (oEv (sel 7))),
               iOp (put 102) (.v false (oEv (sel 101))),
               iGuard (sel 102) true (put 103) (iOp (put 103) (.v false (oEv (sel 10)))),
               iGuard (sel 102) true (put 104) (iOp (put 104) (.e (eCallF 17 [(sel 103)]))),
               iGuard (sel 102) true (put 105) (iOp (put 105) (.v false (oEq (.one 1) (sel 104) ⟨fun _ => .int .i64 0⟩))),
               iOp (put 106) (.v false (oPick (sel 102) (sel 105) ⟨fun _ => .bool false⟩)),
               iOp (put 6) (.v false (oEv (sel 106)))])
             (sEx .ret))))))))))))⟩
theorem d5 : denF Try.prog 5 = some c5 := denF_of (by kernel_rfl)
/-- bollard/bollardlaw14.awake -/
noncomputable def c8 : CF := ⟨62, [.tmp (sel 0)],
  sSeq (sRegion [iOp (put 0) (.v false (oEv ⟨fun _ => .bool false⟩))])
  (sSeq (sRegion [iOp (put 7) (.e (eCallF 10 [⟨fun _ => .int .i64 2⟩])),
     iOp (put 1) (.v false (oEv (sel 7)))])
   (sSeq (sRegion [iOp (put 8) (.v false (oEv (sel 1))),
      iOp (put 9) (.e (eCallF 14 [⟨fun _ => .int .u32 6⟩, ⟨fun _ => .int .u16 0⟩, ⟨fun _ => .int .u16 1⟩, ⟨fun _ => .int .u8 3⟩, ⟨fun _ => .int .u8 9⟩])),
      iOp (put 10) (.e (eCallF 11 [(sel 8), (sel 9)])),
      iOp (put 2) (.v false (oEv (sel 10)))])
    (sSeq (sRegion [iOp (put 11) (.v false (oEv (sel 1))),
       iOp (put 12) (.e (eCallF 12 [(sel 11)])),
       iOp (put 3) (.v false (oEv (sel 12)))])
     (sSeq (sRegion [iOp (put 13) (.v false (oEv (sel 1))),
        iOp (put 14) (.e (eCallF 14 [⟨fun _ => .int .u32 5⟩, ⟨fun _ => .int .u16 0⟩, ⟨fun _ => .int .u16 0⟩, ⟨fun _ => .int .u8 3⟩, ⟨fun _ => .int .u8 8⟩])),
        iOp (put 15) (.e (eCallF 11 [(sel 13), (sel 14)])),
        iOp (put 4) (.v false (oEv (sel 15)))])
      (sSeq (sRegion [iOp (put 16) (.v false (oEv (sel 1))),
         iOp (put 17) (.e (eCallF 17 [(sel 16)])),
         iOp (put 5) (.v false (oEv (sel 17)))])
       (sSeq (sRegion [iOp (put 18) (.v false (oEv (sel 1))),
          iOp (put 19) (.e (eCallF 12 [(sel 18)])),
          iOp (put 6) (.v false (oEv (sel 19)))])
        (sSeq (sRegion [iOp (put 20) (.v false (oEv (sel 2))),
           iOp (put 21) (.v false (oEq (.one 1) (sel 20) ⟨fun _ => .int .i64 0⟩)),
           iOp (put 22) (.v false (oEv (sel 21))),
           iGuard (sel 22) true (put 23) (iOp (put 23) (.v false (oEv (sel 4)))),
           iGuard (sel 22) true (put 24) (iOp (put 24) (.v false (oEq (.one 1) (sel 23) ⟨fun _ => .int .i64 0⟩))),
           iOp (put 25) (.v false (oPick (sel 22) (sel 24) ⟨fun _ => .bool false⟩)),
           iOp (put 26) (.v false (oEv (sel 25))),
           iGuard (sel 26) true (put 27) (iOp (put 27) (.v false (oEv (sel 3)))),
           iGuard (sel 26) true (put 28) (iOp (put 28) (.v false (oLenS (sel 27)))),
           iGuard (sel 26) true (put 29) (iOp (put 29) (.v false (oEq (.one 1) (sel 28) ⟨fun _ => .int .i64 0⟩))),
           iOp (put 30) (.v false (oPick (sel 26) (sel 29) ⟨fun _ => .bool false⟩)),
           iOp (put 31) (.v false (oEv (sel 30))),
           iGuard (sel 31) true (put 32) (iOp (put 32) (.v false (oEv (sel 6)))),
           iGuard (sel 31) true (put 33) (iOp (put 33) (.v false (oLenS (sel 32)))),
           iGuard (sel 31) true (put 34) (iOp (put 34) (.v false (oEq (.one 1) (sel 33) ⟨fun _ => .int .i64 2⟩))),
           iOp (put 35) (.v false (oPick (sel 31) (sel 34) ⟨fun _ => .bool false⟩)),
           iOp (put 36) (.v false (oEv (sel 35))),
           iGuard (sel 36) true (put 37) (iOp (put 37) (.v false (oEv (sel 6)))),
           iGuard (sel 36) true (put 38) (iOp (put 38) (.v false (oIndexAddrS 4 (sel 37) ⟨fun _ => .int .i64 0⟩))),
           iGuard (sel 36) true (put 39) (iOp (put 39) (.v false (oFieldAddr 3 (sel 38)))),
           iGuard (sel 36) true (put 40) (iOp (put 40) (.v true (oLoad1 (sel 39)))),
           iGuard (sel 36) true (put 41) (iOp (put 41) (.v false (oLenS (sel 40)))),
           iGuard (sel 36) true (put 42) (iOp (put 42) (.v false (oEq (.one 1) (sel 41) ⟨fun _ => .int .i64 1⟩))),
           iOp (put 43) (.v false (oPick (sel 36) (sel 42) ⟨fun _ => .bool false⟩)),
           iOp (put 44) (.v false (oEv (sel 43))),
           iGuard (sel 44) true (put 45) (iOp (put 45) (.v false (oEv (sel 6)))),
           iGuard (sel 44) true (put 46) (iOp (put 46) (.v false (oIndexAddrS 4 (sel 45) ⟨fun _ => .int .i64 0⟩))),
           iGuard (sel 44) true (put 47) (iOp (put 47) (.v false (oFieldAddr 3 (sel 46)))),
           iGuard (sel 44) true (put 48) (iOp (put 48) (.v true (oLoad1 (sel 47)))),
           iGuard (sel 44) true (put 49) (iOp (put 49) (.v false (oIndexAddrS 1 (sel 48) ⟨fun _ => .int .i64 0⟩))),
           iGuard (sel 44) true (put 50) (iOp (put 50) (.v true (oLoad1 (sel 49)))),
           iGuard (sel 44) true (put 51) (iOp (put 51) (.v false (oEq (.one 1) (sel 50) ⟨fun _ => .int .u8 8⟩))),
           iOp (put 52) (.v false (oPick (sel 44) (sel 51) ⟨fun _ => .bool false⟩)),
           iOp (put 53) (.v false (oEv (sel 52))),
           iGuard (sel 53) true (put 54) (iOp (put 54) (.v false (oEv (sel 5)))),
           iGuard (sel 53) true (put 55) (iOp (put 55) (.v false (oEq (.one 1) (sel 54) ⟨fun _ => .int .i64 2⟩))),
           iOp (put 56) (.v false (oPick (sel 53) (sel 55) ⟨fun _ => .bool false⟩)),
           iOp (put 57) (.v false (oEv (sel 56))),
           iGuard (sel 57) true (put 58) (iOp (put 58) (.v false (oEv (sel 1)))),
           iGuard (sel 57) true (put 59) (iOp (put 59) (.e (eCallF 17 [(sel 58)]))),
           iGuard (sel 57) true (put 60) (iOp (put 60) (.v false (oEq (.one 1) (sel 59) ⟨fun _ => .int .i64 0⟩))),
           iOp (put 61) (.v false (oPick (sel 57) (sel 60) ⟨fun _ => .bool false⟩)),
           iOp (put 0) (.v false (oEv (sel 61)))])
         (sEx .ret))))))))⟩
theorem d8 : denF Try.prog 8 = some c8 := denF_of (by kernel_rfl)
/-- bollard/join.New -/
noncomputable def c10 : CF := ⟨15, [.tmp (sel 2)],
  sSeq (sRegion [iOp (put 2) (.v false (oEv ⟨fun _ => .pointer none⟩))])
  (sSeq (sSeq (sRegion [iOp (put 3) (.v false (oEv (sel 0))),
      iOp (put 4) (.v false (oInt2 fLss (sel 3) ⟨fun _ => .int .i64 1⟩)),
      iOp (put 5) (.v false (oEv (sel 4))),
      iGuard (sel 5) false (put 6) (iOp (put 6) (.v false (oEv (sel 0)))),
      iGuard (sel 5) false (put 7) (iOp (put 7) (.v false (oInt2 fGtr (sel 6) ⟨fun _ => .int .i64 64⟩))),
      iOp (put 8) (.v false (oPick (sel 5) ⟨fun _ => .bool true⟩ (sel 7)))])
    (sCond (sel 8)
      (sRegion [iOp (put 0) (.v false (oEv ⟨fun _ => .int .i64 64⟩))])
      (sEx .normal)))
   (sSeq (sRegion [iOp (put 9) (.v false (oEv (sel 0))),
      iOp (put 10) (.a (aMakeSlice 27 2 [.int .u16 0] (sel 9) (sel 9))),
      iOp (put 11) (.a aMakeMap),
      iOp (put 12) (.a aMakeMap),
      iOp (put 13) (.v false (oBuild [.slice none 0 0, .map none, .map none, .slice none 0 0, .int .i64 0] [(0, 1, (sel 10)), (1, 1, (sel 11)), (2, 1, (sel 12))])),
      iOp (put 14) (.a (aBox 64 (sel 13))),
      iOp (put 2) (.v false (oEv (sel 14)))])
    (sEx .ret)))⟩
theorem d10 : denF Try.prog 10 = some c10 := denF_of (by kernel_rfl)
noncomputable def c11_0 : Vm.Sem := sSeq (sRegion [iOp (put 83) (.v false (oInt2 fLss (sel 82) (sel 81)))])
 (sSeq (sCond (sel 83)
    (sEx .normal)
    (sEx (.exit 1)))
  (sSeq (sBlock 2 (sSeq (sRegion [iOp (put 84) (.v false (oIndexAddrS 12 (sel 80) (sel 82))),
       iOp (put 85) (.v true (oLoadN 12 (sel 84))),
       iOp (put 9) (.a (aAlloc 42 [.int .u8 0, .int .u8 0, .int .u32 0, .int .u32 0, .int .u16 0, .int .u16 0, .int .u32 0, .slice none 0 0, .slice none 0 0, .slice none 0 0, .slice none 0 0, .slice none 0 0])),
       iOp ⟨fun _ a => a⟩ (.e (eStore 12 (sel 9) (sel 85)))])
     (sRegion [iOp (put 86) (.v false (oEv (sel 0))),
       iOp (put 87) (.v false (oNilCheck (sel 86))),
       iOp (put 88) (.v false (oFieldAddr 1 (sel 87))),
       iOp (put 89) (.v true (oLoad1 (sel 88))),
       iOp (put 90) (.v false (oFieldAddr 2 (sel 9))),
       iOp (put 91) (.v true (oLoad1 (sel 90))),
       iOp ⟨fun _ a => a⟩ (.e (eDelete (.one 1) (sel 89) (sel 91)))])))
   (sRegion [iOp (put 92) (.v false (oInt2 fAdd (sel 82) ⟨fun _ => .int .i64 1⟩)),
     iOp (put 82) (.v false (oEv (sel 92)))])))
/-- (*bollard/join.Join).Add -/
noncomputable def c11 : CF := ⟨105, [.tmp (sel 4)],
  sSeq (sRegion [iOp (put 3) (.a (aBox 42 (sel 1))),
    iOp (put 4) (.v false (oEv ⟨fun _ => .int .i64 0⟩))])
  (sSeq (sSeq (sRegion [iOp (put 12) (.v false (oEv (sel 0))),
      iOp (put 13) (.v false (oEq (.one 3) (sel 12) ⟨fun _ => .pointer none⟩)),
      iOp (put 14) (.v false (oEv (sel 13))),
      iGuard (sel 14) false (put 15) (iOp (put 15) (.v false (oFieldAddr 0 (sel 3)))),
      iGuard (sel 14) false (put 16) (iOp (put 16) (.v true (oLoad1 (sel 15)))),
      iGuard (sel 14) false (put 17) (iOp (put 17) (.v false (oNe (.one 1) (sel 16) ⟨fun _ => .int .u8 0⟩))),
      iOp (put 18) (.v false (oPick (sel 14) ⟨fun _ => .bool true⟩ (sel 17))),
      iOp (put 19) (.v false (oEv (sel 18))),
      iGuard (sel 19) false (put 20) (iOp (put 20) (.v false (oFieldAddr 11 (sel 3)))),
      iGuard (sel 19) false (put 21) (iOp (put 21) (.v true (oLoad1 (sel 20)))),
      iGuard (sel 19) false (put 22) (iOp (put 22) (.v false (oLenS (sel 21)))),
      iGuard (sel 19) false (put 23) (iOp (put 23) (.v false (oEq (.one 1) (sel 22) ⟨fun _ => .int .i64 0⟩))),
      iOp (put 24) (.v false (oPick (sel 19) ⟨fun _ => .bool true⟩ (sel 23)))])
    (sCond (sel 24)
      (sSeq (sRegion [iOp (put 4) (.v false (oEv ⟨fun _ => .int .i64 1⟩))])
       (sEx .ret))
      (sEx .normal)))
   (sSeq (sRegion [iOp (put 26) (.v false (oEv (sel 0))),
      iOp (put 27) (.v false (oNilCheck (sel 26))),
      iOp (put 28) (.v false (oFieldAddr 1 (sel 27))),
      iOp (put 29) (.v true (oLoad1 (sel 28))),
      iOp (put 30) (.v false (oFieldAddr 2 (sel 3))),
      iOp (put 31) (.v true (oLoad1 (sel 30))),
      iOp (put 32) (.v true (oLookup (.one 1) (.agg #[.int .u8 0, .int .u8 0, .int .u32 0, .int .u32 0, .int .u16 0, .int .u16 0, .int .u32 0, .slice none 0 0, .slice none 0 0, .slice none 0 0, .slice none 0 0, .slice none 0 0]) true (sel 29) (sel 31))),
      iOp (put 25) (.v false (oEv (sel 32))),
      iOp (put 33) (.v false (oExtract (sel 25) 0)),
      iOp (put 34) (.v false (oExtract (sel 25) 1)),
      iOp (put 5) (.a (aAlloc 42 [.int .u8 0, .int .u8 0, .int .u32 0, .int .u32 0, .int .u16 0, .int .u16 0, .int .u32 0, .slice none 0 0, .slice none 0 0, .slice none 0 0, .slice none 0 0, .slice none 0 0])),
      iOp ⟨fun _ a => a⟩ (.e (eStore 12 (sel 5) (sel 33))),
      iOp (put 6) (.v false (oEv (sel 34)))])
    (sSeq (sBlock 0 (sSeq (sRegion [iOp (put 36) (.v false (oEv (sel 0))),
         iOp (put 37) (.v false (oFieldAddr 4 (sel 3))),
         iOp (put 38) (.v true (oLoad1 (sel 37))),
         iOp (put 39) (.e (eCallF 19 [(sel 36), (sel 38)])),
         iOp (put 40) (.v false (oNot (sel 39))),
         iOp (put 35) (.v false (oEv (sel 40)))])
       (sCond (sel 35)
         (sSeq (sRegion [iOp (put 4) (.v false (oEv ⟨fun _ => .int .i64 12⟩))])
          (sEx .ret))
         (sSeq (sRegion [iOp (put 42) (.v false (oEv (sel 6))),
            iOp (put 41) (.v false (oEv (sel 42)))])
          (sCond (sel 41)
            (sSeq (sRegion [iOp (put 4) (.v false (oEv ⟨fun _ => .int .i64 8⟩))])
             (sEx .ret))
            (sSeq (sRegion [iOp (put 44) (.v false (oEv (sel 0))),
               iOp (put 45) (.v false (oNilCheck (sel 44))),
               iOp (put 46) (.v false (oFieldAddr 4 (sel 45))),
               iOp (put 47) (.v true (oLoad1 (sel 46))),
               iOp (put 48) (.v false (oFieldAddr 11 (sel 3))),
               iOp (put 49) (.v true (oLoad1 (sel 48))),
               iOp (put 50) (.v false (oLenS (sel 49))),
               iOp (put 51) (.v false (oInt2 fAdd (sel 47) (sel 50))),
               iOp (put 52) (.v false (oInt2 fGtr (sel 51) ⟨fun _ => .int .i64 65536⟩)),
               iOp (put 43) (.v false (oEv (sel 52)))])
             (sCond (sel 43)
               (sSeq (sRegion [iOp (put 4) (.v false (oEv ⟨fun _ => .int .i64 9⟩))])
                (sEx .ret))
               (sEx .normal))))))))
     (sSeq (sRegion [iOp (put 53) (.v false (oFieldAddr 11 (sel 3))),
        iOp (put 54) (.v true (oLoad1 (sel 53))),
        iOp (put 55) (.e (eCallF 20 [(sel 54)])),
        iOp (put 56) (.v false (oFieldAddr 11 (sel 3))),
        iOp ⟨fun _ a => a⟩ (.e (eStore 1 (sel 56) (sel 55)))])
      (sSeq (sRegion [iOp (put 57) (.v false (oEv (sel 0))),
         iOp (put 58) (.v false (oNilCheck (sel 57))),
         iOp (put 59) (.v false (oFieldAddr 1 (sel 58))),
         iOp (put 60) (.v true (oLoad1 (sel 59))),
         iOp (put 61) (.v false (oFieldAddr 2 (sel 3))),
         iOp (put 62) (.v true (oLoad1 (sel 61))),
         iOp (put 63) (.v true (oLoadN 12 (sel 3))),
         iOp ⟨fun _ a => a⟩ (.e (eMapUpdate (.one 1) (sel 60) (sel 62) (sel 63)))])
       (sSeq (sRegion [iOp (put 64) (.v false (oEv (sel 0))),
          iOp (put 65) (.v false (oNilCheck (sel 64))),
          iOp (put 66) (.v false (oFieldAddr 4 (sel 65))),
          iOp (put 67) (.v true (oLoad1 (sel 66))),
          iOp (put 68) (.v false (oFieldAddr 11 (sel 3))),
          iOp (put 69) (.v true (oLoad1 (sel 68))),
          iOp (put 70) (.v false (oLenS (sel 69))),
          iOp (put 71) (.v false (oInt2 fAdd (sel 67) (sel 70))),
          iOp (put 72) (.v false (oNilCheck (sel 64))),
          iOp (put 73) (.v false (oFieldAddr 4 (sel 72))),
          iOp ⟨fun _ a => a⟩ (.e (eStore 1 (sel 73) (sel 71)))])
        (sSeq (sSeq (sRegion [iOp (put 74) (.v false (oEv (sel 0))),
            iOp (put 75) (.v true (oLoadN 12 (sel 3))),
            iOp (put 76) (.e (eCallF 21 [(sel 74), (sel 75)])),
            iOp (put 7) (.v false (oEv (sel 76)))])
          (sSeq (sRegion [iOp (put 77) (.v false (oEv (sel 7))),
             iOp (put 78) (.v false (oLenS (sel 77))),
             iOp (put 79) (.v false (oInt2 fGtr (sel 78) ⟨fun _ => .int .i64 0⟩))])
           (sCond (sel 79)
             (sSeq (sSeq (sRegion [iOp (put 80) (.v false (oEv (sel 7))),
                 iOp (put 81) (.v false (oLenS (sel 80))),
                 iOp (put 82) (.v false (oEv ⟨fun _ => .int .i64 0⟩))])
               (sBlock 1 (sLoop c11_0)))
              (sSeq (sRegion [iOp (put 94) (.v false (oEv (sel 7))),
                 iOp (put 95) (.e (eCallF 22 [(sel 94)])),
                 iOp (put 93) (.v false (oEv (sel 95))),
                 iOp (put 96) (.v false (oExtract (sel 93) 0)),
                 iOp (put 97) (.v false (oExtract (sel 93) 1)),
                 iOp (put 10) (.a (aAlloc 30 [.int .u16 0, .bool false, .int .u32 0, .slice none 0 0])),
                 iOp ⟨fun _ a => a⟩ (.e (eStore 4 (sel 10) (sel 96))),
                 iOp (put 11) (.v false (oEv (sel 97)))])
               (sOne (sRegion [iOp (put 98) (.v false (oEv (sel 0))),
                 iOp (put 99) (.v true (oLoadN 4 (sel 10))),
                 iOp (put 100) (.v false (oEv (sel 7))),
                 iOp (put 101) (.v false (oIndexAddrS 12 (sel 100) ⟨fun _ => .int .i64 0⟩)),
                 iOp (put 102) (.v false (oFieldAddr 5 (sel 101))),
                 iOp (put 103) (.v true (oLoad1 (sel 102))),
                 iOp (put 104) (.e (eCallF 23 [(sel 98), (sel 99), (sel 103)]))]))))
             (sEx .normal))))
         (sSeq (sRegion [iOp (put 4) (.v false (oEv ⟨fun _ => .int .i64 0⟩))])
          (sEx .ret)))))))))⟩
theorem d11 : denF Try.prog 11 = some c11 := denF_of (by kernel_rfl)
noncomputable def c12_0 : Vm.Sem := sSeq (sRegion [iOp (put 15) (.v false (oInt2 fLss (sel 14) (sel 13)))])
 (sSeq (sCond (sel 15)
    (sEx .normal)
    (sEx (.exit 0)))
  (sSeq (sBlock 1 (sSeq (sRegion [iOp (put 16) (.v false (oIndexAddrS 4 (sel 12) (sel 14))),
       iOp (put 17) (.v true (oLoadN 4 (sel 16))),
       iOp (put 5) (.a (aAlloc 30 [.int .u16 0, .bool false, .int .u32 0, .slice none 0 0])),
       iOp ⟨fun _ a => a⟩ (.e (eStore 4 (sel 5) (sel 17)))])
     (sRegion [iOp (put 18) (.v false (oEv (sel 0))),
       iOp (put 19) (.v false (oNilCheck (sel 18))),
       iOp (put 20) (.v false (oFieldAddr 4 (sel 19))),
       iOp (put 21) (.v true (oLoad1 (sel 20))),
       iOp (put 22) (.v false (oFieldAddr 3 (sel 5))),
       iOp (put 23) (.v true (oLoad1 (sel 22))),
       iOp (put 24) (.v false (oLenS (sel 23))),
       iOp (put 25) (.v false (oInt2 fSub (sel 21) (sel 24))),
       iOp (put 26) (.v false (oNilCheck (sel 18))),
       iOp (put 27) (.v false (oFieldAddr 4 (sel 26))),
       iOp ⟨fun _ a => a⟩ (.e (eStore 1 (sel 27) (sel 25)))])))
   (sRegion [iOp (put 28) (.v false (oInt2 fAdd (sel 14) ⟨fun _ => .int .i64 1⟩)),
     iOp (put 14) (.v false (oEv (sel 28)))])))
/-- (*bollard/join.Join).Take -/
noncomputable def c12 : CF := ⟨33, [.tmp (sel 2)],
  sSeq (sRegion [iOp (put 2) (.v false (oEv ⟨fun _ => .slice none 0 0⟩))])
  (sSeq (sSeq (sRegion [iOp (put 6) (.v false (oEv (sel 0))),
      iOp (put 7) (.v false (oEq (.one 3) (sel 6) ⟨fun _ => .pointer none⟩))])
    (sCond (sel 7)
      (sSeq (sRegion [iOp (put 2) (.v false (oEv ⟨fun _ => .slice none 0 0⟩))])
       (sEx .ret))
      (sEx .normal)))
   (sSeq (sRegion [iOp (put 8) (.v false (oEv (sel 0))),
      iOp (put 9) (.v false (oNilCheck (sel 8))),
      iOp (put 10) (.v false (oFieldAddr 3 (sel 9))),
      iOp (put 11) (.v true (oLoad1 (sel 10))),
      iOp (put 3) (.v false (oEv (sel 11)))])
    (sSeq (sSeq (sRegion [iOp (put 12) (.v false (oEv (sel 3))),
        iOp (put 13) (.v false (oLenS (sel 12))),
        iOp (put 14) (.v false (oEv ⟨fun _ => .int .i64 0⟩))])
      (sBlock 0 (sLoop c12_0)))
     (sSeq (sRegion [iOp (put 29) (.v false (oEv (sel 0))),
        iOp (put 30) (.v false (oNilCheck (sel 29))),
        iOp (put 31) (.v false (oFieldAddr 3 (sel 30))),
        iOp ⟨fun _ a => a⟩ (.e (eStore 1 (sel 31) ⟨fun _ => .slice none 0 0⟩))])
      (sSeq (sRegion [iOp (put 32) (.v false (oEv (sel 3))),
         iOp (put 2) (.v false (oEv (sel 32)))])
       (sEx .ret))))))⟩
theorem d12 : denF Try.prog 12 = some c12 := denF_of (by kernel_rfl)
/-- bollard/bollardlaw14.piece -/
noncomputable def c14 : CF := ⟨18, [.agg (sel 10) 12],
  sSeq (sRegion [iOp (put 10) (.a (aAlloc 42 [.int .u8 0, .int .u8 0, .int .u32 0, .int .u32 0, .int .u16 0, .int .u16 0, .int .u32 0, .slice none 0 0, .slice none 0 0, .slice none 0 0, .slice none 0 0, .slice none 0 0]))])
  (sSeq (sRegion [iOp (put 11) (.v false (oEv (sel 3))),
     iOp (put 12) (.v false (oEv (sel 0))),
     iOp (put 13) (.v false (oEv (sel 1))),
     iOp (put 14) (.v false (oEv (sel 2))),
     iOp (put 15) (.v false (oEv (sel 4))),
     iOp (put 16) (.a (aBuildSlice 5 1 (rep 1 [.int .u8 0]) [(0, 1, (sel 15))])),
     iOp (put 17) (.v false (oBuild [.int .u8 0, .int .u8 0, .int .u32 0, .int .u32 0, .int .u16 0, .int .u16 0, .int .u32 0, .slice none 0 0, .slice none 0 0, .slice none 0 0, .slice none 0 0, .slice none 0 0] [(0, 1, ⟨fun _ => .int .u8 0⟩), (1, 1, (sel 11)), (2, 1, (sel 12)), (4, 1, (sel 13)), (5, 1, (sel 14)), (11, 1, (sel 16))])),
     iOp ⟨fun _ a => a⟩ (.e (eStore 12 (sel 10) (sel 17)))])
   (sEx .ret))⟩
theorem d14 : denF Try.prog 14 = some c14 := denF_of (by kernel_rfl)
noncomputable def c16_0 : Vm.Sem := sSeq (sRegion [iOp (put 19) (.v false (oInt2 fLss (sel 18) (sel 17)))])
 (sSeq (sCond (sel 19)
    (sEx .normal)
    (sEx (.exit 0)))
  (sSeq (sBlock 1 (sSeq (sRegion [iOp (put 20) (.v false (oIndexAddrS 2 (sel 16) (sel 18))),
       iOp (put 21) (.v true (oLoadN 2 (sel 20))),
       iOp (put 7) (.a (aAlloc 51 [.int .u16 0, .int .u16 0])),
       iOp ⟨fun _ a => a⟩ (.e (eStore 2 (sel 7) (sel 21)))])
     (sRegion [iOp (put 22) (.v true (oLoad1 (sel 3))),
       iOp (put 23) (.v true (oLoadN 2 (sel 7))),
       iOp (put 24) (.e (eCallF 27 [(sel 22), (sel 23)]))])))
   (sRegion [iOp (put 25) (.v false (oInt2 fAdd (sel 18) ⟨fun _ => .int .i64 1⟩)),
     iOp (put 18) (.v false (oEv (sel 25)))])))
/-- (*bollard/join.Join).Forward -/
noncomputable def c16 : CF := ⟨26, [],
  sSeq (sRegion [iOp (put 3) (.a (aBox 34 (sel 0))),
    iOp (put 4) (.a (aBox 22 (sel 1)))])
  (sSeq (sSeq (sRegion [iOp (put 8) (.v true (oLoad1 (sel 3))),
      iOp (put 9) (.v false (oEq (.one 3) (sel 8) ⟨fun _ => .pointer none⟩))])
    (sCond (sel 9)
      (sEx .ret)
      (sEx .normal)))
   (sSeq (sRegion [iOp (put 10) (.v true (oLoad1 (sel 3))),
      iOp (put 11) (.v false (oNilCheck (sel 10))),
      iOp (put 12) (.v false (oFieldAddr 1 (sel 11))),
      iOp (put 13) (.v true (oLoad1 (sel 12))),
      iOp (put 14) (.v false (oFunc (.func 25) [] [(sel 4), (sel 3)])),
      iOp (put 15) (.e (eCallF 24 [(sel 13), (sel 14)]))])
    (sSeq (sRegion [iOp (put 16) (.v false (oEv (sel 2))),
       iOp (put 17) (.v false (oLenS (sel 16))),
       iOp (put 18) (.v false (oEv ⟨fun _ => .int .i64 0⟩))])
     (sBlock 0 (sLoop c16_0)))))⟩
theorem d16 : denF Try.prog 16 = some c16 := denF_of (by kernel_rfl)
/-- (*bollard/join.Join).Held -/
noncomputable def c17 : CF := ⟨9, [.tmp (sel 2)],
  sSeq (sRegion [iOp (put 2) (.v false (oEv ⟨fun _ => .int .i64 0⟩))])
  (sSeq (sSeq (sRegion [iOp (put 3) (.v false (oEv (sel 0))),
      iOp (put 4) (.v false (oEq (.one 3) (sel 3) ⟨fun _ => .pointer none⟩))])
    (sCond (sel 4)
      (sSeq (sRegion [iOp (put 2) (.v false (oEv ⟨fun _ => .int .i64 0⟩))])
       (sEx .ret))
      (sEx .normal)))
   (sSeq (sRegion [iOp (put 5) (.v false (oEv (sel 0))),
      iOp (put 6) (.v false (oNilCheck (sel 5))),
      iOp (put 7) (.v false (oFieldAddr 4 (sel 6))),
      iOp (put 8) (.v true (oLoad1 (sel 7))),
      iOp (put 2) (.v false (oEv (sel 8)))])
    (sEx .ret)))⟩
theorem d17 : denF Try.prog 17 = some c17 := denF_of (by kernel_rfl)
/-- (*bollard/join.Join).knows -/
noncomputable def c19 : CF := ⟨17, [.tmp (sel 4)],
  sSeq (sRegion [iOp (put 4) (.v false (oEv ⟨fun _ => .bool false⟩))])
  (sSeq (sRegion [iOp (put 5) (.v false (oEv (sel 0))),
     iOp (put 6) (.v false (oNe (.one 3) (sel 5) ⟨fun _ => .pointer none⟩)),
     iOp (put 7) (.v false (oEv (sel 6))),
     iGuard (sel 7) true (put 8) (iOp (put 8) (.v false (oEv (sel 1)))),
     iGuard (sel 7) true (put 9) (iOp (put 9) (.v false (oConvInt .i64 (sel 8)))),
     iGuard (sel 7) true (put 10) (iOp (put 10) (.v false (oEv (sel 0)))),
     iGuard (sel 7) true (put 11) (iOp (put 11) (.v false (oNilCheck (sel 10)))),
     iGuard (sel 7) true (put 12) (iOp (put 12) (.v false (oFieldAddr 0 (sel 11)))),
     iGuard (sel 7) true (put 13) (iOp (put 13) (.v true (oLoad1 (sel 12)))),
     iGuard (sel 7) true (put 14) (iOp (put 14) (.v false (oLenS (sel 13)))),
     iGuard (sel 7) true (put 15) (iOp (put 15) (.v false (oInt2 fLss (sel 9) (sel 14)))),
     iOp (put 16) (.v false (oPick (sel 7) (sel 15) ⟨fun _ => .bool false⟩)),
     iOp (put 4) (.v false (oEv (sel 16)))])
   (sEx .ret))⟩
theorem d19 : denF Try.prog 19 = some c19 := denF_of (by kernel_rfl)
/-- slices.Clone[[]byte,byte] -/
noncomputable def c20 : CF := ⟨8, [.tmp (sel 2)],
  sSeq (sRegion [iOp (put 2) (.v false (oEv ⟨fun _ => .slice none 0 0⟩))])
  (sSeq (sSeq (sRegion [iOp (put 3) (.v false (oEv (sel 0))),
      iOp (put 4) (.v false (oEq (.one 4) (sel 3) ⟨fun _ => .slice none 0 0⟩))])
    (sCond (sel 4)
      (sSeq (sRegion [iOp (put 2) (.v false (oEv ⟨fun _ => .slice none 0 0⟩))])
       (sEx .ret))
      (sEx .normal)))
   (sSeq (sRegion [iOp (put 5) (.a (aBuildSlice 5 0 (rep 0 [.int .u8 0]) [])),
      iOp (put 6) (.v false (oEv (sel 0))),
      iOp (put 7) (.e (eAppend 5 1 1 (sel 5) (sel 6))),
      iOp (put 2) (.v false (oEv (sel 7)))])
    (sEx .ret)))⟩
theorem d20 : denF Try.prog 20 = some c20 := denF_of (by kernel_rfl)
noncomputable def c21_0 : Vm.Sem := sSeq (sSeq (sRegion [iOp (put 13) (.v false (oFieldAddr 1 (sel 5))),
    iOp (put 14) (.v true (oLoad1 (sel 13))),
    iOp (put 15) (.v false (oInt2 fAnd (sel 14) ⟨fun _ => .int .u8 2⟩)),
    iOp (put 16) (.v false (oEq (.one 1) (sel 15) ⟨fun _ => .int .u8 0⟩))])
  (sCond (sel 16)
    (sEx .normal)
    (sEx (.exit 0))))
 (sBlock 1 (sSeq (sRegion [iOp (put 18) (.v false (oEv (sel 0))),
     iOp (put 19) (.v false (oNilCheck (sel 18))),
     iOp (put 20) (.v false (oFieldAddr 1 (sel 19))),
     iOp (put 21) (.v true (oLoad1 (sel 20))),
     iOp (put 22) (.v false (oFieldAddr 2 (sel 5))),
     iOp (put 23) (.v true (oLoad1 (sel 22))),
     iOp (put 24) (.v false (oInt2 fSub (sel 23) ⟨fun _ => .int .u32 1⟩)),
     iOp (put 25) (.v true (oLookup (.one 1) (.agg #[.int .u8 0, .int .u8 0, .int .u32 0, .int .u32 0, .int .u16 0, .int .u16 0, .int .u32 0, .slice none 0 0, .slice none 0 0, .slice none 0 0, .slice none 0 0, .slice none 0 0]) true (sel 21) (sel 24))),
     iOp (put 17) (.v false (oEv (sel 25))),
     iOp (put 26) (.v false (oExtract (sel 17) 0)),
     iOp (put 27) (.v false (oExtract (sel 17) 1)),
     iOp (put 6) (.a (aAlloc 42 [.int .u8 0, .int .u8 0, .int .u32 0, .int .u32 0, .int .u16 0, .int .u16 0, .int .u32 0, .slice none 0 0, .slice none 0 0, .slice none 0 0, .slice none 0 0, .slice none 0 0])),
     iOp ⟨fun _ a => a⟩ (.e (eStore 12 (sel 6) (sel 26))),
     iOp (put 7) (.v false (oEv (sel 27)))])
   (sSeq (sSeq (sRegion [iOp (put 28) (.v false (oEv (sel 7))),
       iOp (put 29) (.v false (oNot (sel 28))),
       iOp (put 30) (.v false (oEv (sel 29))),
       iGuard (sel 30) false (put 31) (iOp (put 31) (.v true (oLoadN 12 (sel 6)))),
       iGuard (sel 30) false (put 32) (iOp (put 32) (.v true (oLoadN 12 (sel 5)))),
       iGuard (sel 30) false (put 33) (iOp (put 33) (.e (eCallF 30 [(sel 31), (sel 32)]))),
       iGuard (sel 30) false (put 34) (iOp (put 34) (.v false (oNot (sel 33)))),
       iOp (put 35) (.v false (oPick (sel 30) ⟨fun _ => .bool true⟩ (sel 34)))])
     (sCond (sel 35)
       (sSeq (sRegion [iOp (put 4) (.v false (oEv ⟨fun _ => .slice none 0 0⟩))])
        (sEx .ret))
       (sEx .normal)))
    (sRegion [iOp (put 36) (.v true (oLoadN 12 (sel 6))),
      iOp ⟨fun _ a => a⟩ (.e (eStore 12 (sel 5) (sel 36)))]))))
noncomputable def c21_1 : Vm.Sem := sSeq (sSeq (sRegion [iOp (put 40) (.v false (oFieldAddr 1 (sel 9))),
    iOp (put 41) (.v true (oLoad1 (sel 40))),
    iOp (put 42) (.v false (oInt2 fAnd (sel 41) ⟨fun _ => .int .u8 1⟩)),
    iOp (put 43) (.v false (oEq (.one 1) (sel 42) ⟨fun _ => .int .u8 0⟩))])
  (sCond (sel 43)
    (sEx .normal)
    (sEx (.exit 2))))
 (sSeq (sBlock 3 (sSeq (sRegion [iOp (put 49) (.v false (oEv (sel 0))),
      iOp (put 50) (.v false (oNilCheck (sel 49))),
      iOp (put 51) (.v false (oFieldAddr 1 (sel 50))),
      iOp (put 52) (.v true (oLoad1 (sel 51))),
      iOp (put 53) (.v false (oFieldAddr 2 (sel 9))),
      iOp (put 54) (.v true (oLoad1 (sel 53))),
      iOp (put 55) (.v false (oInt2 fAdd (sel 54) ⟨fun _ => .int .u32 1⟩)),
      iOp (put 56) (.v true (oLookup (.one 1) (.agg #[.int .u8 0, .int .u8 0, .int .u32 0, .int .u32 0, .int .u16 0, .int .u16 0, .int .u32 0, .slice none 0 0, .slice none 0 0, .slice none 0 0, .slice none 0 0, .slice none 0 0]) true (sel 52) (sel 55))),
      iOp (put 48) (.v false (oEv (sel 56))),
      iOp (put 57) (.v false (oExtract (sel 48) 0)),
      iOp (put 58) (.v false (oExtract (sel 48) 1)),
      iOp (put 10) (.a (aAlloc 42 [.int .u8 0, .int .u8 0, .int .u32 0, .int .u32 0, .int .u16 0, .int .u16 0, .int .u32 0, .slice none 0 0, .slice none 0 0, .slice none 0 0, .slice none 0 0, .slice none 0 0])),
      iOp ⟨fun _ a => a⟩ (.e (eStore 12 (sel 10) (sel 57))),
      iOp (put 11) (.v false (oEv (sel 58)))])
    (sSeq (sSeq (sRegion [iOp (put 59) (.v false (oEv (sel 11))),
        iOp (put 60) (.v false (oNot (sel 59))),
        iOp (put 61) (.v false (oEv (sel 60))),
        iGuard (sel 61) false (put 62) (iOp (put 62) (.v true (oLoadN 12 (sel 9)))),
        iGuard (sel 61) false (put 63) (iOp (put 63) (.v true (oLoadN 12 (sel 10)))),
        iGuard (sel 61) false (put 64) (iOp (put 64) (.e (eCallF 30 [(sel 62), (sel 63)]))),
        iGuard (sel 61) false (put 65) (iOp (put 65) (.v false (oNot (sel 64)))),
        iOp (put 66) (.v false (oPick (sel 61) ⟨fun _ => .bool true⟩ (sel 65)))])
      (sCond (sel 66)
        (sSeq (sRegion [iOp (put 4) (.v false (oEv ⟨fun _ => .slice none 0 0⟩))])
         (sEx .ret))
        (sEx .normal)))
     (sRegion [iOp (put 67) (.v true (oLoadN 12 (sel 10))),
       iOp ⟨fun _ a => a⟩ (.e (eStore 12 (sel 9) (sel 67)))]))))
  (sSeq (sSeq (sRegion [iOp (put 68) (.v true (oLoadN 12 (sel 9)))])
    (sRegion [iOp (put 9) (.a (aAlloc 42 [.int .u8 0, .int .u8 0, .int .u32 0, .int .u32 0, .int .u16 0, .int .u16 0, .int .u32 0, .slice none 0 0, .slice none 0 0, .slice none 0 0, .slice none 0 0, .slice none 0 0])),
      iOp ⟨fun _ a => a⟩ (.e (eStore 12 (sel 9) (sel 68)))]))
   (sRegion [iOp (put 44) (.v false (oEv (sel 8))),
     iOp (put 45) (.v true (oLoadN 12 (sel 9))),
     iOp (put 46) (.a (aBuildSlice 42 1 (rep 1 [.int .u8 0, .int .u8 0, .int .u32 0, .int .u32 0, .int .u16 0, .int .u16 0, .int .u32 0, .slice none 0 0, .slice none 0 0, .slice none 0 0, .slice none 0 0, .slice none 0 0]) [(0, 12, (sel 45))])),
     iOp (put 47) (.e (eAppend 42 12 144 (sel 44) (sel 46))),
     iOp (put 8) (.v false (oEv (sel 47)))])))
/-- (*bollard/join.Join).run -/
noncomputable def c21 : CF := ⟨70, [.tmp (sel 4)],
  sSeq (sRegion [iOp (put 3) (.a (aBox 42 (sel 1))),
    iOp (put 4) (.v false (oEv ⟨fun _ => .slice none 0 0⟩))])
  (sSeq (sRegion [iOp (put 12) (.v true (oLoadN 12 (sel 3))),
     iOp (put 5) (.a (aAlloc 42 [.int .u8 0, .int .u8 0, .int .u32 0, .int .u32 0, .int .u16 0, .int .u16 0, .int .u32 0, .slice none 0 0, .slice none 0 0, .slice none 0 0, .slice none 0 0, .slice none 0 0])),
     iOp ⟨fun _ a => a⟩ (.e (eStore 12 (sel 5) (sel 12)))])
   (sSeq (sBlock 0 (sLoop c21_0))
    (sSeq (sRegion [iOp (put 37) (.v true (oLoadN 12 (sel 5))),
       iOp (put 38) (.a (aBuildSlice 42 1 (rep 1 [.int .u8 0, .int .u8 0, .int .u32 0, .int .u32 0, .int .u16 0, .int .u16 0, .int .u32 0, .slice none 0 0, .slice none 0 0, .slice none 0 0, .slice none 0 0, .slice none 0 0]) [(0, 12, (sel 37))])),
       iOp (put 8) (.v false (oEv (sel 38)))])
     (sSeq (sSeq (sRegion [iOp (put 39) (.v true (oLoadN 12 (sel 5))),
         iOp (put 9) (.a (aAlloc 42 [.int .u8 0, .int .u8 0, .int .u32 0, .int .u32 0, .int .u16 0, .int .u16 0, .int .u32 0, .slice none 0 0, .slice none 0 0, .slice none 0 0, .slice none 0 0, .slice none 0 0])),
         iOp ⟨fun _ a => a⟩ (.e (eStore 12 (sel 9) (sel 39)))])
       (sBlock 2 (sLoop c21_1)))
      (sSeq (sRegion [iOp (put 69) (.v false (oEv (sel 8))),
         iOp (put 4) (.v false (oEv (sel 69)))])
       (sEx .ret))))))⟩
theorem d21 : denF Try.prog 21 = some c21 := denF_of (by kernel_rfl)
noncomputable def c22_0 : Vm.Sem := sSeq (sRegion [iOp (put 55) (.v false (oInt2 fLss (sel 54) (sel 53)))])
 (sSeq (sCond (sel 55)
    (sEx .normal)
    (sEx (.exit 0)))
  (sSeq (sBlock 1 (sSeq (sRegion [iOp (put 56) (.v false (oEv (sel 54))),
       iOp (put 57) (.v false (oIndexAddrS 12 (sel 52) (sel 54))),
       iOp (put 58) (.v true (oLoadN 12 (sel 57))),
       iOp (put 6) (.a (aAlloc 42 [.int .u8 0, .int .u8 0, .int .u32 0, .int .u32 0, .int .u16 0, .int .u16 0, .int .u32 0, .slice none 0 0, .slice none 0 0, .slice none 0 0, .slice none 0 0, .slice none 0 0])),
       iOp (put 5) (.v false (oEv (sel 56))),
       iOp ⟨fun _ a => a⟩ (.e (eStore 12 (sel 6) (sel 58)))])
     (sSeq (sSeq (sOne (sRegion [iOp (put 59) (.v false (oEv (sel 5))),
         iOp (put 60) (.v false (oInt2 fGtr (sel 59) ⟨fun _ => .int .i64 0⟩)),
         iOp (put 61) (.v false (oEv (sel 60))),
         iGuard (sel 61) true (put 62) (iOp (put 62) (.v false (oEv (sel 0)))),
         iGuard (sel 61) true (put 63) (iOp (put 63) (.v false (oEv (sel 5)))),
         iGuard (sel 61) true (put 64) (iOp (put 64) (.v false (oInt2 fSub (sel 63) ⟨fun _ => .int .i64 1⟩))),
         iGuard (sel 61) true (put 65) (iOp (put 65) (.v false (oIndexAddrS 12 (sel 62) (sel 64)))),
         iGuard (sel 61) true (put 66) (iOp (put 66) (.v true (oLoadN 12 (sel 65)))),
         iGuard (sel 61) true (put 67) (iOp (put 67) (.v true (oLoadN 12 (sel 6)))),
         iGuard (sel 61) true (put 68) (iOp (put 68) (.e (eCallF 30 [(sel 66), (sel 67)]))),
         iGuard (sel 61) true (put 69) (iOp (put 69) (.v false (oNot (sel 68)))),
         iOp (put 70) (.v false (oPick (sel 61) (sel 69) ⟨fun _ => .bool false⟩))]))
       (sCond (sel 70)
         (sSeq (sRegion [iOp (put 71) (.v false (oBuild [.int .u16 0, .bool false, .int .u32 0, .slice none 0 0] [])),
            iOp ⟨fun _ a => a⟩ (.e (eStore 4 (sel 2) (sel 71))),
            iOp (put 3) (.v false (oEv ⟨fun _ => .bool false⟩))])
          (sEx .ret))
         (sEx .normal)))
      (sRegion [iOp (put 72) (.v false (oFieldAddr 3 (sel 4))),
        iOp (put 73) (.v true (oLoad1 (sel 72))),
        iOp (put 74) (.v false (oFieldAddr 11 (sel 6))),
        iOp (put 75) (.v true (oLoad1 (sel 74))),
        iOp (put 76) (.e (eAppend 5 1 1 (sel 73) (sel 75))),
        iOp (put 77) (.v false (oFieldAddr 3 (sel 4))),
        iOp ⟨fun _ a => a⟩ (.e (eStore 1 (sel 77) (sel 76)))]))))
   (sRegion [iOp (put 78) (.v false (oInt2 fAdd (sel 54) ⟨fun _ => .int .i64 1⟩)),
     iOp (put 54) (.v false (oEv (sel 78)))])))
/-- bollard/split.Whole -/
noncomputable def c22 : CF := ⟨80, [.agg (sel 2) 4, .tmp (sel 3)],
  sSeq (sRegion [iOp (put 2) (.a (aAlloc 30 [.int .u16 0, .bool false, .int .u32 0, .slice none 0 0])),
    iOp (put 3) (.v false (oEv ⟨fun _ => .bool false⟩))])
  (sSeq (sSeq (sRegion [iOp (put 7) (.v false (oEv (sel 0))),
      iOp (put 8) (.v false (oLenS (sel 7))),
      iOp (put 9) (.v false (oEq (.one 1) (sel 8) ⟨fun _ => .int .i64 0⟩)),
      iOp (put 10) (.v false (oEv (sel 9))),
      iGuard (sel 10) false (put 11) (iOp (put 11) (.v false (oEv (sel 0)))),
      iGuard (sel 10) false (put 12) (iOp (put 12) (.v false (oIndexAddrS 12 (sel 11) ⟨fun _ => .int .i64 0⟩))),
      iGuard (sel 10) false (put 13) (iOp (put 13) (.v false (oFieldAddr 0 (sel 12)))),
      iGuard (sel 10) false (put 14) (iOp (put 14) (.v true (oLoad1 (sel 13)))),
      iGuard (sel 10) false (put 15) (iOp (put 15) (.v false (oNe (.one 1) (sel 14) ⟨fun _ => .int .u8 0⟩))),
      iOp (put 16) (.v false (oPick (sel 10) ⟨fun _ => .bool true⟩ (sel 15))),
      iOp (put 17) (.v false (oEv (sel 16))),
      iGuard (sel 17) false (put 18) (iOp (put 18) (.v false (oEv (sel 0)))),
      iGuard (sel 17) false (put 19) (iOp (put 19) (.v false (oIndexAddrS 12 (sel 18) ⟨fun _ => .int .i64 0⟩))),
      iGuard (sel 17) false (put 20) (iOp (put 20) (.v false (oFieldAddr 1 (sel 19)))),
      iGuard (sel 17) false (put 21) (iOp (put 21) (.v true (oLoad1 (sel 20)))),
      iGuard (sel 17) false (put 22) (iOp (put 22) (.v false (oInt2 fAnd (sel 21) ⟨fun _ => .int .u8 2⟩))),
      iGuard (sel 17) false (put 23) (iOp (put 23) (.v false (oEq (.one 1) (sel 22) ⟨fun _ => .int .u8 0⟩))),
      iOp (put 24) (.v false (oPick (sel 17) ⟨fun _ => .bool true⟩ (sel 23))),
      iOp (put 25) (.v false (oEv (sel 24))),
      iGuard (sel 25) false (put 26) (iOp (put 26) (.v false (oEv (sel 0)))),
      iGuard (sel 25) false (put 27) (iOp (put 27) (.v false (oEv (sel 0)))),
      iGuard (sel 25) false (put 28) (iOp (put 28) (.v false (oLenS (sel 27)))),
      iGuard (sel 25) false (put 29) (iOp (put 29) (.v false (oInt2 fSub (sel 28) ⟨fun _ => .int .i64 1⟩))),
      iGuard (sel 25) false (put 30) (iOp (put 30) (.v false (oIndexAddrS 12 (sel 26) (sel 29)))),
      iGuard (sel 25) false (put 31) (iOp (put 31) (.v false (oFieldAddr 1 (sel 30)))),
      iGuard (sel 25) false (put 32) (iOp (put 32) (.v true (oLoad1 (sel 31)))),
      iGuard (sel 25) false (put 33) (iOp (put 33) (.v false (oInt2 fAnd (sel 32) ⟨fun _ => .int .u8 1⟩))),
      iGuard (sel 25) false (put 34) (iOp (put 34) (.v false (oEq (.one 1) (sel 33) ⟨fun _ => .int .u8 0⟩))),
      iOp (put 35) (.v false (oPick (sel 25) ⟨fun _ => .bool true⟩ (sel 34)))])
    (sCond (sel 35)
      (sSeq (sRegion [iOp (put 36) (.v false (oBuild [.int .u16 0, .bool false, .int .u32 0, .slice none 0 0] [])),
         iOp ⟨fun _ a => a⟩ (.e (eStore 4 (sel 2) (sel 36))),
         iOp (put 3) (.v false (oEv ⟨fun _ => .bool false⟩))])
       (sEx .ret))
      (sEx .normal)))
   (sSeq (sRegion [iOp (put 37) (.v false (oEv (sel 0))),
      iOp (put 38) (.v false (oIndexAddrS 12 (sel 37) ⟨fun _ => .int .i64 0⟩)),
      iOp (put 39) (.v false (oFieldAddr 4 (sel 38))),
      iOp (put 40) (.v true (oLoad1 (sel 39))),
      iOp (put 41) (.v false (oEv (sel 0))),
      iOp (put 42) (.v false (oIndexAddrS 12 (sel 41) ⟨fun _ => .int .i64 0⟩)),
      iOp (put 43) (.v false (oFieldAddr 1 (sel 42))),
      iOp (put 44) (.v true (oLoad1 (sel 43))),
      iOp (put 45) (.v false (oInt2 fAnd (sel 44) ⟨fun _ => .int .u8 4⟩)),
      iOp (put 46) (.v false (oNe (.one 1) (sel 45) ⟨fun _ => .int .u8 0⟩)),
      iOp (put 47) (.v false (oEv (sel 0))),
      iOp (put 48) (.v false (oIndexAddrS 12 (sel 47) ⟨fun _ => .int .i64 0⟩)),
      iOp (put 49) (.v false (oFieldAddr 6 (sel 48))),
      iOp (put 50) (.v true (oLoad1 (sel 49))),
      iOp (put 51) (.v false (oBuild [.int .u16 0, .bool false, .int .u32 0, .slice none 0 0] [(0, 1, (sel 40)), (1, 1, (sel 46)), (2, 1, (sel 50))])),
      iOp (put 4) (.a (aAlloc 30 [.int .u16 0, .bool false, .int .u32 0, .slice none 0 0])),
      iOp ⟨fun _ a => a⟩ (.e (eStore 4 (sel 4) (sel 51)))])
    (sSeq (sSeq (sRegion [iOp (put 52) (.v false (oEv (sel 0))),
        iOp (put 53) (.v false (oLenS (sel 52))),
        iOp (put 54) (.v false (oEv ⟨fun _ => .int .i64 0⟩))])
      (sBlock 0 (sLoop c22_0)))
     (sSeq (sRegion [iOp (put 79) (.v true (oLoadN 4 (sel 4))),
        iOp ⟨fun _ a => a⟩ (.e (eStore 4 (sel 2) (sel 79))),
        iOp (put 3) (.v false (oEv ⟨fun _ => .bool true⟩))])
      (sEx .ret)))))⟩
theorem d22 : denF Try.prog 22 = some c22 := denF_of (by kernel_rfl)
/-- (*bollard/join.Join).keep -/
noncomputable def c23 : CF := ⟨69, [],
  sSeq (sRegion [iOp (put 4) (.a (aBox 30 (sel 1)))])
  (sSeq (sRegion [iOp (put 9) (.v false (oFieldAddr 0 (sel 4))),
     iOp (put 10) (.v true (oLoad1 (sel 9))),
     iOp (put 11) (.v false (oEv (sel 2))),
     iOp (put 12) (.v false (oBuild [.int .u16 0, .int .u16 0] [(0, 1, (sel 10)), (1, 1, (sel 11))])),
     iOp (put 6) (.a (aAlloc 78 [.int .u16 0, .int .u16 0])),
     iOp ⟨fun _ a => a⟩ (.e (eStore 2 (sel 6) (sel 12)))])
   (sSeq (sRegion [iOp (put 14) (.v false (oEv (sel 0))),
      iOp (put 15) (.v false (oNilCheck (sel 14))),
      iOp (put 16) (.v false (oFieldAddr 2 (sel 15))),
      iOp (put 17) (.v true (oLoad1 (sel 16))),
      iOp (put 18) (.v true (oLoadN 2 (sel 6))),
      iOp (put 19) (.v true (oLookup (.agg [1, 1]) (.agg #[.int .u16 0, .bool false, .int .u32 0, .slice none 0 0]) true (sel 17) (sel 18))),
      iOp (put 13) (.v false (oEv (sel 19))),
      iOp (put 20) (.v false (oExtract (sel 13) 0)),
      iOp (put 21) (.v false (oExtract (sel 13) 1)),
      iOp (put 7) (.a (aAlloc 30 [.int .u16 0, .bool false, .int .u32 0, .slice none 0 0])),
      iOp ⟨fun _ a => a⟩ (.e (eStore 4 (sel 7) (sel 20))),
      iOp (put 8) (.v false (oEv (sel 21)))])
    (sBlock 0 (sSeq (sRegion [iOp (put 33) (.v false (oFieldAddr 1 (sel 4))),
        iOp (put 34) (.v true (oLoad1 (sel 33))),
        iOp (put 32) (.v false (oEv (sel 34)))])
      (sCond (sel 32)
        (sRegion [iOp (put 35) (.v false (oEv (sel 0))),
          iOp (put 36) (.v false (oEv (sel 0))),
          iOp (put 37) (.v false (oNilCheck (sel 36))),
          iOp (put 38) (.v false (oFieldAddr 3 (sel 37))),
          iOp (put 39) (.v true (oLoad1 (sel 38))),
          iOp (put 40) (.v true (oLoadN 4 (sel 4))),
          iOp (put 41) (.a (aBuildSlice 30 1 (rep 1 [.int .u16 0, .bool false, .int .u32 0, .slice none 0 0]) [(0, 4, (sel 40))])),
          iOp (put 42) (.e (eAppend 30 4 32 (sel 39) (sel 41))),
          iOp (put 43) (.v false (oNilCheck (sel 35))),
          iOp (put 44) (.v false (oFieldAddr 3 (sel 43))),
          iOp ⟨fun _ a => a⟩ (.e (eStore 1 (sel 44) (sel 42)))])
        (sSeq (sOne (sRegion [iOp (put 46) (.v false (oEv (sel 8))),
           iOp (put 47) (.v false (oEv (sel 46))),
           iGuard (sel 47) false (put 48) (iOp (put 48) (.v false (oEv (sel 2)))),
           iGuard (sel 47) false (put 49) (iOp (put 49) (.v false (oEv (sel 0)))),
           iGuard (sel 47) false (put 50) (iOp (put 50) (.v false (oNilCheck (sel 49)))),
           iGuard (sel 47) false (put 51) (iOp (put 51) (.v false (oFieldAddr 0 (sel 50)))),
           iGuard (sel 47) false (put 52) (iOp (put 52) (.v true (oLoad1 (sel 51)))),
           iGuard (sel 47) false (put 53) (iOp (put 53) (.v false (oFieldAddr 0 (sel 4)))),
           iGuard (sel 47) false (put 54) (iOp (put 54) (.v true (oLoad1 (sel 53)))),
           iGuard (sel 47) false (put 55) (iOp (put 55) (.v false (oIndexAddrS 1 (sel 52) (sel 54)))),
           iGuard (sel 47) false (put 56) (iOp (put 56) (.v true (oLoad1 (sel 55)))),
           iGuard (sel 47) false (put 57) (iOp (put 57) (.e (eCallF 31 [(sel 48), (sel 56)]))),
           iOp (put 58) (.v false (oPick (sel 47) ⟨fun _ => .bool true⟩ (sel 57))),
           iOp (put 45) (.v false (oEv (sel 58)))]))
         (sCond (sel 45)
           (sRegion [iOp (put 59) (.v false (oEv (sel 0))),
             iOp (put 60) (.v false (oNilCheck (sel 59))),
             iOp (put 61) (.v false (oFieldAddr 4 (sel 60))),
             iOp (put 62) (.v true (oLoad1 (sel 61))),
             iOp (put 63) (.v false (oFieldAddr 3 (sel 4))),
             iOp (put 64) (.v true (oLoad1 (sel 63))),
             iOp (put 65) (.v false (oLenS (sel 64))),
             iOp (put 66) (.v false (oInt2 fSub (sel 62) (sel 65))),
             iOp (put 67) (.v false (oNilCheck (sel 59))),
             iOp (put 68) (.v false (oFieldAddr 4 (sel 67))),
             iOp ⟨fun _ a => a⟩ (.e (eStore 1 (sel 68) (sel 66)))])
           (sSeq (sRegion [iOp (put 22) (.v false (oEv (sel 0))),
              iOp (put 23) (.v false (oNilCheck (sel 22))),
              iOp (put 24) (.v false (oFieldAddr 2 (sel 23))),
              iOp (put 25) (.v true (oLoad1 (sel 24))),
              iOp (put 26) (.v true (oLoadN 2 (sel 6))),
              iOp (put 27) (.v true (oLoadN 4 (sel 4))),
              iOp ⟨fun _ a => a⟩ (.e (eMapUpdate (.agg [1, 1]) (sel 25) (sel 26) (sel 27)))])
            (sRegion [iOp (put 28) (.v false (oEv (sel 0))),
              iOp (put 29) (.v false (oFieldAddr 0 (sel 4))),
              iOp (put 30) (.v true (oLoad1 (sel 29))),
              iOp (put 31) (.e (eCallF 32 [(sel 28), (sel 30)]))])))))))))⟩
theorem d23 : denF Try.prog 23 = some c23 := denF_of (by kernel_rfl)
noncomputable def c24_0 : Vm.Sem := sSeq (sRegion [iOp (put 8) (.e (eNext (sel 7))),
   iOp (put 9) (.v false (oExtract (sel 8) 0))])
 (sSeq (sCond (sel 9)
    (sEx .normal)
    (sEx (.exit 0)))
  (sBlock 1 (sSeq (sRegion [iOp (put 10) (.v true (oEntry (sel 7))),
      iOp (put 11) (.v false (oExtract (sel 10) 0)),
      iOp (put 12) (.v false (oExtract (sel 10) 1)),
      iOp (put 5) (.a (aAlloc 42 [.int .u8 0, .int .u8 0, .int .u32 0, .int .u32 0, .int .u16 0, .int .u16 0, .int .u32 0, .slice none 0 0, .slice none 0 0, .slice none 0 0, .slice none 0 0, .slice none 0 0])),
      iOp (put 4) (.v false (oEv (sel 11))),
      iOp ⟨fun _ a => a⟩ (.e (eStore 12 (sel 5) (sel 12)))])
    (sSeq (sRegion [iOp (put 13) (.v false (oEv (sel 1))),
       iOp (put 14) (.v false (oEv (sel 4))),
       iOp (put 15) (.v true (oLoadN 12 (sel 5))),
       iOp (put 16) (.e (eCall (sel 13) [(sel 14), (sel 15)]))])
     (sCond (sel 16)
       (sRegion [iOp (put 17) (.v false (oEv (sel 0))),
         iOp (put 18) (.v false (oEv (sel 4))),
         iOp ⟨fun _ a => a⟩ (.e (eDelete (.one 1) (sel 17) (sel 18)))])
       (sEx .normal))))))
/-- maps.DeleteFunc[map[uint32]bollard/api.Chunk,uint32,bollard/api.Chunk] -/
noncomputable def c24 : CF := ⟨19, [],
  sSeq (sRegion [iOp (put 6) (.v false (oEv (sel 0))),
    iOp (put 7) (.e (eRange (sel 6)))])
  (sBlock 0 (sLoop c24_0))⟩
theorem d24 : denF Try.prog 24 = some c24 := denF_of (by kernel_rfl)
/-- (*bollard/join.Join).Forward$1 -/
noncomputable def c25 : CF := ⟨28, [.tmp (sel 6)],
  sSeq (sRegion [iOp (put 5) (.a (aBox 42 (sel 1))),
    iOp (put 6) (.v false (oEv ⟨fun _ => .bool false⟩))])
  (sSeq (sRegion [iOp (put 8) (.v false (oEv (sel 0))),
     iOp (put 9) (.v true (oLoad1 (sel 2))),
     iOp (put 10) (.v false (oEq (.one 1) (sel 8) (sel 9))),
     iOp (put 11) (.v false (oEv (sel 10))),
     iGuard (sel 11) false (put 12) (iOp (put 12) (.v false (oEv (sel 0)))),
     iGuard (sel 11) false (put 13) (iOp (put 13) (.v true (oLoad1 (sel 2)))),
     iGuard (sel 11) false (put 14) (iOp (put 14) (.e (eCallF 26 [(sel 12), (sel 13)]))),
     iOp (put 15) (.v false (oPick (sel 11) ⟨fun _ => .bool true⟩ (sel 14))),
     iOp (put 7) (.v false (oEv (sel 15)))])
   (sSeq (sSeq (sRegion [iOp (put 16) (.v false (oEv (sel 7)))])
     (sCond (sel 16)
       (sRegion [iOp (put 17) (.v true (oLoad1 (sel 3))),
         iOp (put 18) (.v false (oNilCheck (sel 17))),
         iOp (put 19) (.v false (oFieldAddr 4 (sel 18))),
         iOp (put 20) (.v true (oLoad1 (sel 19))),
         iOp (put 21) (.v false (oFieldAddr 11 (sel 5))),
         iOp (put 22) (.v true (oLoad1 (sel 21))),
         iOp (put 23) (.v false (oLenS (sel 22))),
         iOp (put 24) (.v false (oInt2 fSub (sel 20) (sel 23))),
         iOp (put 25) (.v false (oNilCheck (sel 17))),
         iOp (put 26) (.v false (oFieldAddr 4 (sel 25))),
         iOp ⟨fun _ a => a⟩ (.e (eStore 1 (sel 26) (sel 24)))])
       (sEx .normal)))
    (sSeq (sRegion [iOp (put 27) (.v false (oEv (sel 7))),
       iOp (put 6) (.v false (oEv (sel 27)))])
     (sEx .ret))))⟩
theorem d25 : denF Try.prog 25 = some c25 := denF_of (by kernel_rfl)
/-- bollard/serial.Less -/
noncomputable def c26 : CF := ⟨8, [.tmp (sel 4)],
  sSeq (sRegion [iOp (put 4) (.v false (oEv ⟨fun _ => .bool false⟩))])
  (sSeq (sRegion [iOp (put 5) (.v false (oEv (sel 0))),
     iOp (put 6) (.v false (oEv (sel 1))),
     iOp (put 7) (.e (eCallF 33 [(sel 5), (sel 6)])),
     iOp (put 4) (.v false (oEv (sel 7)))])
   (sEx .ret))⟩
theorem d26 : denF Try.prog 26 = some c26 := denF_of (by kernel_rfl)
noncomputable def c27_0 : Vm.Sem := sSeq (sRegion [iOp (put 42) (.e (eNext (sel 41))),
   iOp (put 43) (.v false (oExtract (sel 42) 0))])
 (sSeq (sCond (sel 43)
    (sEx .normal)
    (sEx (.exit 0)))
  (sBlock 1 (sSeq (sRegion [iOp (put 44) (.v true (oEntry (sel 41))),
      iOp (put 45) (.v false (oExtract (sel 44) 0)),
      iOp (put 7) (.a (aAlloc 78 [.int .u16 0, .int .u16 0])),
      iOp ⟨fun _ a => a⟩ (.e (eStore 2 (sel 7) (sel 45)))])
    (sSeq (sDr [iOp (put 46) (.v false (oFieldAddr 0 (sel 7))),
       iOp (put 47) (.v true (oLoad1 (sel 46))),
       iOp (put 48) (.v false (oFieldAddr 0 (sel 3))),
       iOp (put 49) (.v true (oLoad1 (sel 48))),
       iOp (put 50) (.v false (oEq (.one 1) (sel 47) (sel 49))),
       iOp (put 51) (.v false (oEv (sel 50))),
       iGuard (sel 51) true (put 52) (iOp (put 52) (.v true (oLoad1 (sel 5)))),
       iGuard (sel 51) true (put 53) (iOp (put 53) (.v true (oLoadN 2 (sel 7)))),
       iGuard (sel 51) true (put 54) (iOp (put 54) (.e (eCall (sel 52) [(sel 53)]))),
       iGuard (sel 51) true (put 55) (iOp (put 55) (.v false (oFieldAddr 1 (sel 3)))),
       iGuard (sel 51) true (put 56) (iOp (put 56) (.v true (oLoad1 (sel 55)))),
       iGuard (sel 51) true (put 57) (iOp (put 57) (.v true (oLoad1 (sel 4)))),
       iGuard (sel 51) true (put 58) (iOp (put 58) (.v false (oInt2 fSub (sel 56) (sel 57)))),
       iGuard (sel 51) true (put 59) (iOp (put 59) (.v false (oInt2 fLeq (sel 54) (sel 58)))),
       iOp (put 60) (.v false (oPick (sel 51) (sel 59) ⟨fun _ => .bool false⟩))]
       [(10, some ((sel 51), true), (oLoad1 (sel 55)), [0, 9]), (11, some ((sel 51), true), (oLoad1 (sel 4)), [0, 9])])
     (sCond (sel 60)
       (sRegion [iOp (put 61) (.v false (oEv (sel 6))),
         iOp (put 62) (.v true (oLoadN 2 (sel 7))),
         iOp (put 63) (.a (aBuildSlice 78 1 (rep 1 [.int .u16 0, .int .u16 0]) [(0, 2, (sel 62))])),
         iOp (put 64) (.e (eAppend 78 2 4 (sel 61) (sel 63))),
         iOp (put 6) (.v false (oEv (sel 64)))])
       (sEx .normal))))))
noncomputable def c27_1 : Vm.Sem := sSeq (sRegion [iOp (put 71) (.v false (oInt2 fLss (sel 70) (sel 69)))])
 (sSeq (sCond (sel 71)
    (sEx .normal)
    (sEx (.exit 2)))
  (sSeq (sBlock 3 (sSeq (sRegion [iOp (put 72) (.v false (oIndexAddrS 2 (sel 68) (sel 70))),
       iOp (put 73) (.v true (oLoadN 2 (sel 72))),
       iOp (put 9) (.a (aAlloc 78 [.int .u16 0, .int .u16 0])),
       iOp ⟨fun _ a => a⟩ (.e (eStore 2 (sel 9) (sel 73)))])
     (sRegion [iOp (put 74) (.v false (oEv (sel 0))),
       iOp (put 75) (.v true (oLoadN 2 (sel 9))),
       iOp (put 76) (.e (eCallF 38 [(sel 74), (sel 75)]))])))
   (sRegion [iOp (put 77) (.v false (oInt2 fAdd (sel 70) ⟨fun _ => .int .i64 1⟩)),
     iOp (put 70) (.v false (oEv (sel 77)))])))
/-- (*bollard/join.Join).skip -/
noncomputable def c27 : CF := ⟨92, [],
  sSeq (sRegion [iOp (put 3) (.a (aBox 51 (sel 1)))])
  (sSeq (sSeq (sOne (sRegion [iOp (put 10) (.v false (oEv (sel 0))),
      iOp (put 11) (.v false (oFieldAddr 0 (sel 3))),
      iOp (put 12) (.v true (oLoad1 (sel 11))),
      iOp (put 13) (.e (eCallF 19 [(sel 10), (sel 12)])),
      iOp (put 14) (.v false (oNot (sel 13))),
      iOp (put 15) (.v false (oEv (sel 14))),
      iGuard (sel 15) false (put 16) (iOp (put 16) (.v false (oFieldAddr 1 (sel 3)))),
      iGuard (sel 15) false (put 17) (iOp (put 17) (.v true (oLoad1 (sel 16)))),
      iGuard (sel 15) false (put 18) (iOp (put 18) (.v false (oEv (sel 0)))),
      iGuard (sel 15) false (put 19) (iOp (put 19) (.v false (oNilCheck (sel 18)))),
      iGuard (sel 15) false (put 20) (iOp (put 20) (.v false (oFieldAddr 0 (sel 19)))),
      iGuard (sel 15) false (put 21) (iOp (put 21) (.v true (oLoad1 (sel 20)))),
      iGuard (sel 15) false (put 22) (iOp (put 22) (.v false (oFieldAddr 0 (sel 3)))),
      iGuard (sel 15) false (put 23) (iOp (put 23) (.v true (oLoad1 (sel 22)))),
      iGuard (sel 15) false (put 24) (iOp (put 24) (.v false (oIndexAddrS 1 (sel 21) (sel 23)))),
      iGuard (sel 15) false (put 25) (iOp (put 25) (.v true (oLoad1 (sel 24)))),
      iGuard (sel 15) false (put 26) (iOp (put 26) (.e (eCallF 31 [(sel 17), (sel 25)]))),
      iOp (put 27) (.v false (oPick (sel 15) ⟨fun _ => .bool true⟩ (sel 26)))]))
    (sCond (sel 27)
      (sEx .ret)
      (sEx .normal)))
   (sSeq (sRegion [iOp (put 28) (.v false (oEv (sel 0))),
      iOp (put 29) (.v false (oNilCheck (sel 28))),
      iOp (put 30) (.v false (oFieldAddr 0 (sel 29))),
      iOp (put 31) (.v true (oLoad1 (sel 30))),
      iOp (put 32) (.v false (oFieldAddr 0 (sel 3))),
      iOp (put 33) (.v true (oLoad1 (sel 32))),
      iOp (put 34) (.v false (oIndexAddrS 1 (sel 31) (sel 33))),
      iOp (put 35) (.v true (oLoad1 (sel 34))),
      iOp (put 4) (.a (aAlloc 27 [.int .u16 0])),
      iOp ⟨fun _ a => a⟩ (.e (eStore 1 (sel 4) (sel 35)))])
    (sSeq (sRegion [iOp (put 36) (.v false (oFunc (.func 34) [] [(sel 4)])),
       iOp (put 5) (.a (aAlloc 82 [.nilFunc])),
       iOp ⟨fun _ a => a⟩ (.e (eStore 1 (sel 5) (sel 36)))])
     (sSeq (sRegion [iOp (put 6) (.v false (oEv ⟨fun _ => .slice none 0 0⟩))])
      (sSeq (sSeq (sRegion [iOp (put 37) (.v false (oEv (sel 0))),
          iOp (put 38) (.v false (oNilCheck (sel 37))),
          iOp (put 39) (.v false (oFieldAddr 2 (sel 38))),
          iOp (put 40) (.v true (oLoad1 (sel 39))),
          iOp (put 41) (.e (eRange (sel 40)))])
        (sBlock 0 (sLoop c27_0)))
       (sSeq (sRegion [iOp (put 65) (.v false (oEv (sel 6))),
          iOp (put 66) (.v false (oFunc (.func 36) [] [(sel 5)])),
          iOp (put 67) (.e (eCallF 35 [(sel 65), (sel 66)]))])
        (sSeq (sSeq (sRegion [iOp (put 68) (.v false (oEv (sel 6))),
            iOp (put 69) (.v false (oLenS (sel 68))),
            iOp (put 70) (.v false (oEv ⟨fun _ => .int .i64 0⟩))])
          (sBlock 2 (sLoop c27_1)))
         (sSeq (sRegion [iOp (put 78) (.v false (oEv (sel 0))),
            iOp (put 79) (.v false (oNilCheck (sel 78))),
            iOp (put 80) (.v false (oFieldAddr 0 (sel 79))),
            iOp (put 81) (.v true (oLoad1 (sel 80))),
            iOp (put 82) (.v false (oFieldAddr 0 (sel 3))),
            iOp (put 83) (.v true (oLoad1 (sel 82))),
            iOp (put 84) (.v false (oFieldAddr 1 (sel 3))),
            iOp (put 85) (.v true (oLoad1 (sel 84))),
            iOp (put 86) (.v false (oInt2 fAdd (sel 85) ⟨fun _ => .int .u16 1⟩)),
            iOp (put 87) (.v false (oIndexAddrS 1 (sel 81) (sel 83))),
            iOp ⟨fun _ a => a⟩ (.e (eStore 1 (sel 87) (sel 86)))])
          (sRegion [iOp (put 88) (.v false (oEv (sel 0))),
            iOp (put 89) (.v false (oFieldAddr 0 (sel 3))),
            iOp (put 90) (.v true (oLoad1 (sel 89))),
            iOp (put 91) (.e (eCallF 32 [(sel 88), (sel 90)]))])))))))))⟩
theorem d27 : denF Try.prog 27 = some c27 := denF_of (by kernel_rfl)
/-- bollard/split.Follows -/
noncomputable def c30 : CF := ⟨67, [.tmp (sel 4)],
  sSeq (sRegion [iOp (put 2) (.a (aBox 42 (sel 0))),
    iOp (put 3) (.a (aBox 42 (sel 1))),
    iOp (put 4) (.v false (oEv ⟨fun _ => .bool false⟩))])
  (sSeq (sRegion [iOp (put 7) (.v false (oFieldAddr 0 (sel 2))),
     iOp (put 8) (.v true (oLoad1 (sel 7))),
     iOp (put 9) (.v false (oEq (.one 1) (sel 8) ⟨fun _ => .int .u8 0⟩)),
     iOp (put 10) (.v false (oEv (sel 9))),
     iGuard (sel 10) true (put 11) (iOp (put 11) (.v false (oFieldAddr 0 (sel 3)))),
     iGuard (sel 10) true (put 12) (iOp (put 12) (.v true (oLoad1 (sel 11)))),
     iGuard (sel 10) true (put 13) (iOp (put 13) (.v false (oEq (.one 1) (sel 12) ⟨fun _ => .int .u8 0⟩))),
     iOp (put 14) (.v false (oPick (sel 10) (sel 13) ⟨fun _ => .bool false⟩)),
     iOp (put 5) (.v false (oEv (sel 14)))])
   (sSeq (sRegion [iOp (put 15) (.v false (oFieldAddr 4 (sel 2))),
      iOp (put 16) (.v true (oLoad1 (sel 15))),
      iOp (put 17) (.v false (oFieldAddr 4 (sel 3))),
      iOp (put 18) (.v true (oLoad1 (sel 17))),
      iOp (put 19) (.v false (oEq (.one 1) (sel 16) (sel 18))),
      iOp (put 20) (.v false (oEv (sel 19))),
      iGuard (sel 20) true (put 21) (iOp (put 21) (.v false (oFieldAddr 5 (sel 2)))),
      iGuard (sel 20) true (put 22) (iOp (put 22) (.v true (oLoad1 (sel 21)))),
      iGuard (sel 20) true (put 23) (iOp (put 23) (.v false (oFieldAddr 5 (sel 3)))),
      iGuard (sel 20) true (put 24) (iOp (put 24) (.v true (oLoad1 (sel 23)))),
      iGuard (sel 20) true (put 25) (iOp (put 25) (.v false (oEq (.one 1) (sel 22) (sel 24)))),
      iOp (put 26) (.v false (oPick (sel 20) (sel 25) ⟨fun _ => .bool false⟩)),
      iOp (put 27) (.v false (oEv (sel 26))),
      iGuard (sel 27) true (put 28) (iOp (put 28) (.v false (oFieldAddr 6 (sel 2)))),
      iGuard (sel 27) true (put 29) (iOp (put 29) (.v true (oLoad1 (sel 28)))),
      iGuard (sel 27) true (put 30) (iOp (put 30) (.v false (oFieldAddr 6 (sel 3)))),
      iGuard (sel 27) true (put 31) (iOp (put 31) (.v true (oLoad1 (sel 30)))),
      iGuard (sel 27) true (put 32) (iOp (put 32) (.v false (oEq (.one 1) (sel 29) (sel 31)))),
      iOp (put 33) (.v false (oPick (sel 27) (sel 32) ⟨fun _ => .bool false⟩)),
      iOp (put 34) (.v false (oEv (sel 33))),
      iGuard (sel 34) true (put 35) (iOp (put 35) (.v false (oFieldAddr 1 (sel 2)))),
      iGuard (sel 34) true (put 36) (iOp (put 36) (.v true (oLoad1 (sel 35)))),
      iGuard (sel 34) true (put 37) (iOp (put 37) (.v false (oFieldAddr 1 (sel 3)))),
      iGuard (sel 34) true (put 38) (iOp (put 38) (.v true (oLoad1 (sel 37)))),
      iGuard (sel 34) true (put 39) (iOp (put 39) (.v false (oInt2 fXor (sel 36) (sel 38)))),
      iGuard (sel 34) true (put 40) (iOp (put 40) (.v false (oInt2 fAnd (sel 39) ⟨fun _ => .int .u8 4⟩))),
      iGuard (sel 34) true (put 41) (iOp (put 41) (.v false (oEq (.one 1) (sel 40) ⟨fun _ => .int .u8 0⟩))),
      iOp (put 42) (.v false (oPick (sel 34) (sel 41) ⟨fun _ => .bool false⟩)),
      iOp (put 6) (.v false (oEv (sel 42)))])
    (sSeq (sRegion [iOp (put 43) (.v false (oEv (sel 5))),
       iOp (put 44) (.v false (oEv (sel 43))),
       iGuard (sel 44) true (put 45) (iOp (put 45) (.v false (oEv (sel 6)))),
       iOp (put 46) (.v false (oPick (sel 44) (sel 45) ⟨fun _ => .bool false⟩)),
       iOp (put 47) (.v false (oEv (sel 46))),
       iGuard (sel 47) true (put 48) (iOp (put 48) (.v false (oFieldAddr 2 (sel 3)))),
       iGuard (sel 47) true (put 49) (iOp (put 49) (.v true (oLoad1 (sel 48)))),
       iGuard (sel 47) true (put 50) (iOp (put 50) (.v false (oFieldAddr 2 (sel 2)))),
       iGuard (sel 47) true (put 51) (iOp (put 51) (.v true (oLoad1 (sel 50)))),
       iGuard (sel 47) true (put 52) (iOp (put 52) (.v false (oInt2 fAdd (sel 51) ⟨fun _ => .int .u32 1⟩))),
       iGuard (sel 47) true (put 53) (iOp (put 53) (.v false (oEq (.one 1) (sel 49) (sel 52)))),
       iOp (put 54) (.v false (oPick (sel 47) (sel 53) ⟨fun _ => .bool false⟩)),
       iOp (put 55) (.v false (oEv (sel 54))),
       iGuard (sel 55) true (put 56) (iOp (put 56) (.v false (oFieldAddr 1 (sel 2)))),
       iGuard (sel 55) true (put 57) (iOp (put 57) (.v true (oLoad1 (sel 56)))),
       iGuard (sel 55) true (put 58) (iOp (put 58) (.v false (oInt2 fAnd (sel 57) ⟨fun _ => .int .u8 1⟩))),
       iGuard (sel 55) true (put 59) (iOp (put 59) (.v false (oEq (.one 1) (sel 58) ⟨fun _ => .int .u8 0⟩))),
       iOp (put 60) (.v false (oPick (sel 55) (sel 59) ⟨fun _ => .bool false⟩)),
       iOp (put 61) (.v false (oEv (sel 60))),
       iGuard (sel 61) true (put 62) (iOp (put 62) (.v false (oFieldAddr 1 (sel 3)))),
       iGuard (sel 61) true (put 63) (iOp (put 63) (.v true (oLoad1 (sel 62)))),
       iGuard (sel 61) true (put 64) (iOp (put 64) (.v false (oInt2 fAnd (sel 63) ⟨fun _ => .int .u8 2⟩))),
       iGuard (sel 61) true (put 65) (iOp (put 65) (.v false (oEq (.one 1) (sel 64) ⟨fun _ => .int .u8 0⟩))),
       iOp (put 66) (.v false (oPick (sel 61) (sel 65) ⟨fun _ => .bool false⟩)),
       iOp (put 4) (.v false (oEv (sel 66)))])
     (sEx .ret))))⟩
theorem d30 : denF Try.prog 30 = some c30 := denF_of (by kernel_rfl)
/-- bollard/serial.Less16 -/
noncomputable def c31 : CF := ⟨8, [.tmp (sel 4)],
  sSeq (sRegion [iOp (put 4) (.v false (oEv ⟨fun _ => .bool false⟩))])
  (sSeq (sRegion [iOp (put 5) (.v false (oEv (sel 0))),
     iOp (put 6) (.v false (oEv (sel 1))),
     iOp (put 7) (.e (eCallF 39 [(sel 5), (sel 6)])),
     iOp (put 4) (.v false (oEv (sel 7)))])
   (sEx .ret))⟩
theorem d31 : denF Try.prog 31 = some c31 := denF_of (by kernel_rfl)
noncomputable def c32_0 : Vm.Sem := sSeq (sSeq (sRegion [iOp (put 4) (.v false (oEv (sel 0))),
    iOp (put 5) (.v false (oEv (sel 1))),
    iOp (put 6) (.v false (oEv (sel 0))),
    iOp (put 7) (.v false (oNilCheck (sel 6))),
    iOp (put 8) (.v false (oFieldAddr 0 (sel 7))),
    iOp (put 9) (.v true (oLoad1 (sel 8))),
    iOp (put 10) (.v false (oEv (sel 1))),
    iOp (put 11) (.v false (oIndexAddrS 1 (sel 9) (sel 10))),
    iOp (put 12) (.v true (oLoad1 (sel 11))),
    iOp (put 13) (.v false (oBuild [.int .u16 0, .int .u16 0] [(0, 1, (sel 5)), (1, 1, (sel 12))])),
    iOp (put 14) (.e (eCallF 38 [(sel 4), (sel 13)]))])
  (sCond (sel 14)
    (sEx .normal)
    (sEx (.exit 0))))
 (sBlock 1 (sRegion [iOp (put 15) (.v false (oEv (sel 0))),
    iOp (put 16) (.v false (oNilCheck (sel 15))),
    iOp (put 17) (.v false (oFieldAddr 0 (sel 16))),
    iOp (put 18) (.v true (oLoad1 (sel 17))),
    iOp (put 19) (.v false (oEv (sel 1))),
    iOp (put 20) (.v false (oIndexAddrS 1 (sel 18) (sel 19))),
    iOp (put 21) (.v true (oLoad1 (sel 20))),
    iOp (put 22) (.v false (oInt2 fAdd (sel 21) ⟨fun _ => .int .u16 1⟩)),
    iOp (put 23) (.v false (oIndexAddrS 1 (sel 18) (sel 19))),
    iOp ⟨fun _ a => a⟩ (.e (eStore 1 (sel 23) (sel 22)))]))
/-- (*bollard/join.Join).tell -/
noncomputable def c32 : CF := ⟨24, [],
  sBlock 0 (sLoop c32_0)⟩
theorem d32 : denF Try.prog 32 = some c32 := denF_of (by kernel_rfl)
/-- bollard/serial.less[uint32] -/
noncomputable def c33 : CF := ⟨18, [.tmp (sel 4)],
  sSeq (sRegion [iOp (put 4) (.v false (oEv ⟨fun _ => .bool false⟩))])
  (sSeq (sRegion [iOp (put 6) (.v false (oEv (sel 1))),
     iOp (put 7) (.v false (oEv (sel 0))),
     iOp (put 8) (.v false (oInt2 fSub (sel 6) (sel 7))),
     iOp (put 5) (.v false (oEv (sel 8)))])
   (sSeq (sRegion [iOp (put 9) (.v false (oEv (sel 5))),
      iOp (put 10) (.v false (oNe (.one 1) (sel 9) ⟨fun _ => .int .u32 0⟩)),
      iOp (put 11) (.v false (oEv (sel 10))),
      iGuard (sel 11) true (put 12) (iOp (put 12) (.v false (oEv (sel 5)))),
      iGuard (sel 11) true (put 13) (iOp (put 13) (.v false (oConvInt .u32 ⟨fun _ => .int .i64 0⟩))),
      iGuard (sel 11) true (put 14) (iOp (put 14) (.v false (oCom (sel 13)))),
      iGuard (sel 11) true (put 15) (iOp (put 15) (.v false (oSh fShr (sel 14) ⟨fun _ => .int .u64 1⟩))),
      iGuard (sel 11) true (put 16) (iOp (put 16) (.v false (oInt2 fLeq (sel 12) (sel 15)))),
      iOp (put 17) (.v false (oPick (sel 11) (sel 16) ⟨fun _ => .bool false⟩)),
      iOp (put 4) (.v false (oEv (sel 17)))])
    (sEx .ret)))⟩
theorem d33 : denF Try.prog 33 = some c33 := denF_of (by kernel_rfl)
/-- (*bollard/join.Join).skip$1 -/
noncomputable def c34 : CF := ⟨8, [.tmp (sel 3)],
  sSeq (sRegion [iOp (put 2) (.a (aBox 78 (sel 0))),
    iOp (put 3) (.v false (oEv ⟨fun _ => .int .u16 0⟩))])
  (sSeq (sRegion [iOp (put 4) (.v false (oFieldAddr 1 (sel 2))),
     iOp (put 5) (.v true (oLoad1 (sel 4))),
     iOp (put 6) (.v true (oLoad1 (sel 1))),
     iOp (put 7) (.v false (oInt2 fSub (sel 5) (sel 6))),
     iOp (put 3) (.v false (oEv (sel 7)))])
   (sEx .ret))⟩
theorem d34 : denF Try.prog 34 = some c34 := denF_of (by kernel_rfl)
/-- slices.SortFunc[[]bollard/join.number,bollard/join.number] -/
noncomputable def c35 : CF := ⟨14, [],
  sSeq (sRegion [iOp (put 5) (.v false (oEv (sel 0))),
    iOp (put 6) (.v false (oLenS (sel 5))),
    iOp (put 4) (.v false (oEv (sel 6)))])
  (sRegion [iOp (put 7) (.v false (oEv (sel 0))),
    iOp (put 8) (.v false (oEv (sel 4))),
    iOp (put 9) (.v false (oEv (sel 4))),
    iOp (put 10) (.v false (oConvInt .u64 (sel 9))),
    iOp (put 11) (.e (eCallF 41 [(sel 10)])),
    iOp (put 12) (.v false (oEv (sel 1))),
    iOp (put 13) (.e (eCallF 40 [(sel 7), ⟨fun _ => .int .i64 0⟩, (sel 8), (sel 11), (sel 12)]))])⟩
theorem d35 : denF Try.prog 35 = some c35 := denF_of (by kernel_rfl)
/-- (*bollard/join.Join).skip$2 -/
noncomputable def c36 : CF := ⟨13, [.tmp (sel 5)],
  sSeq (sRegion [iOp (put 3) (.a (aBox 78 (sel 0))),
    iOp (put 4) (.a (aBox 78 (sel 1))),
    iOp (put 5) (.v false (oEv ⟨fun _ => .int .i64 0⟩))])
  (sSeq (sDr [iOp (put 6) (.v true (oLoad1 (sel 2))),
     iOp (put 7) (.v true (oLoadN 2 (sel 3))),
     iOp (put 8) (.e (eCall (sel 6) [(sel 7)])),
     iOp (put 9) (.v true (oLoad1 (sel 2))),
     iOp (put 10) (.v true (oLoadN 2 (sel 4))),
     iOp (put 11) (.e (eCall (sel 9) [(sel 10)])),
     iOp (put 12) (.e (eCallF 37 [(sel 8), (sel 11)])),
     iOp (put 5) (.v false (oEv (sel 12)))]
     [(3, none, (oLoad1 (sel 2)), [0, 3]), (4, none, (oLoadN 2 (sel 4)), [0, 3])])
   (sEx .ret))⟩
theorem d36 : denF Try.prog 36 = some c36 := denF_of (by kernel_rfl)
/-- (*bollard/join.Join).pull -/
noncomputable def c38 : CF := ⟨33, [.tmp (sel 4)],
  sSeq (sRegion [iOp (put 3) (.a (aBox 78 (sel 1))),
    iOp (put 4) (.v false (oEv ⟨fun _ => .bool false⟩))])
  (sSeq (sRegion [iOp (put 8) (.v false (oEv (sel 0))),
     iOp (put 9) (.v false (oNilCheck (sel 8))),
     iOp (put 10) (.v false (oFieldAddr 2 (sel 9))),
     iOp (put 11) (.v true (oLoad1 (sel 10))),
     iOp (put 12) (.v true (oLoadN 2 (sel 3))),
     iOp (put 13) (.v true (oLookup (.agg [1, 1]) (.agg #[.int .u16 0, .bool false, .int .u32 0, .slice none 0 0]) true (sel 11) (sel 12))),
     iOp (put 7) (.v false (oEv (sel 13))),
     iOp (put 14) (.v false (oExtract (sel 7) 0)),
     iOp (put 15) (.v false (oExtract (sel 7) 1)),
     iOp (put 5) (.a (aAlloc 30 [.int .u16 0, .bool false, .int .u32 0, .slice none 0 0])),
     iOp ⟨fun _ a => a⟩ (.e (eStore 4 (sel 5) (sel 14))),
     iOp (put 6) (.v false (oEv (sel 15)))])
   (sSeq (sSeq (sRegion [iOp (put 16) (.v false (oEv (sel 6)))])
     (sCond (sel 16)
       (sSeq (sRegion [iOp (put 17) (.v false (oEv (sel 0))),
          iOp (put 18) (.v false (oEv (sel 0))),
          iOp (put 19) (.v false (oNilCheck (sel 18))),
          iOp (put 20) (.v false (oFieldAddr 3 (sel 19))),
          iOp (put 21) (.v true (oLoad1 (sel 20))),
          iOp (put 22) (.v true (oLoadN 4 (sel 5))),
          iOp (put 23) (.a (aBuildSlice 30 1 (rep 1 [.int .u16 0, .bool false, .int .u32 0, .slice none 0 0]) [(0, 4, (sel 22))])),
          iOp (put 24) (.e (eAppend 30 4 32 (sel 21) (sel 23))),
          iOp (put 25) (.v false (oNilCheck (sel 17))),
          iOp (put 26) (.v false (oFieldAddr 3 (sel 25))),
          iOp ⟨fun _ a => a⟩ (.e (eStore 1 (sel 26) (sel 24)))])
        (sRegion [iOp (put 27) (.v false (oEv (sel 0))),
          iOp (put 28) (.v false (oNilCheck (sel 27))),
          iOp (put 29) (.v false (oFieldAddr 2 (sel 28))),
          iOp (put 30) (.v true (oLoad1 (sel 29))),
          iOp (put 31) (.v true (oLoadN 2 (sel 3))),
          iOp ⟨fun _ a => a⟩ (.e (eDelete (.agg [1, 1]) (sel 30) (sel 31)))]))
       (sEx .normal)))
    (sSeq (sRegion [iOp (put 32) (.v false (oEv (sel 6))),
       iOp (put 4) (.v false (oEv (sel 32)))])
     (sEx .ret))))⟩
theorem d38 : denF Try.prog 38 = some c38 := denF_of (by kernel_rfl)
/-- bollard/serial.less[uint16] -/
noncomputable def c39 : CF := ⟨18, [.tmp (sel 4)],
  sSeq (sRegion [iOp (put 4) (.v false (oEv ⟨fun _ => .bool false⟩))])
  (sSeq (sRegion [iOp (put 6) (.v false (oEv (sel 1))),
     iOp (put 7) (.v false (oEv (sel 0))),
     iOp (put 8) (.v false (oInt2 fSub (sel 6) (sel 7))),
     iOp (put 5) (.v false (oEv (sel 8)))])
   (sSeq (sRegion [iOp (put 9) (.v false (oEv (sel 5))),
      iOp (put 10) (.v false (oNe (.one 1) (sel 9) ⟨fun _ => .int .u16 0⟩)),
      iOp (put 11) (.v false (oEv (sel 10))),
      iGuard (sel 11) true (put 12) (iOp (put 12) (.v false (oEv (sel 5)))),
      iGuard (sel 11) true (put 13) (iOp (put 13) (.v false (oConvInt .u16 ⟨fun _ => .int .i64 0⟩))),
      iGuard (sel 11) true (put 14) (iOp (put 14) (.v false (oCom (sel 13)))),
      iGuard (sel 11) true (put 15) (iOp (put 15) (.v false (oSh fShr (sel 14) ⟨fun _ => .int .u64 1⟩))),
      iGuard (sel 11) true (put 16) (iOp (put 16) (.v false (oInt2 fLeq (sel 12) (sel 15)))),
      iOp (put 17) (.v false (oPick (sel 11) (sel 16) ⟨fun _ => .bool false⟩)),
      iOp (put 4) (.v false (oEv (sel 17)))])
    (sEx .ret)))⟩
theorem d39 : denF Try.prog 39 = some c39 := denF_of (by kernel_rfl)
noncomputable def c40_0 : Vm.Sem := sBlock 1 (sSeq (sRegion [iOp (put 21) (.v false (oEv (sel 2))),
    iOp (put 22) (.v false (oEv (sel 1))),
    iOp (put 23) (.v false (oInt2 fSub (sel 21) (sel 22))),
    iOp (put 12) (.v false (oEv (sel 23)))])
  (sSeq (sSeq (sRegion [iOp (put 24) (.v false (oEv (sel 12))),
      iOp (put 25) (.v false (oInt2 fLeq (sel 24) ⟨fun _ => .int .i64 12⟩))])
    (sCond (sel 25)
      (sSeq (sRegion [iOp (put 26) (.v false (oEv (sel 0))),
         iOp (put 27) (.v false (oEv (sel 1))),
         iOp (put 28) (.v false (oEv (sel 2))),
         iOp (put 29) (.v false (oEv (sel 4))),
         iOp (put 30) (.e (eCallF 43 [(sel 26), (sel 27), (sel 28), (sel 29)]))])
       (sEx .ret))
      (sEx .normal)))
   (sSeq (sSeq (sRegion [iOp (put 31) (.v false (oEv (sel 3))),
       iOp (put 32) (.v false (oEq (.one 1) (sel 31) ⟨fun _ => .int .i64 0⟩))])
     (sCond (sel 32)
       (sSeq (sRegion [iOp (put 33) (.v false (oEv (sel 0))),
          iOp (put 34) (.v false (oEv (sel 1))),
          iOp (put 35) (.v false (oEv (sel 2))),
          iOp (put 36) (.v false (oEv (sel 4))),
          iOp (put 37) (.e (eCallF 44 [(sel 33), (sel 34), (sel 35), (sel 36)]))])
        (sEx .ret))
       (sEx .normal)))
    (sSeq (sSeq (sRegion [iOp (put 38) (.v false (oEv (sel 10))),
        iOp (put 39) (.v false (oNot (sel 38)))])
      (sCond (sel 39)
        (sSeq (sRegion [iOp (put 40) (.v false (oEv (sel 0))),
           iOp (put 41) (.v false (oEv (sel 1))),
           iOp (put 42) (.v false (oEv (sel 2))),
           iOp (put 43) (.v false (oEv (sel 4))),
           iOp (put 44) (.e (eCallF 45 [(sel 40), (sel 41), (sel 42), (sel 43)]))])
         (sRegion [iOp (put 45) (.v false (oEv (sel 3))),
           iOp (put 46) (.v false (oInt2 fSub (sel 45) ⟨fun _ => .int .i64 1⟩)),
           iOp (put 3) (.v false (oEv (sel 46)))]))
        (sEx .normal)))
     (sSeq (sRegion [iOp (put 48) (.v false (oEv (sel 0))),
        iOp (put 49) (.v false (oEv (sel 1))),
        iOp (put 50) (.v false (oEv (sel 2))),
        iOp (put 51) (.v false (oEv (sel 4))),
        iOp (put 52) (.e (eCallF 46 [(sel 48), (sel 49), (sel 50), (sel 51)])),
        iOp (put 47) (.v false (oEv (sel 52))),
        iOp (put 53) (.v false (oExtract (sel 47) 0)),
        iOp (put 54) (.v false (oExtract (sel 47) 1)),
        iOp (put 13) (.v false (oEv (sel 53))),
        iOp (put 14) (.v false (oEv (sel 54)))])
      (sSeq (sSeq (sRegion [iOp (put 55) (.v false (oEv (sel 14))),
          iOp (put 56) (.v false (oEq (.one 1) (sel 55) ⟨fun _ => .int .i64 2⟩))])
        (sCond (sel 56)
          (sSeq (sRegion [iOp (put 57) (.v false (oEv (sel 0))),
             iOp (put 58) (.v false (oEv (sel 1))),
             iOp (put 59) (.v false (oEv (sel 2))),
             iOp (put 60) (.v false (oEv (sel 4))),
             iOp (put 61) (.e (eCallF 47 [(sel 57), (sel 58), (sel 59), (sel 60)]))])
           (sSeq (sRegion [iOp (put 62) (.v false (oEv (sel 2))),
              iOp (put 63) (.v false (oInt2 fSub (sel 62) ⟨fun _ => .int .i64 1⟩)),
              iOp (put 64) (.v false (oEv (sel 13))),
              iOp (put 65) (.v false (oEv (sel 1))),
              iOp (put 66) (.v false (oInt2 fSub (sel 64) (sel 65))),
              iOp (put 67) (.v false (oInt2 fSub (sel 63) (sel 66))),
              iOp (put 13) (.v false (oEv (sel 67)))])
            (sRegion [iOp (put 14) (.v false (oEv ⟨fun _ => .int .i64 1⟩))])))
          (sEx .normal)))
       (sSeq (sSeq (sRegion [iOp (put 68) (.v false (oEv (sel 10))),
           iOp (put 69) (.v false (oEv (sel 68))),
           iGuard (sel 69) true (put 70) (iOp (put 70) (.v false (oEv (sel 11)))),
           iOp (put 71) (.v false (oPick (sel 69) (sel 70) ⟨fun _ => .bool false⟩)),
           iOp (put 72) (.v false (oEv (sel 71))),
           iGuard (sel 72) true (put 73) (iOp (put 73) (.v false (oEv (sel 14)))),
           iGuard (sel 72) true (put 74) (iOp (put 74) (.v false (oEq (.one 1) (sel 73) ⟨fun _ => .int .i64 1⟩))),
           iOp (put 75) (.v false (oPick (sel 72) (sel 74) ⟨fun _ => .bool false⟩))])
         (sCond (sel 75)
           (sSeq (sRegion [iOp (put 76) (.v false (oEv (sel 0))),
              iOp (put 77) (.v false (oEv (sel 1))),
              iOp (put 78) (.v false (oEv (sel 2))),
              iOp (put 79) (.v false (oEv (sel 4))),
              iOp (put 80) (.e (eCallF 48 [(sel 76), (sel 77), (sel 78), (sel 79)]))])
            (sCond (sel 80)
              (sEx .ret)
              (sEx .normal)))
           (sEx .normal)))
        (sSeq (sSeq (sOne (sRegion [iOp (put 81) (.v false (oEv (sel 1))),
            iOp (put 82) (.v false (oInt2 fGtr (sel 81) ⟨fun _ => .int .i64 0⟩)),
            iOp (put 83) (.v false (oEv (sel 82))),
            iGuard (sel 83) true (put 84) (iOp (put 84) (.v false (oEv (sel 4)))),
            iGuard (sel 83) true (put 85) (iOp (put 85) (.v false (oEv (sel 0)))),
            iGuard (sel 83) true (put 86) (iOp (put 86) (.v false (oEv (sel 1)))),
            iGuard (sel 83) true (put 87) (iOp (put 87) (.v false (oInt2 fSub (sel 86) ⟨fun _ => .int .i64 1⟩))),
            iGuard (sel 83) true (put 88) (iOp (put 88) (.v false (oIndexAddrS 2 (sel 85) (sel 87)))),
            iGuard (sel 83) true (put 89) (iOp (put 89) (.v true (oLoadN 2 (sel 88)))),
            iGuard (sel 83) true (put 90) (iOp (put 90) (.v false (oEv (sel 0)))),
            iGuard (sel 83) true (put 91) (iOp (put 91) (.v false (oEv (sel 13)))),
            iGuard (sel 83) true (put 92) (iOp (put 92) (.v false (oIndexAddrS 2 (sel 90) (sel 91)))),
            iGuard (sel 83) true (put 93) (iOp (put 93) (.v true (oLoadN 2 (sel 92)))),
            iGuard (sel 83) true (put 94) (iOp (put 94) (.e (eCall (sel 84) [(sel 89), (sel 93)]))),
            iGuard (sel 83) true (put 95) (iOp (put 95) (.v false (oInt2 fLss (sel 94) ⟨fun _ => .int .i64 0⟩))),
            iGuard (sel 83) true (put 96) (iOp (put 96) (.v false (oNot (sel 95)))),
            iOp (put 97) (.v false (oPick (sel 83) (sel 96) ⟨fun _ => .bool false⟩))]))
          (sCond (sel 97)
            (sSeq (sRegion [iOp (put 98) (.v false (oEv (sel 0))),
               iOp (put 99) (.v false (oEv (sel 1))),
               iOp (put 100) (.v false (oEv (sel 2))),
               iOp (put 101) (.v false (oEv (sel 13))),
               iOp (put 102) (.v false (oEv (sel 4))),
               iOp (put 103) (.e (eCallF 49 [(sel 98), (sel 99), (sel 100), (sel 101), (sel 102)])),
               iOp (put 15) (.v false (oEv (sel 103)))])
             (sSeq (sRegion [iOp (put 104) (.v false (oEv (sel 15))),
                iOp (put 1) (.v false (oEv (sel 104)))])
              (sEx (.exit 1))))
            (sEx .normal)))
         (sSeq (sRegion [iOp (put 106) (.v false (oEv (sel 0))),
            iOp (put 107) (.v false (oEv (sel 1))),
            iOp (put 108) (.v false (oEv (sel 2))),
            iOp (put 109) (.v false (oEv (sel 13))),
            iOp (put 110) (.v false (oEv (sel 4))),
            iOp (put 111) (.e (eCallF 50 [(sel 106), (sel 107), (sel 108), (sel 109), (sel 110)])),
            iOp (put 105) (.v false (oEv (sel 111))),
            iOp (put 112) (.v false (oExtract (sel 105) 0)),
            iOp (put 113) (.v false (oExtract (sel 105) 1)),
            iOp (put 16) (.v false (oEv (sel 112))),
            iOp (put 17) (.v false (oEv (sel 113)))])
          (sSeq (sRegion [iOp (put 114) (.v false (oEv (sel 17))),
             iOp (put 11) (.v false (oEv (sel 114)))])
           (sSeq (sRegion [iOp (put 115) (.v false (oEv (sel 16))),
              iOp (put 116) (.v false (oEv (sel 1))),
              iOp (put 117) (.v false (oInt2 fSub (sel 115) (sel 116))),
              iOp (put 118) (.v false (oEv (sel 2))),
              iOp (put 119) (.v false (oEv (sel 16))),
              iOp (put 120) (.v false (oInt2 fSub (sel 118) (sel 119))),
              iOp (put 18) (.v false (oEv (sel 117))),
              iOp (put 19) (.v false (oEv (sel 120)))])
            (sSeq (sRegion [iOp (put 121) (.v false (oEv (sel 12))),
               iOp (put 122) (.v false (oInt2 fQuo (sel 121) ⟨fun _ => .int .i64 8⟩)),
               iOp (put 20) (.v false (oEv (sel 122)))])
             (sSeq (sRegion [iOp (put 123) (.v false (oEv (sel 18))),
                iOp (put 124) (.v false (oEv (sel 19))),
                iOp (put 125) (.v false (oInt2 fLss (sel 123) (sel 124)))])
              (sCond (sel 125)
                (sSeq (sRegion [iOp (put 126) (.v false (oEv (sel 18))),
                   iOp (put 127) (.v false (oEv (sel 20))),
                   iOp (put 128) (.v false (oInt2 fGeq (sel 126) (sel 127))),
                   iOp (put 10) (.v false (oEv (sel 128)))])
                 (sSeq (sRegion [iOp (put 129) (.v false (oEv (sel 0))),
                    iOp (put 130) (.v false (oEv (sel 1))),
                    iOp (put 131) (.v false (oEv (sel 16))),
                    iOp (put 132) (.v false (oEv (sel 3))),
                    iOp (put 133) (.v false (oEv (sel 4))),
                    iOp (put 134) (.e (eCallF 40 [(sel 129), (sel 130), (sel 131), (sel 132), (sel 133)]))])
                  (sRegion [iOp (put 135) (.v false (oEv (sel 16))),
                    iOp (put 136) (.v false (oInt2 fAdd (sel 135) ⟨fun _ => .int .i64 1⟩)),
                    iOp (put 1) (.v false (oEv (sel 136)))])))
                (sSeq (sRegion [iOp (put 137) (.v false (oEv (sel 19))),
                   iOp (put 138) (.v false (oEv (sel 20))),
                   iOp (put 139) (.v false (oInt2 fGeq (sel 137) (sel 138))),
                   iOp (put 10) (.v false (oEv (sel 139)))])
                 (sSeq (sRegion [iOp (put 140) (.v false (oEv (sel 0))),
                    iOp (put 141) (.v false (oEv (sel 16))),
                    iOp (put 142) (.v false (oInt2 fAdd (sel 141) ⟨fun _ => .int .i64 1⟩)),
                    iOp (put 143) (.v false (oEv (sel 2))),
                    iOp (put 144) (.v false (oEv (sel 3))),
                    iOp (put 145) (.v false (oEv (sel 4))),
                    iOp (put 146) (.e (eCallF 40 [(sel 140), (sel 142), (sel 143), (sel 144), (sel 145)]))])
                  (sRegion [iOp (put 147) (.v false (oEv (sel 16))),
                    iOp (put 2) (.v false (oEv (sel 147)))])))))))))))))))))
/-- slices.pdqsortCmpFunc[bollard/join.number] -/
noncomputable def c40 : CF := ⟨148, [],
  sSeq (sRegion [iOp (put 10) (.v false (oEv ⟨fun _ => .bool true⟩))])
  (sSeq (sRegion [iOp (put 11) (.v false (oEv ⟨fun _ => .bool true⟩))])
   (sBlock 0 (sLoop c40_0)))⟩
theorem d40 : denF Try.prog 40 = some c40 := denF_of (by kernel_rfl)
/-- math/bits.Len -/
noncomputable def c41 : CF := ⟨8, [.tmp (sel 2)],
  sSeq (sRegion [iOp (put 2) (.v false (oEv ⟨fun _ => .int .i64 0⟩))])
  (sSeq (sCond ⟨fun _ => .bool false⟩
     (sSeq (sRegion [iOp (put 3) (.v false (oEv (sel 0))),
        iOp (put 4) (.v false (oConvInt .u32 (sel 3))),
        iOp (put 5) (.e (eCallF 51 [(sel 4)])),
        iOp (put 2) (.v false (oEv (sel 5)))])
      (sEx .ret))
     (sEx .normal))
   (sSeq (sRegion [iOp (put 6) (.v false (oEv (sel 0))),
      iOp (put 7) (.e (eCallF 52 [(sel 6)])),
      iOp (put 2) (.v false (oEv (sel 7)))])
    (sEx .ret)))⟩
theorem d41 : denF Try.prog 41 = some c41 := denF_of (by kernel_rfl)
noncomputable def c43_0 : Vm.Sem := sSeq (sSeq (sOne (sRegion [iOp (put 18) (.v false (oEv (sel 9))),
    iOp (put 19) (.v false (oEv (sel 1))),
    iOp (put 20) (.v false (oInt2 fGtr (sel 18) (sel 19))),
    iOp (put 21) (.v false (oEv (sel 20))),
    iGuard (sel 21) true (put 22) (iOp (put 22) (.v false (oEv (sel 3)))),
    iGuard (sel 21) true (put 23) (iOp (put 23) (.v false (oEv (sel 0)))),
    iGuard (sel 21) true (put 24) (iOp (put 24) (.v false (oEv (sel 9)))),
    iGuard (sel 21) true (put 25) (iOp (put 25) (.v false (oIndexAddrS 2 (sel 23) (sel 24)))),
    iGuard (sel 21) true (put 26) (iOp (put 26) (.v true (oLoadN 2 (sel 25)))),
    iGuard (sel 21) true (put 27) (iOp (put 27) (.v false (oEv (sel 0)))),
    iGuard (sel 21) true (put 28) (iOp (put 28) (.v false (oEv (sel 9)))),
    iGuard (sel 21) true (put 29) (iOp (put 29) (.v false (oInt2 fSub (sel 28) ⟨fun _ => .int .i64 1⟩))),
    iGuard (sel 21) true (put 30) (iOp (put 30) (.v false (oIndexAddrS 2 (sel 27) (sel 29)))),
    iGuard (sel 21) true (put 31) (iOp (put 31) (.v true (oLoadN 2 (sel 30)))),
    iGuard (sel 21) true (put 32) (iOp (put 32) (.e (eCall (sel 22) [(sel 26), (sel 31)]))),
    iGuard (sel 21) true (put 33) (iOp (put 33) (.v false (oInt2 fLss (sel 32) ⟨fun _ => .int .i64 0⟩))),
    iOp (put 34) (.v false (oPick (sel 21) (sel 33) ⟨fun _ => .bool false⟩))]))
  (sCond (sel 34)
    (sEx .normal)
    (sEx (.exit 2))))
 (sSeq (sBlock 3 (sRegion [iOp (put 37) (.v false (oEv (sel 0))),
     iOp (put 38) (.v false (oEv (sel 9))),
     iOp (put 39) (.v false (oEv (sel 0))),
     iOp (put 40) (.v false (oEv (sel 9))),
     iOp (put 41) (.v false (oInt2 fSub (sel 40) ⟨fun _ => .int .i64 1⟩)),
     iOp (put 42) (.v false (oEv (sel 0))),
     iOp (put 43) (.v false (oEv (sel 9))),
     iOp (put 44) (.v false (oInt2 fSub (sel 43) ⟨fun _ => .int .i64 1⟩)),
     iOp (put 45) (.v false (oIndexAddrS 2 (sel 42) (sel 44))),
     iOp (put 46) (.v true (oLoadN 2 (sel 45))),
     iOp (put 47) (.v false (oEv (sel 0))),
     iOp (put 48) (.v false (oEv (sel 9))),
     iOp (put 49) (.v false (oIndexAddrS 2 (sel 47) (sel 48))),
     iOp (put 50) (.v true (oLoadN 2 (sel 49))),
     iOp (put 51) (.v false (oIndexAddrS 2 (sel 37) (sel 38))),
     iOp ⟨fun _ a => a⟩ (.e (eStore 2 (sel 51) (sel 46))),
     iOp (put 52) (.v false (oIndexAddrS 2 (sel 39) (sel 41))),
     iOp ⟨fun _ a => a⟩ (.e (eStore 2 (sel 52) (sel 50)))]))
  (sRegion [iOp (put 35) (.v false (oEv (sel 9))),
    iOp (put 36) (.v false (oInt2 fSub (sel 35) ⟨fun _ => .int .i64 1⟩)),
    iOp (put 9) (.v false (oEv (sel 36)))]))
noncomputable def c43_1 : Vm.Sem := sSeq (sSeq (sRegion [iOp (put 12) (.v false (oEv (sel 8))),
    iOp (put 13) (.v false (oEv (sel 2))),
    iOp (put 14) (.v false (oInt2 fLss (sel 12) (sel 13)))])
  (sCond (sel 14)
    (sEx .normal)
    (sEx (.exit 0))))
 (sSeq (sBlock 1 (sSeq (sRegion [iOp (put 17) (.v false (oEv (sel 8))),
      iOp (put 9) (.v false (oEv (sel 17)))])
    (sBlock 2 (sLoop c43_0))))
  (sRegion [iOp (put 15) (.v false (oEv (sel 8))),
    iOp (put 16) (.v false (oInt2 fAdd (sel 15) ⟨fun _ => .int .i64 1⟩)),
    iOp (put 8) (.v false (oEv (sel 16)))]))
/-- slices.insertionSortCmpFunc[bollard/join.number] -/
noncomputable def c43 : CF := ⟨53, [],
  sSeq (sRegion [iOp (put 10) (.v false (oEv (sel 1))),
    iOp (put 11) (.v false (oInt2 fAdd (sel 10) ⟨fun _ => .int .i64 1⟩)),
    iOp (put 8) (.v false (oEv (sel 11)))])
  (sBlock 0 (sLoop c43_1))⟩
theorem d43 : denF Try.prog 43 = some c43 := denF_of (by kernel_rfl)
/-- math/bits.Len32 -/
noncomputable def c51 : CF := ⟨19, [.tmp (sel 2)],
  sSeq (sRegion [iOp (put 2) (.v false (oEv ⟨fun _ => .int .i64 0⟩))])
  (sSeq (sSeq (sRegion [iOp (put 3) (.v false (oEv (sel 0))),
      iOp (put 4) (.v false (oInt2 fGeq (sel 3) ⟨fun _ => .int .u32 65536⟩))])
    (sCond (sel 4)
      (sSeq (sRegion [iOp (put 5) (.v false (oEv (sel 0))),
         iOp (put 6) (.v false (oSh fShr (sel 5) ⟨fun _ => .int .u64 16⟩)),
         iOp (put 0) (.v false (oEv (sel 6)))])
       (sRegion [iOp (put 2) (.v false (oEv ⟨fun _ => .int .i64 16⟩))]))
      (sEx .normal)))
   (sSeq (sSeq (sRegion [iOp (put 7) (.v false (oEv (sel 0))),
       iOp (put 8) (.v false (oInt2 fGeq (sel 7) ⟨fun _ => .int .u32 256⟩))])
     (sCond (sel 8)
       (sSeq (sRegion [iOp (put 9) (.v false (oEv (sel 0))),
          iOp (put 10) (.v false (oSh fShr (sel 9) ⟨fun _ => .int .u64 8⟩)),
          iOp (put 0) (.v false (oEv (sel 10)))])
        (sRegion [iOp (put 11) (.v false (oEv (sel 2))),
          iOp (put 12) (.v false (oInt2 fAdd (sel 11) ⟨fun _ => .int .i64 8⟩)),
          iOp (put 2) (.v false (oEv (sel 12)))]))
       (sEx .normal)))
    (sSeq (sRegion [iOp (put 13) (.v false (oEv (sel 2))),
       iOp (put 14) (.v false (oEv (sel 0))),
       iOp (put 15) (.v false (oConvInt .u8 (sel 14))),
       iOp (put 16) (.v false (oIndexS ⟨fun _ => .string ⟨#[0, 1, 2, 2, 3, 3, 3, 3, 4, 4, 4, 4, 4, 4, 4, 4, 5, 5, 5, 5, 5, 5, 5, 5, 5, 5, 5, 5, 5, 5, 5, 5, 6, 6, 6, 6, 6, 6, 6, 6, 6, 6, 6, 6, 6, 6, 6, 6, 6, 6, 6, 6, 6, 6, 6, 6, 6, 6, 6, 6, 6, 6, 6, 6, 7, 7, 7, 7, 7, 7, 7, 7, 7, 7, 7, 7, 7, 7, 7, 7, 7, 7, 7, 7, 7, 7, 7, 7, 7, 7, 7, 7, 7, 7, 7, 7, 7, 7, 7, 7, 7, 7, 7, 7, 7, 7, 7, 7, 7, 7, 7, 7, 7, 7, 7, 7, 7, 7, 7, 7, 7, 7, 7, 7, 7, 7, 7, 7, 8, 8, 8, 8, 8, 8, 8, 8, 8, 8, 8, 8, 8, 8, 8, 8, 8, 8, 8, 8, 8, 8, 8, 8, 8, 8, 8, 8, 8, 8, 8, 8, 8, 8, 8, 8, 8, 8, 8, 8, 8, 8, 8, 8, 8, 8, 8, 8, 8, 8, 8, 8, 8, 8, 8, 8, 8, 8, 8, 8, 8, 8, 8, 8, 8, 8, 8, 8, 8, 8, 8, 8, 8, 8, 8, 8, 8, 8, 8, 8, 8, 8, 8, 8, 8, 8, 8, 8, 8, 8, 8, 8, 8, 8, 8, 8, 8, 8, 8, 8, 8, 8, 8, 8, 8, 8, 8, 8, 8, 8, 8, 8, 8, 8, 8, 8, 8, 8, 8, 8, 8, 8, 8, 8, 8, 8, 8, 8]⟩⟩ (sel 15))),
       iOp (put 17) (.v false (oConvInt .i64 (sel 16))),
       iOp (put 18) (.v false (oInt2 fAdd (sel 13) (sel 17))),
       iOp (put 2) (.v false (oEv (sel 18)))])
     (sEx .ret))))⟩
theorem d51 : denF Try.prog 51 = some c51 := denF_of (by kernel_rfl)
/-- math/bits.Len64 -/
noncomputable def c52 : CF := ⟨25, [.tmp (sel 2)],
  sSeq (sRegion [iOp (put 2) (.v false (oEv ⟨fun _ => .int .i64 0⟩))])
  (sSeq (sSeq (sRegion [iOp (put 3) (.v false (oEv (sel 0))),
      iOp (put 4) (.v false (oInt2 fGeq (sel 3) ⟨fun _ => .int .u64 4294967296⟩))])
    (sCond (sel 4)
      (sSeq (sRegion [iOp (put 5) (.v false (oEv (sel 0))),
         iOp (put 6) (.v false (oSh fShr (sel 5) ⟨fun _ => .int .u64 32⟩)),
         iOp (put 0) (.v false (oEv (sel 6)))])
       (sRegion [iOp (put 2) (.v false (oEv ⟨fun _ => .int .i64 32⟩))]))
      (sEx .normal)))
   (sSeq (sSeq (sRegion [iOp (put 7) (.v false (oEv (sel 0))),
       iOp (put 8) (.v false (oInt2 fGeq (sel 7) ⟨fun _ => .int .u64 65536⟩))])
     (sCond (sel 8)
       (sSeq (sRegion [iOp (put 9) (.v false (oEv (sel 0))),
          iOp (put 10) (.v false (oSh fShr (sel 9) ⟨fun _ => .int .u64 16⟩)),
          iOp (put 0) (.v false (oEv (sel 10)))])
        (sRegion [iOp (put 11) (.v false (oEv (sel 2))),
          iOp (put 12) (.v false (oInt2 fAdd (sel 11) ⟨fun _ => .int .i64 16⟩)),
          iOp (put 2) (.v false (oEv (sel 12)))]))
       (sEx .normal)))
    (sSeq (sSeq (sRegion [iOp (put 13) (.v false (oEv (sel 0))),
        iOp (put 14) (.v false (oInt2 fGeq (sel 13) ⟨fun _ => .int .u64 256⟩))])
      (sCond (sel 14)
        (sSeq (sRegion [iOp (put 15) (.v false (oEv (sel 0))),
           iOp (put 16) (.v false (oSh fShr (sel 15) ⟨fun _ => .int .u64 8⟩)),
           iOp (put 0) (.v false (oEv (sel 16)))])
         (sRegion [iOp (put 17) (.v false (oEv (sel 2))),
           iOp (put 18) (.v false (oInt2 fAdd (sel 17) ⟨fun _ => .int .i64 8⟩)),
           iOp (put 2) (.v false (oEv (sel 18)))]))
        (sEx .normal)))
     (sSeq (sRegion [iOp (put 19) (.v false (oEv (sel 2))),
        iOp (put 20) (.v false (oEv (sel 0))),
        iOp (put 21) (.v false (oConvInt .u8 (sel 20))),
        iOp (put 22) (.v false (oIndexS ⟨fun _ => .string ⟨#[0, 1, 2, 2, 3, 3, 3, 3, 4, 4, 4, 4, 4, 4, 4, 4, 5, 5, 5, 5, 5, 5, 5, 5, 5, 5, 5, 5, 5, 5, 5, 5, 6, 6, 6, 6, 6, 6, 6, 6, 6, 6, 6, 6, 6, 6, 6, 6, 6, 6, 6, 6, 6, 6, 6, 6, 6, 6, 6, 6, 6, 6, 6, 6, 7, 7, 7, 7, 7, 7, 7, 7, 7, 7, 7, 7, 7, 7, 7, 7, 7, 7, 7, 7, 7, 7, 7, 7, 7, 7, 7, 7, 7, 7, 7, 7, 7, 7, 7, 7, 7, 7, 7, 7, 7, 7, 7, 7, 7, 7, 7, 7, 7, 7, 7, 7, 7, 7, 7, 7, 7, 7, 7, 7, 7, 7, 7, 7, 8, 8, 8, 8, 8, 8, 8, 8, 8, 8, 8, 8, 8, 8, 8, 8, 8, 8, 8, 8, 8, 8, 8, 8, 8, 8, 8, 8, 8, 8, 8, 8, 8, 8, 8, 8, 8, 8, 8, 8, 8, 8, 8, 8, 8, 8, 8, 8, 8, 8, 8, 8, 8, 8, 8, 8, 8, 8, 8, 8, 8, 8, 8, 8, 8, 8, 8, 8, 8, 8, 8, 8, 8, 8, 8, 8, 8, 8, 8, 8, 8, 8, 8, 8, 8, 8, 8, 8, 8, 8, 8, 8, 8, 8, 8, 8, 8, 8, 8, 8, 8, 8, 8, 8, 8, 8, 8, 8, 8, 8, 8, 8, 8, 8, 8, 8, 8, 8, 8, 8, 8, 8, 8, 8, 8, 8, 8, 8]⟩⟩ (sel 21))),
        iOp (put 23) (.v false (oConvInt .i64 (sel 22))),
        iOp (put 24) (.v false (oInt2 fAdd (sel 19) (sel 23))),
        iOp (put 2) (.v false (oEv (sel 24)))])
      (sEx .ret)))))⟩
theorem d52 : denF Try.prog 52 = some c52 := denF_of (by kernel_rfl)
end Go.Proofs.Ytnffglfpjcbfaaa

