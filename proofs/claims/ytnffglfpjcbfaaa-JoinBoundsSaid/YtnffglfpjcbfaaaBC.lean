/- Part of a proof by an abstract run of the program's code: BC. No condition. -/
import Derived.Test.YtnffglfpjcbfaaaChecked
import Derived.Test.YtnffglfpjcbfaaaVmD
namespace Go.Proofs.Ytnffglfpjcbfaaa
open Go Vm
noncomputable def c6_0 : Vm.Sem := sSeq (sSeq (sRegion [iOp (put 32) (.v false (oEv (sel 11))),
    iOp (put 33) (.v false (oEv (sel 10))),
    iOp (put 34) (.v false (oLenS (sel 33))),
    iOp (put 35) (.v false (oInt2 fLss (sel 32) (sel 34)))])
  (sCond (sel 35)
    (sEx .normal)
    (sEx (.exit 3))))
 (sSeq (sBlock 4 (sRegion [iOp (put 38) (.v false (oEv (sel 8))),
     iOp (put 39) (.v false (oEv (sel 10))),
     iOp (put 40) (.v false (oEv (sel 11))),
     iOp (put 41) (.v false (oIndexAddrS 4 (sel 39) (sel 40))),
     iOp (put 42) (.v false (oFieldAddr 3 (sel 41))),
     iOp (put 43) (.v true (oLoad1 (sel 42))),
     iOp (put 44) (.v false (oLenS (sel 43))),
     iOp (put 45) (.v false (oInt2 fAdd (sel 38) (sel 44))),
     iOp (put 8) (.v false (oEv (sel 45)))]))
  (sRegion [iOp (put 36) (.v false (oEv (sel 11))),
    iOp (put 37) (.v false (oInt2 fAdd (sel 36) ⟨fun _ => .int .i64 1⟩)),
    iOp (put 11) (.v false (oEv (sel 37)))]))
noncomputable def c6_1 : Vm.Sem := sSeq (sSeq (sRegion [iOp (put 19) (.v false (oEv (sel 9))),
    iOp (put 20) (.v false (oEv (sel 1))),
    iOp (put 21) (.v false (oLenS (sel 20))),
    iOp (put 22) (.v false (oInt2 fLss (sel 19) (sel 21)))])
  (sCond (sel 22)
    (sEx .normal)
    (sEx (.exit 0))))
 (sSeq (sBlock 1 (sSeq (sSeq (sRegion [iOp (put 25) (.v false (oEv (sel 1))),
       iOp (put 26) (.v false (oEv (sel 9))),
       iOp (put 27) (.v false (oIndexAddrS 15 (sel 25) (sel 26))),
       iOp (put 28) (.v false (oFieldAddr 0 (sel 27))),
       iOp (put 29) (.v true (oLoad1 (sel 28)))])
     (sBlock 2 (sSeq (sRegion [iOp (put 47) (.v false (oEq (.one 1) (sel 29) ⟨fun _ => .int .i64 0⟩)),
         iOp (put 46) (.v false (oEv (sel 47)))])
       (sCond (sel 46)
         (sSeq (sRegion [iOp (put 48) (.v false (oEv (sel 6))),
            iOp (put 49) (.v false (oEv (sel 1))),
            iOp (put 50) (.v false (oEv (sel 9))),
            iOp (put 51) (.v false (oIndexAddrS 15 (sel 49) (sel 50))),
            iOp (put 52) (.v false (oFieldAddr 1 (sel 51))),
            iOp (put 53) (.v true (oLoadN 12 (sel 52))),
            iOp (put 54) (.e (eCallF 11 [(sel 48), (sel 53)])),
            iOp (put 55) (.v false (oEq (.one 1) (sel 54) ⟨fun _ => .int .i64 0⟩))])
          (sCond (sel 55)
            (sRegion [iOp (put 56) (.v false (oEv (sel 7))),
              iOp (put 57) (.v false (oEv (sel 1))),
              iOp (put 58) (.v false (oEv (sel 9))),
              iOp (put 59) (.v false (oIndexAddrS 15 (sel 57) (sel 58))),
              iOp (put 60) (.v false (oFieldAddr 1 (sel 59))),
              iOp (put 61) (.v false (oFieldAddr 11 (sel 60))),
              iOp (put 62) (.v true (oLoad1 (sel 61))),
              iOp (put 63) (.v false (oLenS (sel 62))),
              iOp (put 64) (.v false (oInt2 fAdd (sel 56) (sel 63))),
              iOp (put 7) (.v false (oEv (sel 64)))])
            (sEx .normal)))
         (sSeq (sRegion [iOp (put 66) (.v false (oEq (.one 1) (sel 29) ⟨fun _ => .int .i64 1⟩)),
            iOp (put 65) (.v false (oEv (sel 66)))])
          (sCond (sel 65)
            (sSeq (sSeq (sRegion [iOp (put 67) (.v false (oEv (sel 1))),
                iOp (put 68) (.v false (oEv (sel 9))),
                iOp (put 69) (.v false (oIndexAddrS 15 (sel 67) (sel 68))),
                iOp (put 70) (.v false (oFieldAddr 14 (sel 69))),
                iOp (put 71) (.v true (oLoad1 (sel 70))),
                iOp (put 72) (.v false (oLenS (sel 71))),
                iOp (put 73) (.v false (oInt2 fGtr (sel 72) ⟨fun _ => .int .i64 20⟩))])
              (sCond (sel 73)
                (sSeq (sRegion [iOp (put 74) (.v false (oEv (sel 5))),
                   iOp (put 4) (.v false (oEv (sel 74)))])
                 (sEx .ret))
                (sEx .normal)))
             (sSeq (sRegion [iOp (put 75) (.v false (oEv (sel 6))),
               iOp (put 76) (.v false (oEv (sel 1))),
               iOp (put 77) (.v false (oEv (sel 9))),
               iOp (put 78) (.v false (oIndexAddrS 15 (sel 76) (sel 77))),
               iOp (put 79) (.v false (oFieldAddr 13 (sel 78))),
               iOp (put 80) (.v true (oLoad1 (sel 79))),
               iOp (put 81) (.v false (oEv (sel 1))),
               iOp (put 82) (.v false (oEv (sel 9))),
               iOp (put 83) (.v false (oIndexAddrS 15 (sel 81) (sel 82))),
               iOp (put 84) (.v false (oFieldAddr 14 (sel 83))),
               iOp (put 85) (.v true (oLoad1 (sel 84)))])
              (sRegion [iOp (put 86) (.e (eCallF 16 [(sel 75), (sel 80), (sel 85)]))])))
            (sSeq (sRegion [iOp (put 88) (.v false (oEq (.one 1) (sel 29) ⟨fun _ => .int .i64 2⟩)),
               iOp (put 87) (.v false (oEv (sel 88)))])
             (sCond (sel 87)
               (sRegion [iOp (put 89) (.v false (oEv (sel 6))),
                 iOp (put 90) (.v false (oEv (sel 1))),
                 iOp (put 91) (.v false (oEv (sel 9))),
                 iOp (put 92) (.v false (oIndexAddrS 15 (sel 90) (sel 91))),
                 iOp (put 93) (.v false (oFieldAddr 13 (sel 92))),
                 iOp (put 94) (.v true (oLoad1 (sel 93))),
                 iOp (put 95) (.v false (oConvInt .u16 (sel 94))),
                 iOp (put 96) (.e (eCallF 18 [(sel 89), (sel 95)]))])
               (sSeq (sRegion [iOp (put 30) (.v false (oEv (sel 6))),
                  iOp (put 31) (.e (eCallF 12 [(sel 30)])),
                  iOp (put 10) (.v false (oEv (sel 31)))])
                (sSeq (sRegion [iOp (put 11) (.v false (oEv ⟨fun _ => .int .i64 0⟩))])
                 (sBlock 3 (sLoop c6_0))))))))))))
    (sSeq (sRegion [iOp (put 97) (.v false (oEv (sel 6))),
       iOp (put 98) (.e (eCallF 17 [(sel 97)])),
       iOp (put 99) (.v false (oInt2 fLss (sel 98) ⟨fun _ => .int .i64 0⟩)),
       iOp (put 100) (.v false (oEv (sel 99))),
       iGuard (sel 100) false (put 101) (iOp (put 101) (.v false (oEv (sel 6)))),
       iGuard (sel 100) false (put 102) (iOp (put 102) (.e (eCallF 17 [(sel 101)]))),
       iGuard (sel 100) false (put 103) (iOp (put 103) (.v false (oInt2 fGtr (sel 102) ⟨fun _ => .int .i64 65536⟩))),
       iOp (put 104) (.v false (oPick (sel 100) ⟨fun _ => .bool true⟩ (sel 103))),
       iOp (put 105) (.v false (oEv (sel 104))),
       iGuard (sel 105) false (put 106) (iOp (put 106) (.v false (oEv (sel 8)))),
       iGuard (sel 105) false (put 107) (iOp (put 107) (.v false (oEv (sel 6)))),
       iGuard (sel 105) false (put 108) (iOp (put 108) (.e (eCallF 17 [(sel 107)]))),
       iGuard (sel 105) false (put 109) (iOp (put 109) (.v false (oInt2 fAdd (sel 106) (sel 108)))),
       iGuard (sel 105) false (put 110) (iOp (put 110) (.v false (oEv (sel 7)))),
       iGuard (sel 105) false (put 111) (iOp (put 111) (.v false (oInt2 fGtr (sel 109) (sel 110)))),
       iOp (put 112) (.v false (oPick (sel 105) ⟨fun _ => .bool true⟩ (sel 111)))])
     (sCond (sel 112)
       (sSeq (sRegion [iOp (put 4) (.v false (oEv ⟨fun _ => .bool false⟩))])
        (sEx .ret))
       (sEx .normal)))))
  (sRegion [iOp (put 23) (.v false (oEv (sel 9))),
    iOp (put 24) (.v false (oInt2 fAdd (sel 23) ⟨fun _ => .int .i64 1⟩)),
    iOp (put 9) (.v false (oEv (sel 24)))]))
/-- bollard/bollardlaw14.JoinBounds -/
noncomputable def c6 : CF := ⟨114, [.tmp (sel 4)],
  sSeq (sRegion [iOp (put 4) (.v false (oEv ⟨fun _ => .bool false⟩))])
  (sSeq (sRegion [iOp (put 12) (.e (eCallF 8 [])),
     iOp (put 5) (.v false (oEv (sel 12)))])
   (sSeq (sSeq (sRegion [iOp (put 13) (.v false (oEv (sel 1))),
       iOp (put 14) (.v false (oLenS (sel 13))),
       iOp (put 15) (.v false (oInt2 fGtr (sel 14) ⟨fun _ => .int .i64 200⟩))])
     (sCond (sel 15)
       (sSeq (sRegion [iOp (put 16) (.v false (oEv (sel 5))),
          iOp (put 4) (.v false (oEv (sel 16)))])
        (sEx .ret))
       (sEx .normal)))
    (sSeq (sRegion [iOp (put 17) (.v false (oEv (sel 0))),
       iOp (put 18) (.e (eCallF 10 [(sel 17)])),
       iOp (put 6) (.v false (oEv (sel 18)))])
     (sSeq (sRegion [iOp (put 7) (.v false (oEv ⟨fun _ => .int .i64 0⟩))])
      (sSeq (sRegion [iOp (put 8) (.v false (oEv ⟨fun _ => .int .i64 0⟩))])
       (sSeq (sSeq (sRegion [iOp (put 9) (.v false (oEv ⟨fun _ => .int .i64 0⟩))])
         (sBlock 0 (sLoop c6_1)))
        (sSeq (sRegion [iOp (put 113) (.v false (oEv (sel 5))),
           iOp (put 4) (.v false (oEv (sel 113)))])
         (sEx .ret))))))))⟩
theorem d6 : denF Try.prog 6 = some c6 := denF_of (by kernel_rfl)
/-- bollard/join.New -/
noncomputable def c10 : CF := ⟨15, [.tmp (sel 2)],
  sSeq (sRegion [iOp (put 2) (.v false (oEv ⟨fun _ => .pointer none⟩))])
  (sSeq (sSeq (sRegion [iOp (put 3) (.v false (oEv (sel 0))),
      iOp (put 4) (.v false (oInt2 fLss (sel 3) ⟨fun _ => .int .i64 1⟩)),
      iOp (put 5) (.v false (oEv (sel 4))),
      iGuard (sel 5) false (put 6) (iOp (put 6) (.v false (oEv (sel 0)))),
      iGuard (sel 5) false (put 7) (iOp (put 7) (.v false (oInt2 fGtr (sel 6) ⟨fun _ => .int .i64 64⟩))),
      iOp (put 8) (.v false (oPick (sel 5) ⟨fun _ => .bool true⟩ (sel 7)))])
    (sCond (sel 8)
      (sRegion [iOp (put 0) (.v false (oEv ⟨fun _ => .int .i64 64⟩))])
      (sEx .normal)))
   (sSeq (sRegion [iOp (put 9) (.v false (oEv (sel 0))),
      iOp (put 10) (.a (aMakeSlice 27 2 [.int .u16 0] (sel 9) (sel 9))),
      iOp (put 11) (.a aMakeMap),
      iOp (put 12) (.a aMakeMap),
      iOp (put 13) (.v false (oBuild [.slice none 0 0, .map none, .map none, .slice none 0 0, .int .i64 0] [(0, 1, (sel 10)), (1, 1, (sel 11)), (2, 1, (sel 12))])),
      iOp (put 14) (.a (aBox 64 (sel 13))),
      iOp (put 2) (.v false (oEv (sel 14)))])
    (sEx .ret)))⟩
theorem d10 : denF Try.prog 10 = some c10 := denF_of (by kernel_rfl)
noncomputable def c11_0 : Vm.Sem := sSeq (sRegion [iOp (put 83) (.v false (oInt2 fLss (sel 82) (sel 81)))])
 (sSeq (sCond (sel 83)
    (sEx .normal)
    (sEx (.exit 1)))
  (sSeq (sBlock 2 (sSeq (sRegion [iOp (put 84) (.v false (oIndexAddrS 12 (sel 80) (sel 82))),
       iOp (put 85) (.v true (oLoadN 12 (sel 84))),
       iOp (put 9) (.a (aAlloc 42 [.int .u8 0, .int .u8 0, .int .u32 0, .int .u32 0, .int .u16 0, .int .u16 0, .int .u32 0, .slice none 0 0, .slice none 0 0, .slice none 0 0, .slice none 0 0, .slice none 0 0])),
       iOp ⟨fun _ a => a⟩ (.e (eStore 12 (sel 9) (sel 85)))])
     (sRegion [iOp (put 86) (.v false (oEv (sel 0))),
       iOp (put 87) (.v false (oNilCheck (sel 86))),
       iOp (put 88) (.v false (oFieldAddr 1 (sel 87))),
       iOp (put 89) (.v true (oLoad1 (sel 88))),
       iOp (put 90) (.v false (oFieldAddr 2 (sel 9))),
       iOp (put 91) (.v true (oLoad1 (sel 90))),
       iOp ⟨fun _ a => a⟩ (.e (eDelete (.one 1) (sel 89) (sel 91)))])))
   (sRegion [iOp (put 92) (.v false (oInt2 fAdd (sel 82) ⟨fun _ => .int .i64 1⟩)),
     iOp (put 82) (.v false (oEv (sel 92)))])))
/-- (*bollard/join.Join).Add -/
noncomputable def c11 : CF := ⟨105, [.tmp (sel 4)],
  sSeq (sRegion [iOp (put 3) (.a (aBox 42 (sel 1))),
    iOp (put 4) (.v false (oEv ⟨fun _ => .int .i64 0⟩))])
  (sSeq (sSeq (sRegion [iOp (put 12) (.v false (oEv (sel 0))),
      iOp (put 13) (.v false (oEq (.one 3) (sel 12) ⟨fun _ => .pointer none⟩)),
      iOp (put 14) (.v false (oEv (sel 13))),
      iGuard (sel 14) false (put 15) (iOp (put 15) (.v false (oFieldAddr 0 (sel 3)))),
      iGuard (sel 14) false (put 16) (iOp (put 16) (.v true (oLoad1 (sel 15)))),
      iGuard (sel 14) false (put 17) (iOp (put 17) (.v false (oNe (.one 1) (sel 16) ⟨fun _ => .int .u8 0⟩))),
      iOp (put 18) (.v false (oPick (sel 14) ⟨fun _ => .bool true⟩ (sel 17))),
      iOp (put 19) (.v false (oEv (sel 18))),
      iGuard (sel 19) false (put 20) (iOp (put 20) (.v false (oFieldAddr 11 (sel 3)))),
      iGuard (sel 19) false (put 21) (iOp (put 21) (.v true (oLoad1 (sel 20)))),
      iGuard (sel 19) false (put 22) (iOp (put 22) (.v false (oLenS (sel 21)))),
      iGuard (sel 19) false (put 23) (iOp (put 23) (.v false (oEq (.one 1) (sel 22) ⟨fun _ => .int .i64 0⟩))),
      iOp (put 24) (.v false (oPick (sel 19) ⟨fun _ => .bool true⟩ (sel 23)))])
    (sCond (sel 24)
      (sSeq (sRegion [iOp (put 4) (.v false (oEv ⟨fun _ => .int .i64 1⟩))])
       (sEx .ret))
      (sEx .normal)))
   (sSeq (sRegion [iOp (put 26) (.v false (oEv (sel 0))),
      iOp (put 27) (.v false (oNilCheck (sel 26))),
      iOp (put 28) (.v false (oFieldAddr 1 (sel 27))),
      iOp (put 29) (.v true (oLoad1 (sel 28))),
      iOp (put 30) (.v false (oFieldAddr 2 (sel 3))),
      iOp (put 31) (.v true (oLoad1 (sel 30))),
      iOp (put 32) (.v true (oLookup (.one 1) (.agg #[.int .u8 0, .int .u8 0, .int .u32 0, .int .u32 0, .int .u16 0, .int .u16 0, .int .u32 0, .slice none 0 0, .slice none 0 0, .slice none 0 0, .slice none 0 0, .slice none 0 0]) true (sel 29) (sel 31))),
      iOp (put 25) (.v false (oEv (sel 32))),
      iOp (put 33) (.v false (oExtract (sel 25) 0)),
      iOp (put 34) (.v false (oExtract (sel 25) 1)),
      iOp (put 5) (.a (aAlloc 42 [.int .u8 0, .int .u8 0, .int .u32 0, .int .u32 0, .int .u16 0, .int .u16 0, .int .u32 0, .slice none 0 0, .slice none 0 0, .slice none 0 0, .slice none 0 0, .slice none 0 0])),
      iOp ⟨fun _ a => a⟩ (.e (eStore 12 (sel 5) (sel 33))),
      iOp (put 6) (.v false (oEv (sel 34)))])
    (sSeq (sBlock 0 (sSeq (sRegion [iOp (put 36) (.v false (oEv (sel 0))),
         iOp (put 37) (.v false (oFieldAddr 4 (sel 3))),
         iOp (put 38) (.v true (oLoad1 (sel 37))),
         iOp (put 39) (.e (eCallF 19 [(sel 36), (sel 38)])),
         iOp (put 40) (.v false (oNot (sel 39))),
         iOp (put 35) (.v false (oEv (sel 40)))])
       (sCond (sel 35)
         (sSeq (sRegion [iOp (put 4) (.v false (oEv ⟨fun _ => .int .i64 12⟩))])
          (sEx .ret))
         (sSeq (sRegion [iOp (put 42) (.v false (oEv (sel 6))),
            iOp (put 41) (.v false (oEv (sel 42)))])
          (sCond (sel 41)
            (sSeq (sRegion [iOp (put 4) (.v false (oEv ⟨fun _ => .int .i64 8⟩))])
             (sEx .ret))
            (sSeq (sRegion [iOp (put 44) (.v false (oEv (sel 0))),
               iOp (put 45) (.v false (oNilCheck (sel 44))),
               iOp (put 46) (.v false (oFieldAddr 4 (sel 45))),
               iOp (put 47) (.v true (oLoad1 (sel 46))),
               iOp (put 48) (.v false (oFieldAddr 11 (sel 3))),
               iOp (put 49) (.v true (oLoad1 (sel 48))),
               iOp (put 50) (.v false (oLenS (sel 49))),
               iOp (put 51) (.v false (oInt2 fAdd (sel 47) (sel 50))),
               iOp (put 52) (.v false (oInt2 fGtr (sel 51) ⟨fun _ => .int .i64 65536⟩)),
               iOp (put 43) (.v false (oEv (sel 52)))])
             (sCond (sel 43)
               (sSeq (sRegion [iOp (put 4) (.v false (oEv ⟨fun _ => .int .i64 9⟩))])
                (sEx .ret))
               (sEx .normal))))))))
     (sSeq (sRegion [iOp (put 53) (.v false (oFieldAddr 11 (sel 3))),
        iOp (put 54) (.v true (oLoad1 (sel 53))),
        iOp (put 55) (.e (eCallF 20 [(sel 54)])),
        iOp (put 56) (.v false (oFieldAddr 11 (sel 3))),
        iOp ⟨fun _ a => a⟩ (.e (eStore 1 (sel 56) (sel 55)))])
      (sSeq (sRegion [iOp (put 57) (.v false (oEv (sel 0))),
         iOp (put 58) (.v false (oNilCheck (sel 57))),
         iOp (put 59) (.v false (oFieldAddr 1 (sel 58))),
         iOp (put 60) (.v true (oLoad1 (sel 59))),
         iOp (put 61) (.v false (oFieldAddr 2 (sel 3))),
         iOp (put 62) (.v true (oLoad1 (sel 61))),
         iOp (put 63) (.v true (oLoadN 12 (sel 3))),
         iOp ⟨fun _ a => a⟩ (.e (eMapUpdate (.one 1) (sel 60) (sel 62) (sel 63)))])
       (sSeq (sRegion [iOp (put 64) (.v false (oEv (sel 0))),
          iOp (put 65) (.v false (oNilCheck (sel 64))),
          iOp (put 66) (.v false (oFieldAddr 4 (sel 65))),
          iOp (put 67) (.v true (oLoad1 (sel 66))),
          iOp (put 68) (.v false (oFieldAddr 11 (sel 3))),
          iOp (put 69) (.v true (oLoad1 (sel 68))),
          iOp (put 70) (.v false (oLenS (sel 69))),
          iOp (put 71) (.v false (oInt2 fAdd (sel 67) (sel 70))),
          iOp (put 72) (.v false (oNilCheck (sel 64))),
          iOp (put 73) (.v false (oFieldAddr 4 (sel 72))),
          iOp ⟨fun _ a => a⟩ (.e (eStore 1 (sel 73) (sel 71)))])
        (sSeq (sSeq (sRegion [iOp (put 74) (.v false (oEv (sel 0))),
            iOp (put 75) (.v true (oLoadN 12 (sel 3))),
            iOp (put 76) (.e (eCallF 21 [(sel 74), (sel 75)])),
            iOp (put 7) (.v false (oEv (sel 76)))])
          (sSeq (sRegion [iOp (put 77) (.v false (oEv (sel 7))),
             iOp (put 78) (.v false (oLenS (sel 77))),
             iOp (put 79) (.v false (oInt2 fGtr (sel 78) ⟨fun _ => .int .i64 0⟩))])
           (sCond (sel 79)
             (sSeq (sSeq (sRegion [iOp (put 80) (.v false (oEv (sel 7))),
                 iOp (put 81) (.v false (oLenS (sel 80))),
                 iOp (put 82) (.v false (oEv ⟨fun _ => .int .i64 0⟩))])
               (sBlock 1 (sLoop c11_0)))
              (sSeq (sRegion [iOp (put 94) (.v false (oEv (sel 7))),
                 iOp (put 95) (.e (eCallF 22 [(sel 94)])),
                 iOp (put 93) (.v false (oEv (sel 95))),
                 iOp (put 96) (.v false (oExtract (sel 93) 0)),
                 iOp (put 97) (.v false (oExtract (sel 93) 1)),
                 iOp (put 10) (.a (aAlloc 30 [.int .u16 0, .bool false, .int .u32 0, .slice none 0 0])),
                 iOp ⟨fun _ a => a⟩ (.e (eStore 4 (sel 10) (sel 96))),
                 iOp (put 11) (.v false (oEv (sel 97)))])
               (sOne (sRegion [iOp (put 98) (.v false (oEv (sel 0))),
                 iOp (put 99) (.v true (oLoadN 4 (sel 10))),
                 iOp (put 100) (.v false (oEv (sel 7))),
                 iOp (put 101) (.v false (oIndexAddrS 12 (sel 100) ⟨fun _ => .int .i64 0⟩)),
                 iOp (put 102) (.v false (oFieldAddr 5 (sel 101))),
                 iOp (put 103) (.v true (oLoad1 (sel 102))),
                 iOp (put 104) (.e (eCallF 23 [(sel 98), (sel 99), (sel 103)]))]))))
             (sEx .normal))))
         (sSeq (sRegion [iOp (put 4) (.v false (oEv ⟨fun _ => .int .i64 0⟩))])
          (sEx .ret)))))))))⟩
theorem d11 : denF Try.prog 11 = some c11 := denF_of (by kernel_rfl)
noncomputable def c12_0 : Vm.Sem := sSeq (sRegion [iOp (put 15) (.v false (oInt2 fLss (sel 14) (sel 13)))])
 (sSeq (sCond (sel 15)
    (sEx .normal)
    (sEx (.exit 0)))
  (sSeq (sBlock 1 (sSeq (sRegion [iOp (put 16) (.v false (oIndexAddrS 4 (sel 12) (sel 14))),
       iOp (put 17) (.v true (oLoadN 4 (sel 16))),
       iOp (put 5) (.a (aAlloc 30 [.int .u16 0, .bool false, .int .u32 0, .slice none 0 0])),
       iOp ⟨fun _ a => a⟩ (.e (eStore 4 (sel 5) (sel 17)))])
     (sRegion [iOp (put 18) (.v false (oEv (sel 0))),
       iOp (put 19) (.v false (oNilCheck (sel 18))),
       iOp (put 20) (.v false (oFieldAddr 4 (sel 19))),
       iOp (put 21) (.v true (oLoad1 (sel 20))),
       iOp (put 22) (.v false (oFieldAddr 3 (sel 5))),
       iOp (put 23) (.v true (oLoad1 (sel 22))),
       iOp (put 24) (.v false (oLenS (sel 23))),
       iOp (put 25) (.v false (oInt2 fSub (sel 21) (sel 24))),
       iOp (put 26) (.v false (oNilCheck (sel 18))),
       iOp (put 27) (.v false (oFieldAddr 4 (sel 26))),
       iOp ⟨fun _ a => a⟩ (.e (eStore 1 (sel 27) (sel 25)))])))
   (sRegion [iOp (put 28) (.v false (oInt2 fAdd (sel 14) ⟨fun _ => .int .i64 1⟩)),
     iOp (put 14) (.v false (oEv (sel 28)))])))
/-- (*bollard/join.Join).Take -/
noncomputable def c12 : CF := ⟨33, [.tmp (sel 2)],
  sSeq (sRegion [iOp (put 2) (.v false (oEv ⟨fun _ => .slice none 0 0⟩))])
  (sSeq (sSeq (sRegion [iOp (put 6) (.v false (oEv (sel 0))),
      iOp (put 7) (.v false (oEq (.one 3) (sel 6) ⟨fun _ => .pointer none⟩))])
    (sCond (sel 7)
      (sSeq (sRegion [iOp (put 2) (.v false (oEv ⟨fun _ => .slice none 0 0⟩))])
       (sEx .ret))
      (sEx .normal)))
   (sSeq (sRegion [iOp (put 8) (.v false (oEv (sel 0))),
      iOp (put 9) (.v false (oNilCheck (sel 8))),
      iOp (put 10) (.v false (oFieldAddr 3 (sel 9))),
      iOp (put 11) (.v true (oLoad1 (sel 10))),
      iOp (put 3) (.v false (oEv (sel 11)))])
    (sSeq (sSeq (sRegion [iOp (put 12) (.v false (oEv (sel 3))),
        iOp (put 13) (.v false (oLenS (sel 12))),
        iOp (put 14) (.v false (oEv ⟨fun _ => .int .i64 0⟩))])
      (sBlock 0 (sLoop c12_0)))
     (sSeq (sRegion [iOp (put 29) (.v false (oEv (sel 0))),
        iOp (put 30) (.v false (oNilCheck (sel 29))),
        iOp (put 31) (.v false (oFieldAddr 3 (sel 30))),
        iOp ⟨fun _ a => a⟩ (.e (eStore 1 (sel 31) ⟨fun _ => .slice none 0 0⟩))])
      (sSeq (sRegion [iOp (put 32) (.v false (oEv (sel 3))),
         iOp (put 2) (.v false (oEv (sel 32)))])
       (sEx .ret))))))⟩
theorem d12 : denF Try.prog 12 = some c12 := denF_of (by kernel_rfl)
noncomputable def c16_0 : Vm.Sem := sSeq (sRegion [iOp (put 19) (.v false (oInt2 fLss (sel 18) (sel 17)))])
 (sSeq (sCond (sel 19)
    (sEx .normal)
    (sEx (.exit 0)))
  (sSeq (sBlock 1 (sSeq (sRegion [iOp (put 20) (.v false (oIndexAddrS 2 (sel 16) (sel 18))),
       iOp (put 21) (.v true (oLoadN 2 (sel 20))),
       iOp (put 7) (.a (aAlloc 51 [.int .u16 0, .int .u16 0])),
       iOp ⟨fun _ a => a⟩ (.e (eStore 2 (sel 7) (sel 21)))])
     (sRegion [iOp (put 22) (.v true (oLoad1 (sel 3))),
       iOp (put 23) (.v true (oLoadN 2 (sel 7))),
       iOp (put 24) (.e (eCallF 27 [(sel 22), (sel 23)]))])))
   (sRegion [iOp (put 25) (.v false (oInt2 fAdd (sel 18) ⟨fun _ => .int .i64 1⟩)),
     iOp (put 18) (.v false (oEv (sel 25)))])))
/-- (*bollard/join.Join).Forward -/
noncomputable def c16 : CF := ⟨26, [],
  sSeq (sRegion [iOp (put 3) (.a (aBox 34 (sel 0))),
    iOp (put 4) (.a (aBox 22 (sel 1)))])
  (sSeq (sSeq (sRegion [iOp (put 8) (.v true (oLoad1 (sel 3))),
      iOp (put 9) (.v false (oEq (.one 3) (sel 8) ⟨fun _ => .pointer none⟩))])
    (sCond (sel 9)
      (sEx .ret)
      (sEx .normal)))
   (sSeq (sRegion [iOp (put 10) (.v true (oLoad1 (sel 3))),
      iOp (put 11) (.v false (oNilCheck (sel 10))),
      iOp (put 12) (.v false (oFieldAddr 1 (sel 11))),
      iOp (put 13) (.v true (oLoad1 (sel 12))),
      iOp (put 14) (.v false (oFunc (.func 25) [] [(sel 4), (sel 3)])),
      iOp (put 15) (.e (eCallF 24 [(sel 13), (sel 14)]))])
    (sSeq (sRegion [iOp (put 16) (.v false (oEv (sel 2))),
       iOp (put 17) (.v false (oLenS (sel 16))),
       iOp (put 18) (.v false (oEv ⟨fun _ => .int .i64 0⟩))])
     (sBlock 0 (sLoop c16_0)))))⟩
theorem d16 : denF Try.prog 16 = some c16 := denF_of (by kernel_rfl)
/-- (*bollard/join.Join).Held -/
noncomputable def c17 : CF := ⟨9, [.tmp (sel 2)],
  sSeq (sRegion [iOp (put 2) (.v false (oEv ⟨fun _ => .int .i64 0⟩))])
  (sSeq (sSeq (sRegion [iOp (put 3) (.v false (oEv (sel 0))),
      iOp (put 4) (.v false (oEq (.one 3) (sel 3) ⟨fun _ => .pointer none⟩))])
    (sCond (sel 4)
      (sSeq (sRegion [iOp (put 2) (.v false (oEv ⟨fun _ => .int .i64 0⟩))])
       (sEx .ret))
      (sEx .normal)))
   (sSeq (sRegion [iOp (put 5) (.v false (oEv (sel 0))),
      iOp (put 6) (.v false (oNilCheck (sel 5))),
      iOp (put 7) (.v false (oFieldAddr 4 (sel 6))),
      iOp (put 8) (.v true (oLoad1 (sel 7))),
      iOp (put 2) (.v false (oEv (sel 8)))])
    (sEx .ret)))⟩
theorem d17 : denF Try.prog 17 = some c17 := denF_of (by kernel_rfl)
/-- (*bollard/join.Join).Reset -/
noncomputable def c18 : CF := ⟨20, [],
  sSeq (sRegion [iOp (put 2) (.a (aBox 34 (sel 0))),
    iOp (put 3) (.a (aBox 27 (sel 1)))])
  (sSeq (sSeq (sRegion [iOp (put 4) (.v true (oLoad1 (sel 2))),
      iOp (put 5) (.v true (oLoad1 (sel 3))),
      iOp (put 6) (.e (eCallF 19 [(sel 4), (sel 5)])),
      iOp (put 7) (.v false (oNot (sel 6)))])
    (sCond (sel 7)
      (sEx .ret)
      (sEx .normal)))
   (sSeq (sRegion [iOp (put 8) (.v true (oLoad1 (sel 2))),
      iOp (put 9) (.v false (oNilCheck (sel 8))),
      iOp (put 10) (.v false (oFieldAddr 2 (sel 9))),
      iOp (put 11) (.v true (oLoad1 (sel 10))),
      iOp (put 12) (.v false (oFunc (.func 29) [] [(sel 3), (sel 2)])),
      iOp (put 13) (.e (eCallF 28 [(sel 11), (sel 12)]))])
    (sRegion [iOp (put 14) (.v true (oLoad1 (sel 2))),
      iOp (put 15) (.v false (oNilCheck (sel 14))),
      iOp (put 16) (.v false (oFieldAddr 0 (sel 15))),
      iOp (put 17) (.v true (oLoad1 (sel 16))),
      iOp (put 18) (.v true (oLoad1 (sel 3))),
      iOp (put 19) (.v false (oIndexAddrS 1 (sel 17) (sel 18))),
      iOp ⟨fun _ a => a⟩ (.e (eStore 1 (sel 19) ⟨fun _ => .int .u16 0⟩))])))⟩
theorem d18 : denF Try.prog 18 = some c18 := denF_of (by kernel_rfl)
/-- (*bollard/join.Join).knows -/
noncomputable def c19 : CF := ⟨17, [.tmp (sel 4)],
  sSeq (sRegion [iOp (put 4) (.v false (oEv ⟨fun _ => .bool false⟩))])
  (sSeq (sRegion [iOp (put 5) (.v false (oEv (sel 0))),
     iOp (put 6) (.v false (oNe (.one 3) (sel 5) ⟨fun _ => .pointer none⟩)),
     iOp (put 7) (.v false (oEv (sel 6))),
     iGuard (sel 7) true (put 8) (iOp (put 8) (.v false (oEv (sel 1)))),
     iGuard (sel 7) true (put 9) (iOp (put 9) (.v false (oConvInt .i64 (sel 8)))),
     iGuard (sel 7) true (put 10) (iOp (put 10) (.v false (oEv (sel 0)))),
     iGuard (sel 7) true (put 11) (iOp (put 11) (.v false (oNilCheck (sel 10)))),
     iGuard (sel 7) true (put 12) (iOp (put 12) (.v false (oFieldAddr 0 (sel 11)))),
     iGuard (sel 7) true (put 13) (iOp (put 13) (.v true (oLoad1 (sel 12)))),
     iGuard (sel 7) true (put 14) (iOp (put 14) (.v false (oLenS (sel 13)))),
     iGuard (sel 7) true (put 15) (iOp (put 15) (.v false (oInt2 fLss (sel 9) (sel 14)))),
     iOp (put 16) (.v false (oPick (sel 7) (sel 15) ⟨fun _ => .bool false⟩)),
     iOp (put 4) (.v false (oEv (sel 16)))])
   (sEx .ret))⟩
theorem d19 : denF Try.prog 19 = some c19 := denF_of (by kernel_rfl)
/-- slices.Clone[[]byte,byte] -/
noncomputable def c20 : CF := ⟨8, [.tmp (sel 2)],
  sSeq (sRegion [iOp (put 2) (.v false (oEv ⟨fun _ => .slice none 0 0⟩))])
  (sSeq (sSeq (sRegion [iOp (put 3) (.v false (oEv (sel 0))),
      iOp (put 4) (.v false (oEq (.one 4) (sel 3) ⟨fun _ => .slice none 0 0⟩))])
    (sCond (sel 4)
      (sSeq (sRegion [iOp (put 2) (.v false (oEv ⟨fun _ => .slice none 0 0⟩))])
       (sEx .ret))
      (sEx .normal)))
   (sSeq (sRegion [iOp (put 5) (.a (aBuildSlice 5 0 (rep 0 [.int .u8 0]) [])),
      iOp (put 6) (.v false (oEv (sel 0))),
      iOp (put 7) (.e (eAppend 5 1 1 (sel 5) (sel 6))),
      iOp (put 2) (.v false (oEv (sel 7)))])
    (sEx .ret)))⟩
theorem d20 : denF Try.prog 20 = some c20 := denF_of (by kernel_rfl)
noncomputable def c21_0 : Vm.Sem := sSeq (sSeq (sRegion [iOp (put 13) (.v false (oFieldAddr 1 (sel 5))),
    iOp (put 14) (.v true (oLoad1 (sel 13))),
    iOp (put 15) (.v false (oInt2 fAnd (sel 14) ⟨fun _ => .int .u8 2⟩)),
    iOp (put 16) (.v false (oEq (.one 1) (sel 15) ⟨fun _ => .int .u8 0⟩))])
  (sCond (sel 16)
    (sEx .normal)
    (sEx (.exit 0))))
 (sBlock 1 (sSeq (sRegion [iOp (put 18) (.v false (oEv (sel 0))),
     iOp (put 19) (.v false (oNilCheck (sel 18))),
     iOp (put 20) (.v false (oFieldAddr 1 (sel 19))),
     iOp (put 21) (.v true (oLoad1 (sel 20))),
     iOp (put 22) (.v false (oFieldAddr 2 (sel 5))),
     iOp (put 23) (.v true (oLoad1 (sel 22))),
     iOp (put 24) (.v false (oInt2 fSub (sel 23) ⟨fun _ => .int .u32 1⟩)),
     iOp (put 25) (.v true (oLookup (.one 1) (.agg #[.int .u8 0, .int .u8 0, .int .u32 0, .int .u32 0, .int .u16 0, .int .u16 0, .int .u32 0, .slice none 0 0, .slice none 0 0, .slice none 0 0, .slice none 0 0, .slice none 0 0]) true (sel 21) (sel 24))),
     iOp (put 17) (.v false (oEv (sel 25))),
     iOp (put 26) (.v false (oExtract (sel 17) 0)),
     iOp (put 27) (.v false (oExtract (sel 17) 1)),
     iOp (put 6) (.a (aAlloc 42 [.int .u8 0, .int .u8 0, .int .u32 0, .int .u32 0, .int .u16 0, .int .u16 0, .int .u32 0, .slice none 0 0, .slice none 0 0, .slice none 0 0, .slice none 0 0, .slice none 0 0])),
     iOp ⟨fun _ a => a⟩ (.e (eStore 12 (sel 6) (sel 26))),
     iOp (put 7) (.v false (oEv (sel 27)))])
   (sSeq (sSeq (sRegion [iOp (put 28) (.v false (oEv (sel 7))),
       iOp (put 29) (.v false (oNot (sel 28))),
       iOp (put 30) (.v false (oEv (sel 29))),
       iGuard (sel 30) false (put 31) (iOp (put 31) (.v true (oLoadN 12 (sel 6)))),
       iGuard (sel 30) false (put 32) (iOp (put 32) (.v true (oLoadN 12 (sel 5)))),
       iGuard (sel 30) false (put 33) (iOp (put 33) (.e (eCallF 30 [(sel 31), (sel 32)]))),
       iGuard (sel 30) false (put 34) (iOp (put 34) (.v false (oNot (sel 33)))),
       iOp (put 35) (.v false (oPick (sel 30) ⟨fun _ => .bool true⟩ (sel 34)))])
     (sCond (sel 35)
       (sSeq (sRegion [iOp (put 4) (.v false (oEv ⟨fun _ => .slice none 0 0⟩))])
        (sEx .ret))
       (sEx .normal)))
    (sRegion [iOp (put 36) (.v true (oLoadN 12 (sel 6))),
      iOp ⟨fun _ a => a⟩ (.e (eStore 12 (sel 5) (sel 36)))]))))
noncomputable def c21_1 : Vm.Sem := sSeq (sSeq (sRegion [iOp (put 40) (.v false (oFieldAddr 1 (sel 9))),
    iOp (put 41) (.v true (oLoad1 (sel 40))),
    iOp (put 42) (.v false (oInt2 fAnd (sel 41) ⟨fun _ => .int .u8 1⟩)),
    iOp (put 43) (.v false (oEq (.one 1) (sel 42) ⟨fun _ => .int .u8 0⟩))])
  (sCond (sel 43)
    (sEx .normal)
    (sEx (.exit 2))))
 (sSeq (sBlock 3 (sSeq (sRegion [iOp (put 49) (.v false (oEv (sel 0))),
      iOp (put 50) (.v false (oNilCheck (sel 49))),
      iOp (put 51) (.v false (oFieldAddr 1 (sel 50))),
      iOp (put 52) (.v true (oLoad1 (sel 51))),
      iOp (put 53) (.v false (oFieldAddr 2 (sel 9))),
      iOp (put 54) (.v true (oLoad1 (sel 53))),
      iOp (put 55) (.v false (oInt2 fAdd (sel 54) ⟨fun _ => .int .u32 1⟩)),
      iOp (put 56) (.v true (oLookup (.one 1) (.agg #[.int .u8 0, .int .u8 0, .int .u32 0, .int .u32 0, .int .u16 0, .int .u16 0, .int .u32 0, .slice none 0 0, .slice none 0 0, .slice none 0 0, .slice none 0 0, .slice none 0 0]) true (sel 52) (sel 55))),
      iOp (put 48) (.v false (oEv (sel 56))),
      iOp (put 57) (.v false (oExtract (sel 48) 0)),
      iOp (put 58) (.v false (oExtract (sel 48) 1)),
      iOp (put 10) (.a (aAlloc 42 [.int .u8 0, .int .u8 0, .int .u32 0, .int .u32 0, .int .u16 0, .int .u16 0, .int .u32 0, .slice none 0 0, .slice none 0 0, .slice none 0 0, .slice none 0 0, .slice none 0 0])),
      iOp ⟨fun _ a => a⟩ (.e (eStore 12 (sel 10) (sel 57))),
      iOp (put 11) (.v false (oEv (sel 58)))])
    (sSeq (sSeq (sRegion [iOp (put 59) (.v false (oEv (sel 11))),
        iOp (put 60) (.v false (oNot (sel 59))),
        iOp (put 61) (.v false (oEv (sel 60))),
        iGuard (sel 61) false (put 62) (iOp (put 62) (.v true (oLoadN 12 (sel 9)))),
        iGuard (sel 61) false (put 63) (iOp (put 63) (.v true (oLoadN 12 (sel 10)))),
        iGuard (sel 61) false (put 64) (iOp (put 64) (.e (eCallF 30 [(sel 62), (sel 63)]))),
        iGuard (sel 61) false (put 65) (iOp (put 65) (.v false (oNot (sel 64)))),
        iOp (put 66) (.v false (oPick (sel 61) ⟨fun _ => .bool true⟩ (sel 65)))])
      (sCond (sel 66)
        (sSeq (sRegion [iOp (put 4) (.v false (oEv ⟨fun _ => .slice none 0 0⟩))])
         (sEx .ret))
        (sEx .normal)))
     (sRegion [iOp (put 67) (.v true (oLoadN 12 (sel 10))),
       iOp ⟨fun _ a => a⟩ (.e (eStore 12 (sel 9) (sel 67)))]))))
  (sSeq (sSeq (sRegion [iOp (put 68) (.v true (oLoadN 12 (sel 9)))])
    (sRegion [iOp (put 9) (.a (aAlloc 42 [.int .u8 0, .int .u8 0, .int .u32 0, .int .u32 0, .int .u16 0, .int .u16 0, .int .u32 0, .slice none 0 0, .slice none 0 0, .slice none 0 0, .slice none 0 0, .slice none 0 0])),
      iOp ⟨fun _ a => a⟩ (.e (eStore 12 (sel 9) (sel 68)))]))
   (sRegion [iOp (put 44) (.v false (oEv (sel 8))),
     iOp (put 45) (.v true (oLoadN 12 (sel 9))),
     iOp (put 46) (.a (aBuildSlice 42 1 (rep 1 [.int .u8 0, .int .u8 0, .int .u32 0, .int .u32 0, .int .u16 0, .int .u16 0, .int .u32 0, .slice none 0 0, .slice none 0 0, .slice none 0 0, .slice none 0 0, .slice none 0 0]) [(0, 12, (sel 45))])),
     iOp (put 47) (.e (eAppend 42 12 144 (sel 44) (sel 46))),
     iOp (put 8) (.v false (oEv (sel 47)))])))
/-- (*bollard/join.Join).run -/
noncomputable def c21 : CF := ⟨70, [.tmp (sel 4)],
  sSeq (sRegion [iOp (put 3) (.a (aBox 42 (sel 1))),
    iOp (put 4) (.v false (oEv ⟨fun _ => .slice none 0 0⟩))])
  (sSeq (sRegion [iOp (put 12) (.v true (oLoadN 12 (sel 3))),
     iOp (put 5) (.a (aAlloc 42 [.int .u8 0, .int .u8 0, .int .u32 0, .int .u32 0, .int .u16 0, .int .u16 0, .int .u32 0, .slice none 0 0, .slice none 0 0, .slice none 0 0, .slice none 0 0, .slice none 0 0])),
     iOp ⟨fun _ a => a⟩ (.e (eStore 12 (sel 5) (sel 12)))])
   (sSeq (sBlock 0 (sLoop c21_0))
    (sSeq (sRegion [iOp (put 37) (.v true (oLoadN 12 (sel 5))),
       iOp (put 38) (.a (aBuildSlice 42 1 (rep 1 [.int .u8 0, .int .u8 0, .int .u32 0, .int .u32 0, .int .u16 0, .int .u16 0, .int .u32 0, .slice none 0 0, .slice none 0 0, .slice none 0 0, .slice none 0 0, .slice none 0 0]) [(0, 12, (sel 37))])),
       iOp (put 8) (.v false (oEv (sel 38)))])
     (sSeq (sSeq (sRegion [iOp (put 39) (.v true (oLoadN 12 (sel 5))),
         iOp (put 9) (.a (aAlloc 42 [.int .u8 0, .int .u8 0, .int .u32 0, .int .u32 0, .int .u16 0, .int .u16 0, .int .u32 0, .slice none 0 0, .slice none 0 0, .slice none 0 0, .slice none 0 0, .slice none 0 0])),
         iOp ⟨fun _ a => a⟩ (.e (eStore 12 (sel 9) (sel 39)))])
       (sBlock 2 (sLoop c21_1)))
      (sSeq (sRegion [iOp (put 69) (.v false (oEv (sel 8))),
         iOp (put 4) (.v false (oEv (sel 69)))])
       (sEx .ret))))))⟩
theorem d21 : denF Try.prog 21 = some c21 := denF_of (by kernel_rfl)
noncomputable def c22_0 : Vm.Sem := sSeq (sRegion [iOp (put 55) (.v false (oInt2 fLss (sel 54) (sel 53)))])
 (sSeq (sCond (sel 55)
    (sEx .normal)
    (sEx (.exit 0)))
  (sSeq (sBlock 1 (sSeq (sRegion [iOp (put 56) (.v false (oEv (sel 54))),
       iOp (put 57) (.v false (oIndexAddrS 12 (sel 52) (sel 54))),
       iOp (put 58) (.v true (oLoadN 12 (sel 57))),
       iOp (put 6) (.a (aAlloc 42 [.int .u8 0, .int .u8 0, .int .u32 0, .int .u32 0, .int .u16 0, .int .u16 0, .int .u32 0, .slice none 0 0, .slice none 0 0, .slice none 0 0, .slice none 0 0, .slice none 0 0])),
       iOp (put 5) (.v false (oEv (sel 56))),
       iOp ⟨fun _ a => a⟩ (.e (eStore 12 (sel 6) (sel 58)))])
     (sSeq (sSeq (sOne (sRegion [iOp (put 59) (.v false (oEv (sel 5))),
         iOp (put 60) (.v false (oInt2 fGtr (sel 59) ⟨fun _ => .int .i64 0⟩)),
         iOp (put 61) (.v false (oEv (sel 60))),
         iGuard (sel 61) true (put 62) (iOp (put 62) (.v false (oEv (sel 0)))),
         iGuard (sel 61) true (put 63) (iOp (put 63) (.v false (oEv (sel 5)))),
         iGuard (sel 61) true (put 64) (iOp (put 64) (.v false (oInt2 fSub (sel 63) ⟨fun _ => .int .i64 1⟩))),
         iGuard (sel 61) true (put 65) (iOp (put 65) (.v false (oIndexAddrS 12 (sel 62) (sel 64)))),
         iGuard (sel 61) true (put 66) (iOp (put 66) (.v true (oLoadN 12 (sel 65)))),
         iGuard (sel 61) true (put 67) (iOp (put 67) (.v true (oLoadN 12 (sel 6)))),
         iGuard (sel 61) true (put 68) (iOp (put 68) (.e (eCallF 30 [(sel 66), (sel 67)]))),
         iGuard (sel 61) true (put 69) (iOp (put 69) (.v false (oNot (sel 68)))),
         iOp (put 70) (.v false (oPick (sel 61) (sel 69) ⟨fun _ => .bool false⟩))]))
       (sCond (sel 70)
         (sSeq (sRegion [iOp (put 71) (.v false (oBuild [.int .u16 0, .bool false, .int .u32 0, .slice none 0 0] [])),
            iOp ⟨fun _ a => a⟩ (.e (eStore 4 (sel 2) (sel 71))),
            iOp (put 3) (.v false (oEv ⟨fun _ => .bool false⟩))])
          (sEx .ret))
         (sEx .normal)))
      (sRegion [iOp (put 72) (.v false (oFieldAddr 3 (sel 4))),
        iOp (put 73) (.v true (oLoad1 (sel 72))),
        iOp (put 74) (.v false (oFieldAddr 11 (sel 6))),
        iOp (put 75) (.v true (oLoad1 (sel 74))),
        iOp (put 76) (.e (eAppend 5 1 1 (sel 73) (sel 75))),
        iOp (put 77) (.v false (oFieldAddr 3 (sel 4))),
        iOp ⟨fun _ a => a⟩ (.e (eStore 1 (sel 77) (sel 76)))]))))
   (sRegion [iOp (put 78) (.v false (oInt2 fAdd (sel 54) ⟨fun _ => .int .i64 1⟩)),
     iOp (put 54) (.v false (oEv (sel 78)))])))
/-- bollard/split.Whole -/
noncomputable def c22 : CF := ⟨80, [.agg (sel 2) 4, .tmp (sel 3)],
  sSeq (sRegion [iOp (put 2) (.a (aAlloc 30 [.int .u16 0, .bool false, .int .u32 0, .slice none 0 0])),
    iOp (put 3) (.v false (oEv ⟨fun _ => .bool false⟩))])
  (sSeq (sSeq (sRegion [iOp (put 7) (.v false (oEv (sel 0))),
      iOp (put 8) (.v false (oLenS (sel 7))),
      iOp (put 9) (.v false (oEq (.one 1) (sel 8) ⟨fun _ => .int .i64 0⟩)),
      iOp (put 10) (.v false (oEv (sel 9))),
      iGuard (sel 10) false (put 11) (iOp (put 11) (.v false (oEv (sel 0)))),
      iGuard (sel 10) false (put 12) (iOp (put 12) (.v false (oIndexAddrS 12 (sel 11) ⟨fun _ => .int .i64 0⟩))),
      iGuard (sel 10) false (put 13) (iOp (put 13) (.v false (oFieldAddr 0 (sel 12)))),
      iGuard (sel 10) false (put 14) (iOp (put 14) (.v true (oLoad1 (sel 13)))),
      iGuard (sel 10) false (put 15) (iOp (put 15) (.v false (oNe (.one 1) (sel 14) ⟨fun _ => .int .u8 0⟩))),
      iOp (put 16) (.v false (oPick (sel 10) ⟨fun _ => .bool true⟩ (sel 15))),
      iOp (put 17) (.v false (oEv (sel 16))),
      iGuard (sel 17) false (put 18) (iOp (put 18) (.v false (oEv (sel 0)))),
      iGuard (sel 17) false (put 19) (iOp (put 19) (.v false (oIndexAddrS 12 (sel 18) ⟨fun _ => .int .i64 0⟩))),
      iGuard (sel 17) false (put 20) (iOp (put 20) (.v false (oFieldAddr 1 (sel 19)))),
      iGuard (sel 17) false (put 21) (iOp (put 21) (.v true (oLoad1 (sel 20)))),
      iGuard (sel 17) false (put 22) (iOp (put 22) (.v false (oInt2 fAnd (sel 21) ⟨fun _ => .int .u8 2⟩))),
      iGuard (sel 17) false (put 23) (iOp (put 23) (.v false (oEq (.one 1) (sel 22) ⟨fun _ => .int .u8 0⟩))),
      iOp (put 24) (.v false (oPick (sel 17) ⟨fun _ => .bool true⟩ (sel 23))),
      iOp (put 25) (.v false (oEv (sel 24))),
      iGuard (sel 25) false (put 26) (iOp (put 26) (.v false (oEv (sel 0)))),
      iGuard (sel 25) false (put 27) (iOp (put 27) (.v false (oEv (sel 0)))),
      iGuard (sel 25) false (put 28) (iOp (put 28) (.v false (oLenS (sel 27)))),
      iGuard (sel 25) false (put 29) (iOp (put 29) (.v false (oInt2 fSub (sel 28) ⟨fun _ => .int .i64 1⟩))),
      iGuard (sel 25) false (put 30) (iOp (put 30) (.v false (oIndexAddrS 12 (sel 26) (sel 29)))),
      iGuard (sel 25) false (put 31) (iOp (put 31) (.v false (oFieldAddr 1 (sel 30)))),
      iGuard (sel 25) false (put 32) (iOp (put 32) (.v true (oLoad1 (sel 31)))),
      iGuard (sel 25) false (put 33) (iOp (put 33) (.v false (oInt2 fAnd (sel 32) ⟨fun _ => .int .u8 1⟩))),
      iGuard (sel 25) false (put 34) (iOp (put 34) (.v false (oEq (.one 1) (sel 33) ⟨fun _ => .int .u8 0⟩))),
      iOp (put 35) (.v false (oPick (sel 25) ⟨fun _ => .bool true⟩ (sel 34)))])
    (sCond (sel 35)
      (sSeq (sRegion [iOp (put 36) (.v false (oBuild [.int .u16 0, .bool false, .int .u32 0, .slice none 0 0] [])),
         iOp ⟨fun _ a => a⟩ (.e (eStore 4 (sel 2) (sel 36))),
         iOp (put 3) (.v false (oEv ⟨fun _ => .bool false⟩))])
       (sEx .ret))
      (sEx .normal)))
   (sSeq (sRegion [iOp (put 37) (.v false (oEv (sel 0))),
      iOp (put 38) (.v false (oIndexAddrS 12 (sel 37) ⟨fun _ => .int .i64 0⟩)),
      iOp (put 39) (.v false (oFieldAddr 4 (sel 38))),
      iOp (put 40) (.v true (oLoad1 (sel 39))),
      iOp (put 41) (.v false (oEv (sel 0))),
      iOp (put 42) (.v false (oIndexAddrS 12 (sel 41) ⟨fun _ => .int .i64 0⟩)),
      iOp (put 43) (.v false (oFieldAddr 1 (sel 42))),
      iOp (put 44) (.v true (oLoad1 (sel 43))),
      iOp (put 45) (.v false (oInt2 fAnd (sel 44) ⟨fun _ => .int .u8 4⟩)),
      iOp (put 46) (.v false (oNe (.one 1) (sel 45) ⟨fun _ => .int .u8 0⟩)),
      iOp (put 47) (.v false (oEv (sel 0))),
      iOp (put 48) (.v false (oIndexAddrS 12 (sel 47) ⟨fun _ => .int .i64 0⟩)),
      iOp (put 49) (.v false (oFieldAddr 6 (sel 48))),
      iOp (put 50) (.v true (oLoad1 (sel 49))),
      iOp (put 51) (.v false (oBuild [.int .u16 0, .bool false, .int .u32 0, .slice none 0 0] [(0, 1, (sel 40)), (1, 1, (sel 46)), (2, 1, (sel 50))])),
      iOp (put 4) (.a (aAlloc 30 [.int .u16 0, .bool false, .int .u32 0, .slice none 0 0])),
      iOp ⟨fun _ a => a⟩ (.e (eStore 4 (sel 4) (sel 51)))])
    (sSeq (sSeq (sRegion [iOp (put 52) (.v false (oEv (sel 0))),
        iOp (put 53) (.v false (oLenS (sel 52))),
        iOp (put 54) (.v false (oEv ⟨fun _ => .int .i64 0⟩))])
      (sBlock 0 (sLoop c22_0)))
     (sSeq (sRegion [iOp (put 79) (.v true (oLoadN 4 (sel 4))),
        iOp ⟨fun _ a => a⟩ (.e (eStore 4 (sel 2) (sel 79))),
        iOp (put 3) (.v false (oEv ⟨fun _ => .bool true⟩))])
      (sEx .ret)))))⟩
theorem d22 : denF Try.prog 22 = some c22 := denF_of (by kernel_rfl)
/-- (*bollard/join.Join).keep -/
noncomputable def c23 : CF := ⟨69, [],
  sSeq (sRegion [iOp (put 4) (.a (aBox 30 (sel 1)))])
  (sSeq (sRegion [iOp (put 9) (.v false (oFieldAddr 0 (sel 4))),
     iOp (put 10) (.v true (oLoad1 (sel 9))),
     iOp (put 11) (.v false (oEv (sel 2))),
     iOp (put 12) (.v false (oBuild [.int .u16 0, .int .u16 0] [(0, 1, (sel 10)), (1, 1, (sel 11))])),
     iOp (put 6) (.a (aAlloc 78 [.int .u16 0, .int .u16 0])),
     iOp ⟨fun _ a => a⟩ (.e (eStore 2 (sel 6) (sel 12)))])
   (sSeq (sRegion [iOp (put 14) (.v false (oEv (sel 0))),
      iOp (put 15) (.v false (oNilCheck (sel 14))),
      iOp (put 16) (.v false (oFieldAddr 2 (sel 15))),
      iOp (put 17) (.v true (oLoad1 (sel 16))),
      iOp (put 18) (.v true (oLoadN 2 (sel 6))),
      iOp (put 19) (.v true (oLookup (.agg [1, 1]) (.agg #[.int .u16 0, .bool false, .int .u32 0, .slice none 0 0]) true (sel 17) (sel 18))),
      iOp (put 13) (.v false (oEv (sel 19))),
      iOp (put 20) (.v false (oExtract (sel 13) 0)),
      iOp (put 21) (.v false (oExtract (sel 13) 1)),
      iOp (put 7) (.a (aAlloc 30 [.int .u16 0, .bool false, .int .u32 0, .slice none 0 0])),
      iOp ⟨fun _ a => a⟩ (.e (eStore 4 (sel 7) (sel 20))),
      iOp (put 8) (.v false (oEv (sel 21)))])
    (sBlock 0 (sSeq (sRegion [iOp (put 33) (.v false (oFieldAddr 1 (sel 4))),
        iOp (put 34) (.v true (oLoad1 (sel 33))),
        iOp (put 32) (.v false (oEv (sel 34)))])
      (sCond (sel 32)
        (sRegion [iOp (put 35) (.v false (oEv (sel 0))),
          iOp (put 36) (.v false (oEv (sel 0))),
          iOp (put 37) (.v false (oNilCheck (sel 36))),
          iOp (put 38) (.v false (oFieldAddr 3 (sel 37))),
          iOp (put 39) (.v true (oLoad1 (sel 38))),
          iOp (put 40) (.v true (oLoadN 4 (sel 4))),
          iOp (put 41) (.a (aBuildSlice 30 1 (rep 1 [.int .u16 0, .bool false, .int .u32 0, .slice none 0 0]) [(0, 4, (sel 40))])),
          iOp (put 42) (.e (eAppend 30 4 32 (sel 39) (sel 41))),
          iOp (put 43) (.v false (oNilCheck (sel 35))),
          iOp (put 44) (.v false (oFieldAddr 3 (sel 43))),
          iOp ⟨fun _ a => a⟩ (.e (eStore 1 (sel 44) (sel 42)))])
        (sSeq (sOne (sRegion [iOp (put 46) (.v false (oEv (sel 8))),
           iOp (put 47) (.v false (oEv (sel 46))),
           iGuard (sel 47) false (put 48) (iOp (put 48) (.v false (oEv (sel 2)))),
           iGuard (sel 47) false (put 49) (iOp (put 49) (.v false (oEv (sel 0)))),
           iGuard (sel 47) false (put 50) (iOp (put 50) (.v false (oNilCheck (sel 49)))),
           iGuard (sel 47) false (put 51) (iOp (put 51) (.v false (oFieldAddr 0 (sel 50)))),
           iGuard (sel 47) false (put 52) (iOp (put 52) (.v true (oLoad1 (sel 51)))),
           iGuard (sel 47) false (put 53) (iOp (put 53) (.v false (oFieldAddr 0 (sel 4)))),
           iGuard (sel 47) false (put 54) (iOp (put 54) (.v true (oLoad1 (sel 53)))),
           iGuard (sel 47) false (put 55) (iOp (put 55) (.v false (oIndexAddrS 1 (sel 52) (sel 54)))),
           iGuard (sel 47) false (put 56) (iOp (put 56) (.v true (oLoad1 (sel 55)))),
           iGuard (sel 47) false (put 57) (iOp (put 57) (.e (eCallF 31 [(sel 48), (sel 56)]))),
           iOp (put 58) (.v false (oPick (sel 47) ⟨fun _ => .bool true⟩ (sel 57))),
           iOp (put 45) (.v false (oEv (sel 58)))]))
         (sCond (sel 45)
           (sRegion [iOp (put 59) (.v false (oEv (sel 0))),
             iOp (put 60) (.v false (oNilCheck (sel 59))),
             iOp (put 61) (.v false (oFieldAddr 4 (sel 60))),
             iOp (put 62) (.v true (oLoad1 (sel 61))),
             iOp (put 63) (.v false (oFieldAddr 3 (sel 4))),
             iOp (put 64) (.v true (oLoad1 (sel 63))),
             iOp (put 65) (.v false (oLenS (sel 64))),
             iOp (put 66) (.v false (oInt2 fSub (sel 62) (sel 65))),
             iOp (put 67) (.v false (oNilCheck (sel 59))),
             iOp (put 68) (.v false (oFieldAddr 4 (sel 67))),
             iOp ⟨fun _ a => a⟩ (.e (eStore 1 (sel 68) (sel 66)))])
           (sSeq (sRegion [iOp (put 22) (.v false (oEv (sel 0))),
              iOp (put 23) (.v false (oNilCheck (sel 22))),
              iOp (put 24) (.v false (oFieldAddr 2 (sel 23))),
              iOp (put 25) (.v true (oLoad1 (sel 24))),
              iOp (put 26) (.v true (oLoadN 2 (sel 6))),
              iOp (put 27) (.v true (oLoadN 4 (sel 4))),
              iOp ⟨fun _ a => a⟩ (.e (eMapUpdate (.agg [1, 1]) (sel 25) (sel 26) (sel 27)))])
            (sRegion [iOp (put 28) (.v false (oEv (sel 0))),
              iOp (put 29) (.v false (oFieldAddr 0 (sel 4))),
              iOp (put 30) (.v true (oLoad1 (sel 29))),
              iOp (put 31) (.e (eCallF 32 [(sel 28), (sel 30)]))])))))))))⟩
theorem d23 : denF Try.prog 23 = some c23 := denF_of (by kernel_rfl)
noncomputable def c24_0 : Vm.Sem := sSeq (sRegion [iOp (put 8) (.e (eNext (sel 7))),
   iOp (put 9) (.v false (oExtract (sel 8) 0))])
 (sSeq (sCond (sel 9)
    (sEx .normal)
    (sEx (.exit 0)))
  (sBlock 1 (sSeq (sRegion [iOp (put 10) (.v true (oEntry (sel 7))),
      iOp (put 11) (.v false (oExtract (sel 10) 0)),
      iOp (put 12) (.v false (oExtract (sel 10) 1)),
      iOp (put 5) (.a (aAlloc 42 [.int .u8 0, .int .u8 0, .int .u32 0, .int .u32 0, .int .u16 0, .int .u16 0, .int .u32 0, .slice none 0 0, .slice none 0 0, .slice none 0 0, .slice none 0 0, .slice none 0 0])),
      iOp (put 4) (.v false (oEv (sel 11))),
      iOp ⟨fun _ a => a⟩ (.e (eStore 12 (sel 5) (sel 12)))])
    (sSeq (sRegion [iOp (put 13) (.v false (oEv (sel 1))),
       iOp (put 14) (.v false (oEv (sel 4))),
       iOp (put 15) (.v true (oLoadN 12 (sel 5))),
       iOp (put 16) (.e (eCall (sel 13) [(sel 14), (sel 15)]))])
     (sCond (sel 16)
       (sRegion [iOp (put 17) (.v false (oEv (sel 0))),
         iOp (put 18) (.v false (oEv (sel 4))),
         iOp ⟨fun _ a => a⟩ (.e (eDelete (.one 1) (sel 17) (sel 18)))])
       (sEx .normal))))))
/-- maps.DeleteFunc[map[uint32]bollard/api.Chunk,uint32,bollard/api.Chunk] -/
noncomputable def c24 : CF := ⟨19, [],
  sSeq (sRegion [iOp (put 6) (.v false (oEv (sel 0))),
    iOp (put 7) (.e (eRange (sel 6)))])
  (sBlock 0 (sLoop c24_0))⟩
theorem d24 : denF Try.prog 24 = some c24 := denF_of (by kernel_rfl)
/-- (*bollard/join.Join).Forward$1 -/
noncomputable def c25 : CF := ⟨28, [.tmp (sel 6)],
  sSeq (sRegion [iOp (put 5) (.a (aBox 42 (sel 1))),
    iOp (put 6) (.v false (oEv ⟨fun _ => .bool false⟩))])
  (sSeq (sRegion [iOp (put 8) (.v false (oEv (sel 0))),
     iOp (put 9) (.v true (oLoad1 (sel 2))),
     iOp (put 10) (.v false (oEq (.one 1) (sel 8) (sel 9))),
     iOp (put 11) (.v false (oEv (sel 10))),
     iGuard (sel 11) false (put 12) (iOp (put 12) (.v false (oEv (sel 0)))),
     iGuard (sel 11) false (put 13) (iOp (put 13) (.v true (oLoad1 (sel 2)))),
     iGuard (sel 11) false (put 14) (iOp (put 14) (.e (eCallF 26 [(sel 12), (sel 13)]))),
     iOp (put 15) (.v false (oPick (sel 11) ⟨fun _ => .bool true⟩ (sel 14))),
     iOp (put 7) (.v false (oEv (sel 15)))])
   (sSeq (sSeq (sRegion [iOp (put 16) (.v false (oEv (sel 7)))])
     (sCond (sel 16)
       (sRegion [iOp (put 17) (.v true (oLoad1 (sel 3))),
         iOp (put 18) (.v false (oNilCheck (sel 17))),
         iOp (put 19) (.v false (oFieldAddr 4 (sel 18))),
         iOp (put 20) (.v true (oLoad1 (sel 19))),
         iOp (put 21) (.v false (oFieldAddr 11 (sel 5))),
         iOp (put 22) (.v true (oLoad1 (sel 21))),
         iOp (put 23) (.v false (oLenS (sel 22))),
         iOp (put 24) (.v false (oInt2 fSub (sel 20) (sel 23))),
         iOp (put 25) (.v false (oNilCheck (sel 17))),
         iOp (put 26) (.v false (oFieldAddr 4 (sel 25))),
         iOp ⟨fun _ a => a⟩ (.e (eStore 1 (sel 26) (sel 24)))])
       (sEx .normal)))
    (sSeq (sRegion [iOp (put 27) (.v false (oEv (sel 7))),
       iOp (put 6) (.v false (oEv (sel 27)))])
     (sEx .ret))))⟩
theorem d25 : denF Try.prog 25 = some c25 := denF_of (by kernel_rfl)
/-- bollard/serial.Less -/
noncomputable def c26 : CF := ⟨8, [.tmp (sel 4)],
  sSeq (sRegion [iOp (put 4) (.v false (oEv ⟨fun _ => .bool false⟩))])
  (sSeq (sRegion [iOp (put 5) (.v false (oEv (sel 0))),
     iOp (put 6) (.v false (oEv (sel 1))),
     iOp (put 7) (.e (eCallF 33 [(sel 5), (sel 6)])),
     iOp (put 4) (.v false (oEv (sel 7)))])
   (sEx .ret))⟩
theorem d26 : denF Try.prog 26 = some c26 := denF_of (by kernel_rfl)
noncomputable def c27_0 : Vm.Sem := sSeq (sRegion [iOp (put 42) (.e (eNext (sel 41))),
   iOp (put 43) (.v false (oExtract (sel 42) 0))])
 (sSeq (sCond (sel 43)
    (sEx .normal)
    (sEx (.exit 0)))
  (sBlock 1 (sSeq (sRegion [iOp (put 44) (.v true (oEntry (sel 41))),
      iOp (put 45) (.v false (oExtract (sel 44) 0)),
      iOp (put 7) (.a (aAlloc 78 [.int .u16 0, .int .u16 0])),
      iOp ⟨fun _ a => a⟩ (.e (eStore 2 (sel 7) (sel 45)))])
    (sSeq (sDr [iOp (put 46) (.v false (oFieldAddr 0 (sel 7))),
       iOp (put 47) (.v true (oLoad1 (sel 46))),
       iOp (put 48) (.v false (oFieldAddr 0 (sel 3))),
       iOp (put 49) (.v true (oLoad1 (sel 48))),
       iOp (put 50) (.v false (oEq (.one 1) (sel 47) (sel 49))),
       iOp (put 51) (.v false (oEv (sel 50))),
       iGuard (sel 51) true (put 52) (iOp (put 52) (.v true (oLoad1 (sel 5)))),
       iGuard (sel 51) true (put 53) (iOp (put 53) (.v true (oLoadN 2 (sel 7)))),
       iGuard (sel 51) true (put 54) (iOp (put 54) (.e (eCall (sel 52) [(sel 53)]))),
       iGuard (sel 51) true (put 55) (iOp (put 55) (.v false (oFieldAddr 1 (sel 3)))),
       iGuard (sel 51) true (put 56) (iOp (put 56) (.v true (oLoad1 (sel 55)))),
       iGuard (sel 51) true (put 57) (iOp (put 57) (.v true (oLoad1 (sel 4)))),
       iGuard (sel 51) true (put 58) (iOp (put 58) (.v false (oInt2 fSub (sel 56) (sel 57)))),
       iGuard (sel 51) true (put 59) (iOp (put 59) (.v false (oInt2 fLeq (sel 54) (sel 58)))),
       iOp (put 60) (.v false (oPick (sel 51) (sel 59) ⟨fun _ => .bool false⟩))]
       [(10, some ((sel 51), true), (oLoad1 (sel 55)), [0, 9]), (11, some ((sel 51), true), (oLoad1 (sel 4)), [0, 9])])
     (sCond (sel 60)
       (sRegion [iOp (put 61) (.v false (oEv (sel 6))),
         iOp (put 62) (.v true (oLoadN 2 (sel 7))),
         iOp (put 63) (.a (aBuildSlice 78 1 (rep 1 [.int .u16 0, .int .u16 0]) [(0, 2, (sel 62))])),
         iOp (put 64) (.e (eAppend 78 2 4 (sel 61) (sel 63))),
         iOp (put 6) (.v false (oEv (sel 64)))])
       (sEx .normal))))))
noncomputable def c27_1 : Vm.Sem := sSeq (sRegion [iOp (put 71) (.v false (oInt2 fLss (sel 70) (sel 69)))])
 (sSeq (sCond (sel 71)
    (sEx .normal)
    (sEx (.exit 2)))
  (sSeq (sBlock 3 (sSeq (sRegion [iOp (put 72) (.v false (oIndexAddrS 2 (sel 68) (sel 70))),
       iOp (put 73) (.v true (oLoadN 2 (sel 72))),
       iOp (put 9) (.a (aAlloc 78 [.int .u16 0, .int .u16 0])),
       iOp ⟨fun _ a => a⟩ (.e (eStore 2 (sel 9) (sel 73)))])
     (sRegion [iOp (put 74) (.v false (oEv (sel 0))),
       iOp (put 75) (.v true (oLoadN 2 (sel 9))),
       iOp (put 76) (.e (eCallF 38 [(sel 74), (sel 75)]))])))
   (sRegion [iOp (put 77) (.v false (oInt2 fAdd (sel 70) ⟨fun _ => .int .i64 1⟩)),
     iOp (put 70) (.v false (oEv (sel 77)))])))
/-- (*bollard/join.Join).skip -/
noncomputable def c27 : CF := ⟨92, [],
  sSeq (sRegion [iOp (put 3) (.a (aBox 51 (sel 1)))])
  (sSeq (sSeq (sOne (sRegion [iOp (put 10) (.v false (oEv (sel 0))),
      iOp (put 11) (.v false (oFieldAddr 0 (sel 3))),
      iOp (put 12) (.v true (oLoad1 (sel 11))),
      iOp (put 13) (.e (eCallF 19 [(sel 10), (sel 12)])),
      iOp (put 14) (.v false (oNot (sel 13))),
      iOp (put 15) (.v false (oEv (sel 14))),
      iGuard (sel 15) false (put 16) (iOp (put 16) (.v false (oFieldAddr 1 (sel 3)))),
      iGuard (sel 15) false (put 17) (iOp (put 17) (.v true (oLoad1 (sel 16)))),
      iGuard (sel 15) false (put 18) (iOp (put 18) (.v false (oEv (sel 0)))),
      iGuard (sel 15) false (put 19) (iOp (put 19) (.v false (oNilCheck (sel 18)))),
      iGuard (sel 15) false (put 20) (iOp (put 20) (.v false (oFieldAddr 0 (sel 19)))),
      iGuard (sel 15) false (put 21) (iOp (put 21) (.v true (oLoad1 (sel 20)))),
      iGuard (sel 15) false (put 22) (iOp (put 22) (.v false (oFieldAddr 0 (sel 3)))),
      iGuard (sel 15) false (put 23) (iOp (put 23) (.v true (oLoad1 (sel 22)))),
      iGuard (sel 15) false (put 24) (iOp (put 24) (.v false (oIndexAddrS 1 (sel 21) (sel 23)))),
      iGuard (sel 15) false (put 25) (iOp (put 25) (.v true (oLoad1 (sel 24)))),
      iGuard (sel 15) false (put 26) (iOp (put 26) (.e (eCallF 31 [(sel 17), (sel 25)]))),
      iOp (put 27) (.v false (oPick (sel 15) ⟨fun _ => .bool true⟩ (sel 26)))]))
    (sCond (sel 27)
      (sEx .ret)
      (sEx .normal)))
   (sSeq (sRegion [iOp (put 28) (.v false (oEv (sel 0))),
      iOp (put 29) (.v false (oNilCheck (sel 28))),
      iOp (put 30) (.v false (oFieldAddr 0 (sel 29))),
      iOp (put 31) (.v true (oLoad1 (sel 30))),
      iOp (put 32) (.v false (oFieldAddr 0 (sel 3))),
      iOp (put 33) (.v true (oLoad1 (sel 32))),
      iOp (put 34) (.v false (oIndexAddrS 1 (sel 31) (sel 33))),
      iOp (put 35) (.v true (oLoad1 (sel 34))),
      iOp (put 4) (.a (aAlloc 27 [.int .u16 0])),
      iOp ⟨fun _ a => a⟩ (.e (eStore 1 (sel 4) (sel 35)))])
    (sSeq (sRegion [iOp (put 36) (.v false (oFunc (.func 34) [] [(sel 4)])),
       iOp (put 5) (.a (aAlloc 82 [.nilFunc])),
       iOp ⟨fun _ a => a⟩ (.e (eStore 1 (sel 5) (sel 36)))])
     (sSeq (sRegion [iOp (put 6) (.v false (oEv ⟨fun _ => .slice none 0 0⟩))])
      (sSeq (sSeq (sRegion [iOp (put 37) (.v false (oEv (sel 0))),
          iOp (put 38) (.v false (oNilCheck (sel 37))),
          iOp (put 39) (.v false (oFieldAddr 2 (sel 38))),
          iOp (put 40) (.v true (oLoad1 (sel 39))),
          iOp (put 41) (.e (eRange (sel 40)))])
        (sBlock 0 (sLoop c27_0)))
       (sSeq (sRegion [iOp (put 65) (.v false (oEv (sel 6))),
          iOp (put 66) (.v false (oFunc (.func 36) [] [(sel 5)])),
          iOp (put 67) (.e (eCallF 35 [(sel 65), (sel 66)]))])
        (sSeq (sSeq (sRegion [iOp (put 68) (.v false (oEv (sel 6))),
            iOp (put 69) (.v false (oLenS (sel 68))),
            iOp (put 70) (.v false (oEv ⟨fun _ => .int .i64 0⟩))])
          (sBlock 2 (sLoop c27_1)))
         (sSeq (sRegion [iOp (put 78) (.v false (oEv (sel 0))),
            iOp (put 79) (.v false (oNilCheck (sel 78))),
            iOp (put 80) (.v false (oFieldAddr 0 (sel 79))),
            iOp (put 81) (.v true (oLoad1 (sel 80))),
            iOp (put 82) (.v false (oFieldAddr 0 (sel 3))),
            iOp (put 83) (.v true (oLoad1 (sel 82))),
            iOp (put 84) (.v false (oFieldAddr 1 (sel 3))),
            iOp (put 85) (.v true (oLoad1 (sel 84))),
            iOp (put 86) (.v false (oInt2 fAdd (sel 85) ⟨fun _ => .int .u16 1⟩)),
            iOp (put 87) (.v false (oIndexAddrS 1 (sel 81) (sel 83))),
            iOp ⟨fun _ a => a⟩ (.e (eStore 1 (sel 87) (sel 86)))])
          (sRegion [iOp (put 88) (.v false (oEv (sel 0))),
            iOp (put 89) (.v false (oFieldAddr 0 (sel 3))),
            iOp (put 90) (.v true (oLoad1 (sel 89))),
            iOp (put 91) (.e (eCallF 32 [(sel 88), (sel 90)]))])))))))))⟩
theorem d27 : denF Try.prog 27 = some c27 := denF_of (by kernel_rfl)
noncomputable def c28_0 : Vm.Sem := sSeq (sRegion [iOp (put 8) (.e (eNext (sel 7))),
   iOp (put 9) (.v false (oExtract (sel 8) 0))])
 (sSeq (sCond (sel 9)
    (sEx .normal)
    (sEx (.exit 0)))
  (sBlock 1 (sSeq (sRegion [iOp (put 10) (.v true (oEntry (sel 7))),
      iOp (put 11) (.v false (oExtract (sel 10) 0)),
      iOp (put 12) (.v false (oExtract (sel 10) 1)),
      iOp (put 4) (.a (aAlloc 78 [.int .u16 0, .int .u16 0])),
      iOp (put 5) (.a (aAlloc 30 [.int .u16 0, .bool false, .int .u32 0, .slice none 0 0])),
      iOp ⟨fun _ a => a⟩ (.e (eStore 2 (sel 4) (sel 11))),
      iOp ⟨fun _ a => a⟩ (.e (eStore 4 (sel 5) (sel 12)))])
    (sSeq (sRegion [iOp (put 13) (.v false (oEv (sel 1))),
       iOp (put 14) (.v true (oLoadN 2 (sel 4))),
       iOp (put 15) (.v true (oLoadN 4 (sel 5))),
       iOp (put 16) (.e (eCall (sel 13) [(sel 14), (sel 15)]))])
     (sCond (sel 16)
       (sRegion [iOp (put 17) (.v false (oEv (sel 0))),
         iOp (put 18) (.v true (oLoadN 2 (sel 4))),
         iOp ⟨fun _ a => a⟩ (.e (eDelete (.agg [1, 1]) (sel 17) (sel 18)))])
       (sEx .normal))))))
/-- maps.DeleteFunc[map[bollard/join.number]bollard/api.Message,bollard/join.number,bollard/api.Message] -/
noncomputable def c28 : CF := ⟨19, [],
  sSeq (sRegion [iOp (put 6) (.v false (oEv (sel 0))),
    iOp (put 7) (.e (eRange (sel 6)))])
  (sBlock 0 (sLoop c28_0))⟩
theorem d28 : denF Try.prog 28 = some c28 := denF_of (by kernel_rfl)
/-- (*bollard/join.Join).Reset$1 -/
noncomputable def c29 : CF := ⟨24, [.tmp (sel 6)],
  sSeq (sRegion [iOp (put 4) (.a (aBox 78 (sel 0))),
    iOp (put 5) (.a (aBox 30 (sel 1))),
    iOp (put 6) (.v false (oEv ⟨fun _ => .bool false⟩))])
  (sSeq (sRegion [iOp (put 8) (.v false (oFieldAddr 0 (sel 4))),
     iOp (put 9) (.v true (oLoad1 (sel 8))),
     iOp (put 10) (.v true (oLoad1 (sel 2))),
     iOp (put 11) (.v false (oEq (.one 1) (sel 9) (sel 10))),
     iOp (put 7) (.v false (oEv (sel 11)))])
   (sSeq (sSeq (sRegion [iOp (put 12) (.v false (oEv (sel 7)))])
     (sCond (sel 12)
       (sRegion [iOp (put 13) (.v true (oLoad1 (sel 3))),
         iOp (put 14) (.v false (oNilCheck (sel 13))),
         iOp (put 15) (.v false (oFieldAddr 4 (sel 14))),
         iOp (put 16) (.v true (oLoad1 (sel 15))),
         iOp (put 17) (.v false (oFieldAddr 3 (sel 5))),
         iOp (put 18) (.v true (oLoad1 (sel 17))),
         iOp (put 19) (.v false (oLenS (sel 18))),
         iOp (put 20) (.v false (oInt2 fSub (sel 16) (sel 19))),
         iOp (put 21) (.v false (oNilCheck (sel 13))),
         iOp (put 22) (.v false (oFieldAddr 4 (sel 21))),
         iOp ⟨fun _ a => a⟩ (.e (eStore 1 (sel 22) (sel 20)))])
       (sEx .normal)))
    (sSeq (sRegion [iOp (put 23) (.v false (oEv (sel 7))),
       iOp (put 6) (.v false (oEv (sel 23)))])
     (sEx .ret))))⟩
theorem d29 : denF Try.prog 29 = some c29 := denF_of (by kernel_rfl)
/-- bollard/split.Follows -/
noncomputable def c30 : CF := ⟨67, [.tmp (sel 4)],
  sSeq (sRegion [iOp (put 2) (.a (aBox 42 (sel 0))),
    iOp (put 3) (.a (aBox 42 (sel 1))),
    iOp (put 4) (.v false (oEv ⟨fun _ => .bool false⟩))])
  (sSeq (sRegion [iOp (put 7) (.v false (oFieldAddr 0 (sel 2))),
     iOp (put 8) (.v true (oLoad1 (sel 7))),
     iOp (put 9) (.v false (oEq (.one 1) (sel 8) ⟨fun _ => .int .u8 0⟩)),
     iOp (put 10) (.v false (oEv (sel 9))),
     iGuard (sel 10) true (put 11) (iOp (put 11) (.v false (oFieldAddr 0 (sel 3)))),
     iGuard (sel 10) true (put 12) (iOp (put 12) (.v true (oLoad1 (sel 11)))),
     iGuard (sel 10) true (put 13) (iOp (put 13) (.v false (oEq (.one 1) (sel 12) ⟨fun _ => .int .u8 0⟩))),
     iOp (put 14) (.v false (oPick (sel 10) (sel 13) ⟨fun _ => .bool false⟩)),
     iOp (put 5) (.v false (oEv (sel 14)))])
   (sSeq (sRegion [iOp (put 15) (.v false (oFieldAddr 4 (sel 2))),
      iOp (put 16) (.v true (oLoad1 (sel 15))),
      iOp (put 17) (.v false (oFieldAddr 4 (sel 3))),
      iOp (put 18) (.v true (oLoad1 (sel 17))),
      iOp (put 19) (.v false (oEq (.one 1) (sel 16) (sel 18))),
      iOp (put 20) (.v false (oEv (sel 19))),
      iGuard (sel 20) true (put 21) (iOp (put 21) (.v false (oFieldAddr 5 (sel 2)))),
      iGuard (sel 20) true (put 22) (iOp (put 22) (.v true (oLoad1 (sel 21)))),
      iGuard (sel 20) true (put 23) (iOp (put 23) (.v false (oFieldAddr 5 (sel 3)))),
      iGuard (sel 20) true (put 24) (iOp (put 24) (.v true (oLoad1 (sel 23)))),
      iGuard (sel 20) true (put 25) (iOp (put 25) (.v false (oEq (.one 1) (sel 22) (sel 24)))),
      iOp (put 26) (.v false (oPick (sel 20) (sel 25) ⟨fun _ => .bool false⟩)),
      iOp (put 27) (.v false (oEv (sel 26))),
      iGuard (sel 27) true (put 28) (iOp (put 28) (.v false (oFieldAddr 6 (sel 2)))),
      iGuard (sel 27) true (put 29) (iOp (put 29) (.v true (oLoad1 (sel 28)))),
      iGuard (sel 27) true (put 30) (iOp (put 30) (.v false (oFieldAddr 6 (sel 3)))),
      iGuard (sel 27) true (put 31) (iOp (put 31) (.v true (oLoad1 (sel 30)))),
      iGuard (sel 27) true (put 32) (iOp (put 32) (.v false (oEq (.one 1) (sel 29) (sel 31)))),
      iOp (put 33) (.v false (oPick (sel 27) (sel 32) ⟨fun _ => .bool false⟩)),
      iOp (put 34) (.v false (oEv (sel 33))),
      iGuard (sel 34) true (put 35) (iOp (put 35) (.v false (oFieldAddr 1 (sel 2)))),
      iGuard (sel 34) true (put 36) (iOp (put 36) (.v true (oLoad1 (sel 35)))),
      iGuard (sel 34) true (put 37) (iOp (put 37) (.v false (oFieldAddr 1 (sel 3)))),
      iGuard (sel 34) true (put 38) (iOp (put 38) (.v true (oLoad1 (sel 37)))),
      iGuard (sel 34) true (put 39) (iOp (put 39) (.v false (oInt2 fXor (sel 36) (sel 38)))),
      iGuard (sel 34) true (put 40) (iOp (put 40) (.v false (oInt2 fAnd (sel 39) ⟨fun _ => .int .u8 4⟩))),
      iGuard (sel 34) true (put 41) (iOp (put 41) (.v false (oEq (.one 1) (sel 40) ⟨fun _ => .int .u8 0⟩))),
      iOp (put 42) (.v false (oPick (sel 34) (sel 41) ⟨fun _ => .bool false⟩)),
      iOp (put 6) (.v false (oEv (sel 42)))])
    (sSeq (sRegion [iOp (put 43) (.v false (oEv (sel 5))),
       iOp (put 44) (.v false (oEv (sel 43))),
       iGuard (sel 44) true (put 45) (iOp (put 45) (.v false (oEv (sel 6)))),
       iOp (put 46) (.v false (oPick (sel 44) (sel 45) ⟨fun _ => .bool false⟩)),
       iOp (put 47) (.v false (oEv (sel 46))),
       iGuard (sel 47) true (put 48) (iOp (put 48) (.v false (oFieldAddr 2 (sel 3)))),
       iGuard (sel 47) true (put 49) (iOp (put 49) (.v true (oLoad1 (sel 48)))),
       iGuard (sel 47) true (put 50) (iOp (put 50) (.v false (oFieldAddr 2 (sel 2)))),
       iGuard (sel 47) true (put 51) (iOp (put 51) (.v true (oLoad1 (sel 50)))),
       iGuard (sel 47) true (put 52) (iOp (put 52) (.v false (oInt2 fAdd (sel 51) ⟨fun _ => .int .u32 1⟩))),
       iGuard (sel 47) true (put 53) (iOp (put 53) (.v false (oEq (.one 1) (sel 49) (sel 52)))),
       iOp (put 54) (.v false (oPick (sel 47) (sel 53) ⟨fun _ => .bool false⟩)),
       iOp (put 55) (.v false (oEv (sel 54))),
       iGuard (sel 55) true (put 56) (iOp (put 56) (.v false (oFieldAddr 1 (sel 2)))),
       iGuard (sel 55) true (put 57) (iOp (put 57) (.v true (oLoad1 (sel 56)))),
       iGuard (sel 55) true (put 58) (iOp (put 58) (.v false (oInt2 fAnd (sel 57) ⟨fun _ => .int .u8 1⟩))),
       iGuard (sel 55) true (put 59) (iOp (put 59) (.v false (oEq (.one 1) (sel 58) ⟨fun _ => .int .u8 0⟩))),
       iOp (put 60) (.v false (oPick (sel 55) (sel 59) ⟨fun _ => .bool false⟩)),
       iOp (put 61) (.v false (oEv (sel 60))),
       iGuard (sel 61) true (put 62) (iOp (put 62) (.v false (oFieldAddr 1 (sel 3)))),
       iGuard (sel 61) true (put 63) (iOp (put 63) (.v true (oLoad1 (sel 62)))),
       iGuard (sel 61) true (put 64) (iOp (put 64) (.v false (oInt2 fAnd (sel 63) ⟨fun _ => .int .u8 2⟩))),
       iGuard (sel 61) true (put 65) (iOp (put 65) (.v false (oEq (.one 1) (sel 64) ⟨fun _ => .int .u8 0⟩))),
       iOp (put 66) (.v false (oPick (sel 61) (sel 65) ⟨fun _ => .bool false⟩)),
       iOp (put 4) (.v false (oEv (sel 66)))])
     (sEx .ret))))⟩
theorem d30 : denF Try.prog 30 = some c30 := denF_of (by kernel_rfl)
/-- bollard/serial.Less16 -/
noncomputable def c31 : CF := ⟨8, [.tmp (sel 4)],
  sSeq (sRegion [iOp (put 4) (.v false (oEv ⟨fun _ => .bool false⟩))])
  (sSeq (sRegion [iOp (put 5) (.v false (oEv (sel 0))),
     iOp (put 6) (.v false (oEv (sel 1))),
     iOp (put 7) (.e (eCallF 39 [(sel 5), (sel 6)])),
     iOp (put 4) (.v false (oEv (sel 7)))])
   (sEx .ret))⟩
theorem d31 : denF Try.prog 31 = some c31 := denF_of (by kernel_rfl)
noncomputable def c32_0 : Vm.Sem := sSeq (sSeq (sRegion [iOp (put 4) (.v false (oEv (sel 0))),
    iOp (put 5) (.v false (oEv (sel 1))),
    iOp (put 6) (.v false (oEv (sel 0))),
    iOp (put 7) (.v false (oNilCheck (sel 6))),
    iOp (put 8) (.v false (oFieldAddr 0 (sel 7))),
    iOp (put 9) (.v true (oLoad1 (sel 8))),
    iOp (put 10) (.v false (oEv (sel 1))),
    iOp (put 11) (.v false (oIndexAddrS 1 (sel 9) (sel 10))),
    iOp (put 12) (.v true (oLoad1 (sel 11))),
    iOp (put 13) (.v false (oBuild [.int .u16 0, .int .u16 0] [(0, 1, (sel 5)), (1, 1, (sel 12))])),
    iOp (put 14) (.e (eCallF 38 [(sel 4), (sel 13)]))])
  (sCond (sel 14)
    (sEx .normal)
    (sEx (.exit 0))))
 (sBlock 1 (sRegion [iOp (put 15) (.v false (oEv (sel 0))),
    iOp (put 16) (.v false (oNilCheck (sel 15))),
    iOp (put 17) (.v false (oFieldAddr 0 (sel 16))),
    iOp (put 18) (.v true (oLoad1 (sel 17))),
    iOp (put 19) (.v false (oEv (sel 1))),
    iOp (put 20) (.v false (oIndexAddrS 1 (sel 18) (sel 19))),
    iOp (put 21) (.v true (oLoad1 (sel 20))),
    iOp (put 22) (.v false (oInt2 fAdd (sel 21) ⟨fun _ => .int .u16 1⟩)),
    iOp (put 23) (.v false (oIndexAddrS 1 (sel 18) (sel 19))),
    iOp ⟨fun _ a => a⟩ (.e (eStore 1 (sel 23) (sel 22)))]))
/-- (*bollard/join.Join).tell -/
noncomputable def c32 : CF := ⟨24, [],
  sBlock 0 (sLoop c32_0)⟩
theorem d32 : denF Try.prog 32 = some c32 := denF_of (by kernel_rfl)
/-- bollard/serial.less[uint32] -/
noncomputable def c33 : CF := ⟨18, [.tmp (sel 4)],
  sSeq (sRegion [iOp (put 4) (.v false (oEv ⟨fun _ => .bool false⟩))])
  (sSeq (sRegion [iOp (put 6) (.v false (oEv (sel 1))),
     iOp (put 7) (.v false (oEv (sel 0))),
     iOp (put 8) (.v false (oInt2 fSub (sel 6) (sel 7))),
     iOp (put 5) (.v false (oEv (sel 8)))])
   (sSeq (sRegion [iOp (put 9) (.v false (oEv (sel 5))),
      iOp (put 10) (.v false (oNe (.one 1) (sel 9) ⟨fun _ => .int .u32 0⟩)),
      iOp (put 11) (.v false (oEv (sel 10))),
      iGuard (sel 11) true (put 12) (iOp (put 12) (.v false (oEv (sel 5)))),
      iGuard (sel 11) true (put 13) (iOp (put 13) (.v false (oConvInt .u32 ⟨fun _ => .int .i64 0⟩))),
      iGuard (sel 11) true (put 14) (iOp (put 14) (.v false (oCom (sel 13)))),
      iGuard (sel 11) true (put 15) (iOp (put 15) (.v false (oSh fShr (sel 14) ⟨fun _ => .int .u64 1⟩))),
      iGuard (sel 11) true (put 16) (iOp (put 16) (.v false (oInt2 fLeq (sel 12) (sel 15)))),
      iOp (put 17) (.v false (oPick (sel 11) (sel 16) ⟨fun _ => .bool false⟩)),
      iOp (put 4) (.v false (oEv (sel 17)))])
    (sEx .ret)))⟩
theorem d33 : denF Try.prog 33 = some c33 := denF_of (by kernel_rfl)
/-- (*bollard/join.Join).skip$1 -/
noncomputable def c34 : CF := ⟨8, [.tmp (sel 3)],
  sSeq (sRegion [iOp (put 2) (.a (aBox 78 (sel 0))),
    iOp (put 3) (.v false (oEv ⟨fun _ => .int .u16 0⟩))])
  (sSeq (sRegion [iOp (put 4) (.v false (oFieldAddr 1 (sel 2))),
     iOp (put 5) (.v true (oLoad1 (sel 4))),
     iOp (put 6) (.v true (oLoad1 (sel 1))),
     iOp (put 7) (.v false (oInt2 fSub (sel 5) (sel 6))),
     iOp (put 3) (.v false (oEv (sel 7)))])
   (sEx .ret))⟩
theorem d34 : denF Try.prog 34 = some c34 := denF_of (by kernel_rfl)
/-- slices.SortFunc[[]bollard/join.number,bollard/join.number] -/
noncomputable def c35 : CF := ⟨14, [],
  sSeq (sRegion [iOp (put 5) (.v false (oEv (sel 0))),
    iOp (put 6) (.v false (oLenS (sel 5))),
    iOp (put 4) (.v false (oEv (sel 6)))])
  (sRegion [iOp (put 7) (.v false (oEv (sel 0))),
    iOp (put 8) (.v false (oEv (sel 4))),
    iOp (put 9) (.v false (oEv (sel 4))),
    iOp (put 10) (.v false (oConvInt .u64 (sel 9))),
    iOp (put 11) (.e (eCallF 41 [(sel 10)])),
    iOp (put 12) (.v false (oEv (sel 1))),
    iOp (put 13) (.e (eCallF 40 [(sel 7), ⟨fun _ => .int .i64 0⟩, (sel 8), (sel 11), (sel 12)]))])⟩
theorem d35 : denF Try.prog 35 = some c35 := denF_of (by kernel_rfl)
/-- (*bollard/join.Join).skip$2 -/
noncomputable def c36 : CF := ⟨13, [.tmp (sel 5)],
  sSeq (sRegion [iOp (put 3) (.a (aBox 78 (sel 0))),
    iOp (put 4) (.a (aBox 78 (sel 1))),
    iOp (put 5) (.v false (oEv ⟨fun _ => .int .i64 0⟩))])
  (sSeq (sDr [iOp (put 6) (.v true (oLoad1 (sel 2))),
     iOp (put 7) (.v true (oLoadN 2 (sel 3))),
     iOp (put 8) (.e (eCall (sel 6) [(sel 7)])),
     iOp (put 9) (.v true (oLoad1 (sel 2))),
     iOp (put 10) (.v true (oLoadN 2 (sel 4))),
     iOp (put 11) (.e (eCall (sel 9) [(sel 10)])),
     iOp (put 12) (.e (eCallF 37 [(sel 8), (sel 11)])),
     iOp (put 5) (.v false (oEv (sel 12)))]
     [(3, none, (oLoad1 (sel 2)), [0, 3]), (4, none, (oLoadN 2 (sel 4)), [0, 3])])
   (sEx .ret))⟩
theorem d36 : denF Try.prog 36 = some c36 := denF_of (by kernel_rfl)
/-- cmp.Compare[uint16] -/
noncomputable def c37 : CF := ⟨20, [.tmp (sel 4)],
  sSeq (sRegion [iOp (put 4) (.v false (oEv ⟨fun _ => .int .i64 0⟩))])
  (sSeq (sRegion [iOp (put 7) (.v false (oEv (sel 0))),
     iOp (put 8) (.e (eCallF 42 [(sel 7)])),
     iOp (put 5) (.v false (oEv (sel 8)))])
   (sSeq (sRegion [iOp (put 9) (.v false (oEv (sel 1))),
      iOp (put 10) (.e (eCallF 42 [(sel 9)])),
      iOp (put 6) (.v false (oEv (sel 10)))])
    (sSeq (sSeq (sRegion [iOp (put 11) (.v false (oEv (sel 5)))])
      (sCond (sel 11)
        (sSeq (sSeq (sRegion [iOp (put 12) (.v false (oEv (sel 6)))])
          (sCond (sel 12)
            (sSeq (sRegion [iOp (put 4) (.v false (oEv ⟨fun _ => .int .i64 0⟩))])
             (sEx .ret))
            (sEx .normal)))
         (sSeq (sRegion [iOp (put 4) (.v false (oEv ⟨fun _ => .int .i64 (-1)⟩))])
          (sEx .ret)))
        (sEx .normal)))
     (sSeq (sSeq (sRegion [iOp (put 13) (.v false (oEv (sel 6)))])
       (sCond (sel 13)
         (sSeq (sRegion [iOp (put 4) (.v false (oEv ⟨fun _ => .int .i64 1⟩))])
          (sEx .ret))
         (sEx .normal)))
      (sSeq (sSeq (sRegion [iOp (put 14) (.v false (oEv (sel 0))),
          iOp (put 15) (.v false (oEv (sel 1))),
          iOp (put 16) (.v false (oInt2 fLss (sel 14) (sel 15)))])
        (sCond (sel 16)
          (sSeq (sRegion [iOp (put 4) (.v false (oEv ⟨fun _ => .int .i64 (-1)⟩))])
           (sEx .ret))
          (sEx .normal)))
       (sSeq (sSeq (sRegion [iOp (put 17) (.v false (oEv (sel 0))),
           iOp (put 18) (.v false (oEv (sel 1))),
           iOp (put 19) (.v false (oInt2 fGtr (sel 17) (sel 18)))])
         (sCond (sel 19)
           (sSeq (sRegion [iOp (put 4) (.v false (oEv ⟨fun _ => .int .i64 1⟩))])
            (sEx .ret))
           (sEx .normal)))
        (sSeq (sRegion [iOp (put 4) (.v false (oEv ⟨fun _ => .int .i64 0⟩))])
         (sEx .ret))))))))⟩
theorem d37 : denF Try.prog 37 = some c37 := denF_of (by kernel_rfl)
/-- (*bollard/join.Join).pull -/
noncomputable def c38 : CF := ⟨33, [.tmp (sel 4)],
  sSeq (sRegion [iOp (put 3) (.a (aBox 78 (sel 1))),
    iOp (put 4) (.v false (oEv ⟨fun _ => .bool false⟩))])
  (sSeq (sRegion [iOp (put 8) (.v false (oEv (sel 0))),
     iOp (put 9) (.v false (oNilCheck (sel 8))),
     iOp (put 10) (.v false (oFieldAddr 2 (sel 9))),
     iOp (put 11) (.v true (oLoad1 (sel 10))),
     iOp (put 12) (.v true (oLoadN 2 (sel 3))),
     iOp (put 13) (.v true (oLookup (.agg [1, 1]) (.agg #[.int .u16 0, .bool false, .int .u32 0, .slice none 0 0]) true (sel 11) (sel 12))),
     iOp (put 7) (.v false (oEv (sel 13))),
     iOp (put 14) (.v false (oExtract (sel 7) 0)),
     iOp (put 15) (.v false (oExtract (sel 7) 1)),
     iOp (put 5) (.a (aAlloc 30 [.int .u16 0, .bool false, .int .u32 0, .slice none 0 0])),
     iOp ⟨fun _ a => a⟩ (.e (eStore 4 (sel 5) (sel 14))),
     iOp (put 6) (.v false (oEv (sel 15)))])
   (sSeq (sSeq (sRegion [iOp (put 16) (.v false (oEv (sel 6)))])
     (sCond (sel 16)
       (sSeq (sRegion [iOp (put 17) (.v false (oEv (sel 0))),
          iOp (put 18) (.v false (oEv (sel 0))),
          iOp (put 19) (.v false (oNilCheck (sel 18))),
          iOp (put 20) (.v false (oFieldAddr 3 (sel 19))),
          iOp (put 21) (.v true (oLoad1 (sel 20))),
          iOp (put 22) (.v true (oLoadN 4 (sel 5))),
          iOp (put 23) (.a (aBuildSlice 30 1 (rep 1 [.int .u16 0, .bool false, .int .u32 0, .slice none 0 0]) [(0, 4, (sel 22))])),
          iOp (put 24) (.e (eAppend 30 4 32 (sel 21) (sel 23))),
          iOp (put 25) (.v false (oNilCheck (sel 17))),
          iOp (put 26) (.v false (oFieldAddr 3 (sel 25))),
          iOp ⟨fun _ a => a⟩ (.e (eStore 1 (sel 26) (sel 24)))])
        (sRegion [iOp (put 27) (.v false (oEv (sel 0))),
          iOp (put 28) (.v false (oNilCheck (sel 27))),
          iOp (put 29) (.v false (oFieldAddr 2 (sel 28))),
          iOp (put 30) (.v true (oLoad1 (sel 29))),
          iOp (put 31) (.v true (oLoadN 2 (sel 3))),
          iOp ⟨fun _ a => a⟩ (.e (eDelete (.agg [1, 1]) (sel 30) (sel 31)))]))
       (sEx .normal)))
    (sSeq (sRegion [iOp (put 32) (.v false (oEv (sel 6))),
       iOp (put 4) (.v false (oEv (sel 32)))])
     (sEx .ret))))⟩
theorem d38 : denF Try.prog 38 = some c38 := denF_of (by kernel_rfl)
/-- bollard/serial.less[uint16] -/
noncomputable def c39 : CF := ⟨18, [.tmp (sel 4)],
  sSeq (sRegion [iOp (put 4) (.v false (oEv ⟨fun _ => .bool false⟩))])
  (sSeq (sRegion [iOp (put 6) (.v false (oEv (sel 1))),
     iOp (put 7) (.v false (oEv (sel 0))),
     iOp (put 8) (.v false (oInt2 fSub (sel 6) (sel 7))),
     iOp (put 5) (.v false (oEv (sel 8)))])
   (sSeq (sRegion [iOp (put 9) (.v false (oEv (sel 5))),
      iOp (put 10) (.v false (oNe (.one 1) (sel 9) ⟨fun _ => .int .u16 0⟩)),
      iOp (put 11) (.v false (oEv (sel 10))),
      iGuard (sel 11) true (put 12) (iOp (put 12) (.v false (oEv (sel 5)))),
      iGuard (sel 11) true (put 13) (iOp (put 13) (.v false (oConvInt .u16 ⟨fun _ => .int .i64 0⟩))),
      iGuard (sel 11) true (put 14) (iOp (put 14) (.v false (oCom (sel 13)))),
      iGuard (sel 11) true (put 15) (iOp (put 15) (.v false (oSh fShr (sel 14) ⟨fun _ => .int .u64 1⟩))),
      iGuard (sel 11) true (put 16) (iOp (put 16) (.v false (oInt2 fLeq (sel 12) (sel 15)))),
      iOp (put 17) (.v false (oPick (sel 11) (sel 16) ⟨fun _ => .bool false⟩)),
      iOp (put 4) (.v false (oEv (sel 17)))])
    (sEx .ret)))⟩
theorem d39 : denF Try.prog 39 = some c39 := denF_of (by kernel_rfl)
noncomputable def c40_0 : Vm.Sem := sBlock 1 (sSeq (sRegion [iOp (put 21) (.v false (oEv (sel 2))),
    iOp (put 22) (.v false (oEv (sel 1))),
    iOp (put 23) (.v false (oInt2 fSub (sel 21) (sel 22))),
    iOp (put 12) (.v false (oEv (sel 23)))])
  (sSeq (sSeq (sRegion [iOp (put 24) (.v false (oEv (sel 12))),
      iOp (put 25) (.v false (oInt2 fLeq (sel 24) ⟨fun _ => .int .i64 12⟩))])
    (sCond (sel 25)
      (sSeq (sRegion [iOp (put 26) (.v false (oEv (sel 0))),
         iOp (put 27) (.v false (oEv (sel 1))),
         iOp (put 28) (.v false (oEv (sel 2))),
         iOp (put 29) (.v false (oEv (sel 4))),
         iOp (put 30) (.e (eCallF 43 [(sel 26), (sel 27), (sel 28), (sel 29)]))])
       (sEx .ret))
      (sEx .normal)))
   (sSeq (sSeq (sRegion [iOp (put 31) (.v false (oEv (sel 3))),
       iOp (put 32) (.v false (oEq (.one 1) (sel 31) ⟨fun _ => .int .i64 0⟩))])
     (sCond (sel 32)
       (sSeq (sRegion [iOp (put 33) (.v false (oEv (sel 0))),
          iOp (put 34) (.v false (oEv (sel 1))),
          iOp (put 35) (.v false (oEv (sel 2))),
          iOp (put 36) (.v false (oEv (sel 4))),
          iOp (put 37) (.e (eCallF 44 [(sel 33), (sel 34), (sel 35), (sel 36)]))])
        (sEx .ret))
       (sEx .normal)))
    (sSeq (sSeq (sRegion [iOp (put 38) (.v false (oEv (sel 10))),
        iOp (put 39) (.v false (oNot (sel 38)))])
      (sCond (sel 39)
        (sSeq (sRegion [iOp (put 40) (.v false (oEv (sel 0))),
           iOp (put 41) (.v false (oEv (sel 1))),
           iOp (put 42) (.v false (oEv (sel 2))),
           iOp (put 43) (.v false (oEv (sel 4))),
           iOp (put 44) (.e (eCallF 45 [(sel 40), (sel 41), (sel 42), (sel 43)]))])
         (sRegion [iOp (put 45) (.v false (oEv (sel 3))),
           iOp (put 46) (.v false (oInt2 fSub (sel 45) ⟨fun _ => .int .i64 1⟩)),
           iOp (put 3) (.v false (oEv (sel 46)))]))
        (sEx .normal)))
     (sSeq (sRegion [iOp (put 48) (.v false (oEv (sel 0))),
        iOp (put 49) (.v false (oEv (sel 1))),
        iOp (put 50) (.v false (oEv (sel 2))),
        iOp (put 51) (.v false (oEv (sel 4))),
        iOp (put 52) (.e (eCallF 46 [(sel 48), (sel 49), (sel 50), (sel 51)])),
        iOp (put 47) (.v false (oEv (sel 52))),
        iOp (put 53) (.v false (oExtract (sel 47) 0)),
        iOp (put 54) (.v false (oExtract (sel 47) 1)),
        iOp (put 13) (.v false (oEv (sel 53))),
        iOp (put 14) (.v false (oEv (sel 54)))])
      (sSeq (sSeq (sRegion [iOp (put 55) (.v false (oEv (sel 14))),
          iOp (put 56) (.v false (oEq (.one 1) (sel 55) ⟨fun _ => .int .i64 2⟩))])
        (sCond (sel 56)
          (sSeq (sRegion [iOp (put 57) (.v false (oEv (sel 0))),
             iOp (put 58) (.v false (oEv (sel 1))),
             iOp (put 59) (.v false (oEv (sel 2))),
             iOp (put 60) (.v false (oEv (sel 4))),
             iOp (put 61) (.e (eCallF 47 [(sel 57), (sel 58), (sel 59), (sel 60)]))])
           (sSeq (sRegion [iOp (put 62) (.v false (oEv (sel 2))),
              iOp (put 63) (.v false (oInt2 fSub (sel 62) ⟨fun _ => .int .i64 1⟩)),
              iOp (put 64) (.v false (oEv (sel 13))),
              iOp (put 65) (.v false (oEv (sel 1))),
              iOp (put 66) (.v false (oInt2 fSub (sel 64) (sel 65))),
              iOp (put 67) (.v false (oInt2 fSub (sel 63) (sel 66))),
              iOp (put 13) (.v false (oEv (sel 67)))])
            (sRegion [iOp (put 14) (.v false (oEv ⟨fun _ => .int .i64 1⟩))])))
          (sEx .normal)))
       (sSeq (sSeq (sRegion [iOp (put 68) (.v false (oEv (sel 10))),
           iOp (put 69) (.v false (oEv (sel 68))),
           iGuard (sel 69) true (put 70) (iOp (put 70) (.v false (oEv (sel 11)))),
           iOp (put 71) (.v false (oPick (sel 69) (sel 70) ⟨fun _ => .bool false⟩)),
           iOp (put 72) (.v false (oEv (sel 71))),
           iGuard (sel 72) true (put 73) (iOp (put 73) (.v false (oEv (sel 14)))),
           iGuard (sel 72) true (put 74) (iOp (put 74) (.v false (oEq (.one 1) (sel 73) ⟨fun _ => .int .i64 1⟩))),
           iOp (put 75) (.v false (oPick (sel 72) (sel 74) ⟨fun _ => .bool false⟩))])
         (sCond (sel 75)
           (sSeq (sRegion [iOp (put 76) (.v false (oEv (sel 0))),
              iOp (put 77) (.v false (oEv (sel 1))),
              iOp (put 78) (.v false (oEv (sel 2))),
              iOp (put 79) (.v false (oEv (sel 4))),
              iOp (put 80) (.e (eCallF 48 [(sel 76), (sel 77), (sel 78), (sel 79)]))])
            (sCond (sel 80)
              (sEx .ret)
              (sEx .normal)))
           (sEx .normal)))
        (sSeq (sSeq (sOne (sRegion [iOp (put 81) (.v false (oEv (sel 1))),
            iOp (put 82) (.v false (oInt2 fGtr (sel 81) ⟨fun _ => .int .i64 0⟩)),
            iOp (put 83) (.v false (oEv (sel 82))),
            iGuard (sel 83) true (put 84) (iOp (put 84) (.v false (oEv (sel 4)))),
            iGuard (sel 83) true (put 85) (iOp (put 85) (.v false (oEv (sel 0)))),
            iGuard (sel 83) true (put 86) (iOp (put 86) (.v false (oEv (sel 1)))),
            iGuard (sel 83) true (put 87) (iOp (put 87) (.v false (oInt2 fSub (sel 86) ⟨fun _ => .int .i64 1⟩))),
            iGuard (sel 83) true (put 88) (iOp (put 88) (.v false (oIndexAddrS 2 (sel 85) (sel 87)))),
            iGuard (sel 83) true (put 89) (iOp (put 89) (.v true (oLoadN 2 (sel 88)))),
            iGuard (sel 83) true (put 90) (iOp (put 90) (.v false (oEv (sel 0)))),
            iGuard (sel 83) true (put 91) (iOp (put 91) (.v false (oEv (sel 13)))),
            iGuard (sel 83) true (put 92) (iOp (put 92) (.v false (oIndexAddrS 2 (sel 90) (sel 91)))),
            iGuard (sel 83) true (put 93) (iOp (put 93) (.v true (oLoadN 2 (sel 92)))),
            iGuard (sel 83) true (put 94) (iOp (put 94) (.e (eCall (sel 84) [(sel 89), (sel 93)]))),
            iGuard (sel 83) true (put 95) (iOp (put 95) (.v false (oInt2 fLss (sel 94) ⟨fun _ => .int .i64 0⟩))),
            iGuard (sel 83) true (put 96) (iOp (put 96) (.v false (oNot (sel 95)))),
            iOp (put 97) (.v false (oPick (sel 83) (sel 96) ⟨fun _ => .bool false⟩))]))
          (sCond (sel 97)
            (sSeq (sRegion [iOp (put 98) (.v false (oEv (sel 0))),
               iOp (put 99) (.v false (oEv (sel 1))),
               iOp (put 100) (.v false (oEv (sel 2))),
               iOp (put 101) (.v false (oEv (sel 13))),
               iOp (put 102) (.v false (oEv (sel 4))),
               iOp (put 103) (.e (eCallF 49 [(sel 98), (sel 99), (sel 100), (sel 101), (sel 102)])),
               iOp (put 15) (.v false (oEv (sel 103)))])
             (sSeq (sRegion [iOp (put 104) (.v false (oEv (sel 15))),
                iOp (put 1) (.v false (oEv (sel 104)))])
              (sEx (.exit 1))))
            (sEx .normal)))
         (sSeq (sRegion [iOp (put 106) (.v false (oEv (sel 0))),
            iOp (put 107) (.v false (oEv (sel 1))),
            iOp (put 108) (.v false (oEv (sel 2))),
            iOp (put 109) (.v false (oEv (sel 13))),
            iOp (put 110) (.v false (oEv (sel 4))),
            iOp (put 111) (.e (eCallF 50 [(sel 106), (sel 107), (sel 108), (sel 109), (sel 110)])),
            iOp (put 105) (.v false (oEv (sel 111))),
            iOp (put 112) (.v false (oExtract (sel 105) 0)),
            iOp (put 113) (.v false (oExtract (sel 105) 1)),
            iOp (put 16) (.v false (oEv (sel 112))),
            iOp (put 17) (.v false (oEv (sel 113)))])
          (sSeq (sRegion [iOp (put 114) (.v false (oEv (sel 17))),
             iOp (put 11) (.v false (oEv (sel 114)))])
           (sSeq (sRegion [iOp (put 115) (.v false (oEv (sel 16))),
              iOp (put 116) (.v false (oEv (sel 1))),
              iOp (put 117) (.v false (oInt2 fSub (sel 115) (sel 116))),
              iOp (put 118) (.v false (oEv (sel 2))),
              iOp (put 119) (.v false (oEv (sel 16))),
              iOp (put 120) (.v false (oInt2 fSub (sel 118) (sel 119))),
              iOp (put 18) (.v false (oEv (sel 117))),
              iOp (put 19) (.v false (oEv (sel 120)))])
            (sSeq (sRegion [iOp (put 121) (.v false (oEv (sel 12))),
               iOp (put 122) (.v false (oInt2 fQuo (sel 121) ⟨fun _ => .int .i64 8⟩)),
               iOp (put 20) (.v false (oEv (sel 122)))])
             (sSeq (sRegion [iOp (put 123) (.v false (oEv (sel 18))),
                iOp (put 124) (.v false (oEv (sel 19))),
                iOp (put 125) (.v false (oInt2 fLss (sel 123) (sel 124)))])
              (sCond (sel 125)
                (sSeq (sRegion [iOp (put 126) (.v false (oEv (sel 18))),
                   iOp (put 127) (.v false (oEv (sel 20))),
                   iOp (put 128) (.v false (oInt2 fGeq (sel 126) (sel 127))),
                   iOp (put 10) (.v false (oEv (sel 128)))])
                 (sSeq (sRegion [iOp (put 129) (.v false (oEv (sel 0))),
                    iOp (put 130) (.v false (oEv (sel 1))),
                    iOp (put 131) (.v false (oEv (sel 16))),
                    iOp (put 132) (.v false (oEv (sel 3))),
                    iOp (put 133) (.v false (oEv (sel 4))),
                    iOp (put 134) (.e (eCallF 40 [(sel 129), (sel 130), (sel 131), (sel 132), (sel 133)]))])
                  (sRegion [iOp (put 135) (.v false (oEv (sel 16))),
                    iOp (put 136) (.v false (oInt2 fAdd (sel 135) ⟨fun _ => .int .i64 1⟩)),
                    iOp (put 1) (.v false (oEv (sel 136)))])))
                (sSeq (sRegion [iOp (put 137) (.v false (oEv (sel 19))),
                   iOp (put 138) (.v false (oEv (sel 20))),
                   iOp (put 139) (.v false (oInt2 fGeq (sel 137) (sel 138))),
                   iOp (put 10) (.v false (oEv (sel 139)))])
                 (sSeq (sRegion [iOp (put 140) (.v false (oEv (sel 0))),
                    iOp (put 141) (.v false (oEv (sel 16))),
                    iOp (put 142) (.v false (oInt2 fAdd (sel 141) ⟨fun _ => .int .i64 1⟩)),
                    iOp (put 143) (.v false (oEv (sel 2))),
                    iOp (put 144) (.v false (oEv (sel 3))),
                    iOp (put 145) (.v false (oEv (sel 4))),
                    iOp (put 146) (.e (eCallF 40 [(sel 140), (sel 142), (sel 143), (sel 144), (sel 145)]))])
                  (sRegion [iOp (put 147) (.v false (oEv (sel 16))),
                    iOp (put 2) (.v false (oEv (sel 147)))])))))))))))))))))
/-- slices.pdqsortCmpFunc[bollard/join.number] -/
noncomputable def c40 : CF := ⟨148, [],
  sSeq (sRegion [iOp (put 10) (.v false (oEv ⟨fun _ => .bool true⟩))])
  (sSeq (sRegion [iOp (put 11) (.v false (oEv ⟨fun _ => .bool true⟩))])
   (sBlock 0 (sLoop c40_0)))⟩
theorem d40 : denF Try.prog 40 = some c40 := denF_of (by kernel_rfl)
/-- math/bits.Len -/
noncomputable def c41 : CF := ⟨8, [.tmp (sel 2)],
  sSeq (sRegion [iOp (put 2) (.v false (oEv ⟨fun _ => .int .i64 0⟩))])
  (sSeq (sCond ⟨fun _ => .bool false⟩
     (sSeq (sRegion [iOp (put 3) (.v false (oEv (sel 0))),
        iOp (put 4) (.v false (oConvInt .u32 (sel 3))),
        iOp (put 5) (.e (eCallF 51 [(sel 4)])),
        iOp (put 2) (.v false (oEv (sel 5)))])
      (sEx .ret))
     (sEx .normal))
   (sSeq (sRegion [iOp (put 6) (.v false (oEv (sel 0))),
      iOp (put 7) (.e (eCallF 52 [(sel 6)])),
      iOp (put 2) (.v false (oEv (sel 7)))])
    (sEx .ret)))⟩
theorem d41 : denF Try.prog 41 = some c41 := denF_of (by kernel_rfl)
/-- cmp.isNaN[uint16] -/
noncomputable def c42 : CF := ⟨6, [.tmp (sel 2)],
  sSeq (sRegion [iOp (put 2) (.v false (oEv ⟨fun _ => .bool false⟩))])
  (sSeq (sRegion [iOp (put 3) (.v false (oEv (sel 0))),
     iOp (put 4) (.v false (oEv (sel 0))),
     iOp (put 5) (.v false (oNe (.one 1) (sel 3) (sel 4))),
     iOp (put 2) (.v false (oEv (sel 5)))])
   (sEx .ret))⟩
theorem d42 : denF Try.prog 42 = some c42 := denF_of (by kernel_rfl)
noncomputable def c43_0 : Vm.Sem := sSeq (sSeq (sOne (sRegion [iOp (put 18) (.v false (oEv (sel 9))),
    iOp (put 19) (.v false (oEv (sel 1))),
    iOp (put 20) (.v false (oInt2 fGtr (sel 18) (sel 19))),
    iOp (put 21) (.v false (oEv (sel 20))),
    iGuard (sel 21) true (put 22) (iOp (put 22) (.v false (oEv (sel 3)))),
    iGuard (sel 21) true (put 23) (iOp (put 23) (.v false (oEv (sel 0)))),
    iGuard (sel 21) true (put 24) (iOp (put 24) (.v false (oEv (sel 9)))),
    iGuard (sel 21) true (put 25) (iOp (put 25) (.v false (oIndexAddrS 2 (sel 23) (sel 24)))),
    iGuard (sel 21) true (put 26) (iOp (put 26) (.v true (oLoadN 2 (sel 25)))),
    iGuard (sel 21) true (put 27) (iOp (put 27) (.v false (oEv (sel 0)))),
    iGuard (sel 21) true (put 28) (iOp (put 28) (.v false (oEv (sel 9)))),
    iGuard (sel 21) true (put 29) (iOp (put 29) (.v false (oInt2 fSub (sel 28) ⟨fun _ => .int .i64 1⟩))),
    iGuard (sel 21) true (put 30) (iOp (put 30) (.v false (oIndexAddrS 2 (sel 27) (sel 29)))),
    iGuard (sel 21) true (put 31) (iOp (put 31) (.v true (oLoadN 2 (sel 30)))),
    iGuard (sel 21) true (put 32) (iOp (put 32) (.e (eCall (sel 22) [(sel 26), (sel 31)]))),
    iGuard (sel 21) true (put 33) (iOp (put 33) (.v false (oInt2 fLss (sel 32) ⟨fun _ => .int .i64 0⟩))),
    iOp (put 34) (.v false (oPick (sel 21) (sel 33) ⟨fun _ => .bool false⟩))]))
  (sCond (sel 34)
    (sEx .normal)
    (sEx (.exit 2))))
 (sSeq (sBlock 3 (sRegion [iOp (put 37) (.v false (oEv (sel 0))),
     iOp (put 38) (.v false (oEv (sel 9))),
     iOp (put 39) (.v false (oEv (sel 0))),
     iOp (put 40) (.v false (oEv (sel 9))),
     iOp (put 41) (.v false (oInt2 fSub (sel 40) ⟨fun _ => .int .i64 1⟩)),
     iOp (put 42) (.v false (oEv (sel 0))),
     iOp (put 43) (.v false (oEv (sel 9))),
     iOp (put 44) (.v false (oInt2 fSub (sel 43) ⟨fun _ => .int .i64 1⟩)),
     iOp (put 45) (.v false (oIndexAddrS 2 (sel 42) (sel 44))),
     iOp (put 46) (.v true (oLoadN 2 (sel 45))),
     iOp (put 47) (.v false (oEv (sel 0))),
     iOp (put 48) (.v false (oEv (sel 9))),
     iOp (put 49) (.v false (oIndexAddrS 2 (sel 47) (sel 48))),
     iOp (put 50) (.v true (oLoadN 2 (sel 49))),
     iOp (put 51) (.v false (oIndexAddrS 2 (sel 37) (sel 38))),
     iOp ⟨fun _ a => a⟩ (.e (eStore 2 (sel 51) (sel 46))),
     iOp (put 52) (.v false (oIndexAddrS 2 (sel 39) (sel 41))),
     iOp ⟨fun _ a => a⟩ (.e (eStore 2 (sel 52) (sel 50)))]))
  (sRegion [iOp (put 35) (.v false (oEv (sel 9))),
    iOp (put 36) (.v false (oInt2 fSub (sel 35) ⟨fun _ => .int .i64 1⟩)),
    iOp (put 9) (.v false (oEv (sel 36)))]))
noncomputable def c43_1 : Vm.Sem := sSeq (sSeq (sRegion [iOp (put 12) (.v false (oEv (sel 8))),
    iOp (put 13) (.v false (oEv (sel 2))),
    iOp (put 14) (.v false (oInt2 fLss (sel 12) (sel 13)))])
  (sCond (sel 14)
    (sEx .normal)
    (sEx (.exit 0))))
 (sSeq (sBlock 1 (sSeq (sRegion [iOp (put 17) (.v false (oEv (sel 8))),
      iOp (put 9) (.v false (oEv (sel 17)))])
    (sBlock 2 (sLoop c43_0))))
  (sRegion [iOp (put 15) (.v false (oEv (sel 8))),
    iOp (put 16) (.v false (oInt2 fAdd (sel 15) ⟨fun _ => .int .i64 1⟩)),
    iOp (put 8) (.v false (oEv (sel 16)))]))
/-- slices.insertionSortCmpFunc[bollard/join.number] -/
noncomputable def c43 : CF := ⟨53, [],
  sSeq (sRegion [iOp (put 10) (.v false (oEv (sel 1))),
    iOp (put 11) (.v false (oInt2 fAdd (sel 10) ⟨fun _ => .int .i64 1⟩)),
    iOp (put 8) (.v false (oEv (sel 11)))])
  (sBlock 0 (sLoop c43_1))⟩
theorem d43 : denF Try.prog 43 = some c43 := denF_of (by kernel_rfl)
noncomputable def c44_0 : Vm.Sem := sSeq (sSeq (sRegion [iOp (put 20) (.v false (oEv (sel 11))),
    iOp (put 21) (.v false (oInt2 fGeq (sel 20) ⟨fun _ => .int .i64 0⟩))])
  (sCond (sel 21)
    (sEx .normal)
    (sEx (.exit 0))))
 (sSeq (sBlock 1 (sRegion [iOp (put 24) (.v false (oEv (sel 0))),
     iOp (put 25) (.v false (oEv (sel 11))),
     iOp (put 26) (.v false (oEv (sel 10))),
     iOp (put 27) (.v false (oEv (sel 8))),
     iOp (put 28) (.v false (oEv (sel 3))),
     iOp (put 29) (.e (eCallF 53 [(sel 24), (sel 25), (sel 26), (sel 27), (sel 28)]))]))
  (sRegion [iOp (put 22) (.v false (oEv (sel 11))),
    iOp (put 23) (.v false (oInt2 fSub (sel 22) ⟨fun _ => .int .i64 1⟩)),
    iOp (put 11) (.v false (oEv (sel 23)))]))
noncomputable def c44_1 : Vm.Sem := sSeq (sSeq (sRegion [iOp (put 32) (.v false (oEv (sel 12))),
    iOp (put 33) (.v false (oInt2 fGeq (sel 32) ⟨fun _ => .int .i64 0⟩))])
  (sCond (sel 33)
    (sEx .normal)
    (sEx (.exit 2))))
 (sSeq (sBlock 3 (sSeq (sRegion [iOp (put 36) (.v false (oEv (sel 0))),
      iOp (put 37) (.v false (oEv (sel 8))),
      iOp (put 38) (.v false (oEv (sel 0))),
      iOp (put 39) (.v false (oEv (sel 8))),
      iOp (put 40) (.v false (oEv (sel 12))),
      iOp (put 41) (.v false (oInt2 fAdd (sel 39) (sel 40))),
      iOp (put 42) (.v false (oEv (sel 0))),
      iOp (put 43) (.v false (oEv (sel 8))),
      iOp (put 44) (.v false (oEv (sel 12))),
      iOp (put 45) (.v false (oInt2 fAdd (sel 43) (sel 44))),
      iOp (put 46) (.v false (oIndexAddrS 2 (sel 42) (sel 45))),
      iOp (put 47) (.v true (oLoadN 2 (sel 46))),
      iOp (put 48) (.v false (oEv (sel 0))),
      iOp (put 49) (.v false (oEv (sel 8))),
      iOp (put 50) (.v false (oIndexAddrS 2 (sel 48) (sel 49))),
      iOp (put 51) (.v true (oLoadN 2 (sel 50))),
      iOp (put 52) (.v false (oIndexAddrS 2 (sel 36) (sel 37))),
      iOp ⟨fun _ a => a⟩ (.e (eStore 2 (sel 52) (sel 47))),
      iOp (put 53) (.v false (oIndexAddrS 2 (sel 38) (sel 41))),
      iOp ⟨fun _ a => a⟩ (.e (eStore 2 (sel 53) (sel 51)))])
    (sRegion [iOp (put 54) (.v false (oEv (sel 0))),
      iOp (put 55) (.v false (oEv (sel 9))),
      iOp (put 56) (.v false (oEv (sel 12))),
      iOp (put 57) (.v false (oEv (sel 8))),
      iOp (put 58) (.v false (oEv (sel 3))),
      iOp (put 59) (.e (eCallF 53 [(sel 54), (sel 55), (sel 56), (sel 57), (sel 58)]))])))
  (sRegion [iOp (put 34) (.v false (oEv (sel 12))),
    iOp (put 35) (.v false (oInt2 fSub (sel 34) ⟨fun _ => .int .i64 1⟩)),
    iOp (put 12) (.v false (oEv (sel 35)))]))
/-- slices.heapSortCmpFunc[bollard/join.number] -/
noncomputable def c44 : CF := ⟨60, [],
  sSeq (sRegion [iOp (put 13) (.v false (oEv (sel 1))),
    iOp (put 8) (.v false (oEv (sel 13)))])
  (sSeq (sRegion [iOp (put 9) (.v false (oEv ⟨fun _ => .int .i64 0⟩))])
   (sSeq (sRegion [iOp (put 14) (.v false (oEv (sel 2))),
      iOp (put 15) (.v false (oEv (sel 1))),
      iOp (put 16) (.v false (oInt2 fSub (sel 14) (sel 15))),
      iOp (put 10) (.v false (oEv (sel 16)))])
    (sSeq (sSeq (sRegion [iOp (put 17) (.v false (oEv (sel 10))),
        iOp (put 18) (.v false (oInt2 fSub (sel 17) ⟨fun _ => .int .i64 1⟩)),
        iOp (put 19) (.v false (oInt2 fQuo (sel 18) ⟨fun _ => .int .i64 2⟩)),
        iOp (put 11) (.v false (oEv (sel 19)))])
      (sBlock 0 (sLoop c44_0)))
     (sSeq (sRegion [iOp (put 30) (.v false (oEv (sel 10))),
        iOp (put 31) (.v false (oInt2 fSub (sel 30) ⟨fun _ => .int .i64 1⟩)),
        iOp (put 12) (.v false (oEv (sel 31)))])
      (sBlock 2 (sLoop c44_1))))))⟩
theorem d44 : denF Try.prog 44 = some c44 := denF_of (by kernel_rfl)
noncomputable def c45_0 : Vm.Sem := sSeq (sSeq (sRegion [iOp (put 28) (.v false (oEv (sel 11))),
    iOp (put 29) (.v false (oEv (sel 1))),
    iOp (put 30) (.v false (oEv (sel 8))),
    iOp (put 31) (.v false (oInt2 fQuo (sel 30) ⟨fun _ => .int .i64 4⟩)),
    iOp (put 32) (.v false (oInt2 fMul (sel 31) ⟨fun _ => .int .i64 2⟩)),
    iOp (put 33) (.v false (oInt2 fAdd (sel 29) (sel 32))),
    iOp (put 34) (.v false (oInt2 fAdd (sel 33) ⟨fun _ => .int .i64 1⟩)),
    iOp (put 35) (.v false (oInt2 fLeq (sel 28) (sel 34)))])
  (sCond (sel 35)
    (sEx .normal)
    (sEx (.exit 0))))
 (sSeq (sBlock 1 (sSeq (sRegion [iOp (put 38) (.e (eCallF 55 [(sel 9)])),
      iOp (put 39) (.v false (oEv (sel 10))),
      iOp (put 40) (.v false (oInt2 fSub (sel 39) ⟨fun _ => .int .u64 1⟩)),
      iOp (put 41) (.v false (oInt2 fAnd (sel 38) (sel 40))),
      iOp (put 42) (.v false (oConvInt .i64 (sel 41))),
      iOp (put 12) (.v false (oEv (sel 42)))])
    (sSeq (sSeq (sRegion [iOp (put 43) (.v false (oEv (sel 12))),
        iOp (put 44) (.v false (oEv (sel 8))),
        iOp (put 45) (.v false (oInt2 fGeq (sel 43) (sel 44)))])
      (sCond (sel 45)
        (sRegion [iOp (put 46) (.v false (oEv (sel 12))),
          iOp (put 47) (.v false (oEv (sel 8))),
          iOp (put 48) (.v false (oInt2 fSub (sel 46) (sel 47))),
          iOp (put 12) (.v false (oEv (sel 48)))])
        (sEx .normal)))
     (sRegion [iOp (put 49) (.v false (oEv (sel 0))),
       iOp (put 50) (.v false (oEv (sel 11))),
       iOp (put 51) (.v false (oEv (sel 0))),
       iOp (put 52) (.v false (oEv (sel 1))),
       iOp (put 53) (.v false (oEv (sel 12))),
       iOp (put 54) (.v false (oInt2 fAdd (sel 52) (sel 53))),
       iOp (put 55) (.v false (oEv (sel 0))),
       iOp (put 56) (.v false (oEv (sel 1))),
       iOp (put 57) (.v false (oEv (sel 12))),
       iOp (put 58) (.v false (oInt2 fAdd (sel 56) (sel 57))),
       iOp (put 59) (.v false (oIndexAddrS 2 (sel 55) (sel 58))),
       iOp (put 60) (.v true (oLoadN 2 (sel 59))),
       iOp (put 61) (.v false (oEv (sel 0))),
       iOp (put 62) (.v false (oEv (sel 11))),
       iOp (put 63) (.v false (oIndexAddrS 2 (sel 61) (sel 62))),
       iOp (put 64) (.v true (oLoadN 2 (sel 63))),
       iOp (put 65) (.v false (oIndexAddrS 2 (sel 49) (sel 50))),
       iOp ⟨fun _ a => a⟩ (.e (eStore 2 (sel 65) (sel 60))),
       iOp (put 66) (.v false (oIndexAddrS 2 (sel 51) (sel 54))),
       iOp ⟨fun _ a => a⟩ (.e (eStore 2 (sel 66) (sel 64)))]))))
  (sRegion [iOp (put 36) (.v false (oEv (sel 11))),
    iOp (put 37) (.v false (oInt2 fAdd (sel 36) ⟨fun _ => .int .i64 1⟩)),
    iOp (put 11) (.v false (oEv (sel 37)))]))
/-- slices.breakPatternsCmpFunc[bollard/join.number] -/
noncomputable def c45 : CF := ⟨67, [],
  sSeq (sRegion [iOp (put 13) (.v false (oEv (sel 2))),
    iOp (put 14) (.v false (oEv (sel 1))),
    iOp (put 15) (.v false (oInt2 fSub (sel 13) (sel 14))),
    iOp (put 8) (.v false (oEv (sel 15)))])
  (sSeq (sRegion [iOp (put 16) (.v false (oEv (sel 8))),
     iOp (put 17) (.v false (oInt2 fGeq (sel 16) ⟨fun _ => .int .i64 8⟩))])
   (sCond (sel 17)
     (sSeq (sRegion [iOp (put 18) (.v false (oEv (sel 8))),
        iOp (put 19) (.v false (oConvInt .u64 (sel 18))),
        iOp (put 9) (.a (aAlloc 102 [.int .u64 0])),
        iOp ⟨fun _ a => a⟩ (.e (eStore 1 (sel 9) (sel 19)))])
      (sSeq (sRegion [iOp (put 20) (.v false (oEv (sel 8))),
         iOp (put 21) (.e (eCallF 54 [(sel 20)])),
         iOp (put 10) (.v false (oEv (sel 21)))])
       (sSeq (sRegion [iOp (put 22) (.v false (oEv (sel 1))),
          iOp (put 23) (.v false (oEv (sel 8))),
          iOp (put 24) (.v false (oInt2 fQuo (sel 23) ⟨fun _ => .int .i64 4⟩)),
          iOp (put 25) (.v false (oInt2 fMul (sel 24) ⟨fun _ => .int .i64 2⟩)),
          iOp (put 26) (.v false (oInt2 fAdd (sel 22) (sel 25))),
          iOp (put 27) (.v false (oInt2 fSub (sel 26) ⟨fun _ => .int .i64 1⟩)),
          iOp (put 11) (.v false (oEv (sel 27)))])
        (sBlock 0 (sLoop c45_0)))))
     (sEx .normal)))⟩
theorem d45 : denF Try.prog 45 = some c45 := denF_of (by kernel_rfl)
/-- slices.choosePivotCmpFunc[bollard/join.number] -/
noncomputable def c46 : CF := ⟨63, [.tmp (sel 8), .tmp (sel 9)],
  sSeq (sRegion [iOp (put 8) (.v false (oEv ⟨fun _ => .int .i64 0⟩)),
    iOp (put 9) (.v false (oEv ⟨fun _ => .int .i64 0⟩))])
  (sSeq (sRegion [iOp (put 15) (.v false (oEv (sel 2))),
     iOp (put 16) (.v false (oEv (sel 1))),
     iOp (put 17) (.v false (oInt2 fSub (sel 15) (sel 16))),
     iOp (put 10) (.v false (oEv (sel 17)))])
   (sSeq (sRegion [iOp (put 11) (.a (aAlloc 3 [.int .i64 0]))])
    (sSeq (sRegion [iOp (put 18) (.v false (oEv (sel 1))),
       iOp (put 19) (.v false (oEv (sel 10))),
       iOp (put 20) (.v false (oInt2 fQuo (sel 19) ⟨fun _ => .int .i64 4⟩)),
       iOp (put 21) (.v false (oInt2 fMul (sel 20) ⟨fun _ => .int .i64 1⟩)),
       iOp (put 22) (.v false (oInt2 fAdd (sel 18) (sel 21))),
       iOp (put 12) (.v false (oEv (sel 22)))])
     (sSeq (sRegion [iOp (put 23) (.v false (oEv (sel 1))),
        iOp (put 24) (.v false (oEv (sel 10))),
        iOp (put 25) (.v false (oInt2 fQuo (sel 24) ⟨fun _ => .int .i64 4⟩)),
        iOp (put 26) (.v false (oInt2 fMul (sel 25) ⟨fun _ => .int .i64 2⟩)),
        iOp (put 27) (.v false (oInt2 fAdd (sel 23) (sel 26))),
        iOp (put 13) (.v false (oEv (sel 27)))])
      (sSeq (sRegion [iOp (put 28) (.v false (oEv (sel 1))),
         iOp (put 29) (.v false (oEv (sel 10))),
         iOp (put 30) (.v false (oInt2 fQuo (sel 29) ⟨fun _ => .int .i64 4⟩)),
         iOp (put 31) (.v false (oInt2 fMul (sel 30) ⟨fun _ => .int .i64 3⟩)),
         iOp (put 32) (.v false (oInt2 fAdd (sel 28) (sel 31))),
         iOp (put 14) (.v false (oEv (sel 32)))])
       (sSeq (sSeq (sRegion [iOp (put 33) (.v false (oEv (sel 10))),
           iOp (put 34) (.v false (oInt2 fGeq (sel 33) ⟨fun _ => .int .i64 8⟩))])
         (sCond (sel 34)
           (sSeq (sSeq (sRegion [iOp (put 35) (.v false (oEv (sel 10))),
               iOp (put 36) (.v false (oInt2 fGeq (sel 35) ⟨fun _ => .int .i64 50⟩))])
             (sCond (sel 36)
               (sSeq (sRegion [iOp (put 37) (.v false (oEv (sel 0))),
                  iOp (put 38) (.v false (oEv (sel 12))),
                  iOp (put 39) (.v false (oEv (sel 3))),
                  iOp (put 40) (.e (eCallF 56 [(sel 37), (sel 38), (sel 11), (sel 39)])),
                  iOp (put 12) (.v false (oEv (sel 40)))])
                (sSeq (sRegion [iOp (put 41) (.v false (oEv (sel 0))),
                   iOp (put 42) (.v false (oEv (sel 13))),
                   iOp (put 43) (.v false (oEv (sel 3))),
                   iOp (put 44) (.e (eCallF 56 [(sel 41), (sel 42), (sel 11), (sel 43)])),
                   iOp (put 13) (.v false (oEv (sel 44)))])
                 (sRegion [iOp (put 45) (.v false (oEv (sel 0))),
                   iOp (put 46) (.v false (oEv (sel 14))),
                   iOp (put 47) (.v false (oEv (sel 3))),
                   iOp (put 48) (.e (eCallF 56 [(sel 45), (sel 46), (sel 11), (sel 47)])),
                   iOp (put 14) (.v false (oEv (sel 48)))])))
               (sEx .normal)))
            (sRegion [iOp (put 49) (.v false (oEv (sel 0))),
              iOp (put 50) (.v false (oEv (sel 12))),
              iOp (put 51) (.v false (oEv (sel 13))),
              iOp (put 52) (.v false (oEv (sel 14))),
              iOp (put 53) (.v false (oEv (sel 3))),
              iOp (put 54) (.e (eCallF 57 [(sel 49), (sel 50), (sel 51), (sel 52), (sel 11), (sel 53)])),
              iOp (put 13) (.v false (oEv (sel 54)))]))
           (sEx .normal)))
        (sSeq (sRegion [iOp (put 55) (.v true (oLoad1 (sel 11)))])
         (sBlock 0 (sSeq (sRegion [iOp (put 58) (.v false (oEq (.one 1) (sel 55) ⟨fun _ => .int .i64 0⟩)),
             iOp (put 57) (.v false (oEv (sel 58)))])
           (sCond (sel 57)
             (sSeq (sRegion [iOp (put 59) (.v false (oEv (sel 13))),
                iOp (put 8) (.v false (oEv (sel 59))),
                iOp (put 9) (.v false (oEv ⟨fun _ => .int .i64 1⟩))])
              (sEx .ret))
             (sSeq (sRegion [iOp (put 61) (.v false (oEq (.one 1) (sel 55) ⟨fun _ => .int .i64 12⟩)),
                iOp (put 60) (.v false (oEv (sel 61)))])
              (sCond (sel 60)
                (sSeq (sRegion [iOp (put 62) (.v false (oEv (sel 13))),
                   iOp (put 8) (.v false (oEv (sel 62))),
                   iOp (put 9) (.v false (oEv ⟨fun _ => .int .i64 2⟩))])
                 (sEx .ret))
                (sSeq (sRegion [iOp (put 56) (.v false (oEv (sel 13))),
                   iOp (put 8) (.v false (oEv (sel 56))),
                   iOp (put 9) (.v false (oEv ⟨fun _ => .int .i64 0⟩))])
                 (sEx .ret))))))))))))))⟩
theorem d46 : denF Try.prog 46 = some c46 := denF_of (by kernel_rfl)
noncomputable def c47_0 : Vm.Sem := sSeq (sSeq (sRegion [iOp (put 13) (.v false (oEv (sel 8))),
    iOp (put 14) (.v false (oEv (sel 9))),
    iOp (put 15) (.v false (oInt2 fLss (sel 13) (sel 14)))])
  (sCond (sel 15)
    (sEx .normal)
    (sEx (.exit 0))))
 (sBlock 1 (sSeq (sRegion [iOp (put 16) (.v false (oEv (sel 0))),
     iOp (put 17) (.v false (oEv (sel 8))),
     iOp (put 18) (.v false (oEv (sel 0))),
     iOp (put 19) (.v false (oEv (sel 9))),
     iOp (put 20) (.v false (oEv (sel 0))),
     iOp (put 21) (.v false (oEv (sel 9))),
     iOp (put 22) (.v false (oIndexAddrS 2 (sel 20) (sel 21))),
     iOp (put 23) (.v true (oLoadN 2 (sel 22))),
     iOp (put 24) (.v false (oEv (sel 0))),
     iOp (put 25) (.v false (oEv (sel 8))),
     iOp (put 26) (.v false (oIndexAddrS 2 (sel 24) (sel 25))),
     iOp (put 27) (.v true (oLoadN 2 (sel 26))),
     iOp (put 28) (.v false (oIndexAddrS 2 (sel 16) (sel 17))),
     iOp ⟨fun _ a => a⟩ (.e (eStore 2 (sel 28) (sel 23))),
     iOp (put 29) (.v false (oIndexAddrS 2 (sel 18) (sel 19))),
     iOp ⟨fun _ a => a⟩ (.e (eStore 2 (sel 29) (sel 27)))])
   (sSeq (sRegion [iOp (put 30) (.v false (oEv (sel 8))),
      iOp (put 31) (.v false (oInt2 fAdd (sel 30) ⟨fun _ => .int .i64 1⟩)),
      iOp (put 8) (.v false (oEv (sel 31)))])
    (sRegion [iOp (put 32) (.v false (oEv (sel 9))),
      iOp (put 33) (.v false (oInt2 fSub (sel 32) ⟨fun _ => .int .i64 1⟩)),
      iOp (put 9) (.v false (oEv (sel 33)))]))))
/-- slices.reverseRangeCmpFunc[bollard/join.number] -/
noncomputable def c47 : CF := ⟨34, [],
  sSeq (sRegion [iOp (put 10) (.v false (oEv (sel 1))),
    iOp (put 8) (.v false (oEv (sel 10)))])
  (sSeq (sRegion [iOp (put 11) (.v false (oEv (sel 2))),
     iOp (put 12) (.v false (oInt2 fSub (sel 11) ⟨fun _ => .int .i64 1⟩)),
     iOp (put 9) (.v false (oEv (sel 12)))])
   (sBlock 0 (sLoop c47_0)))⟩
theorem d47 : denF Try.prog 47 = some c47 := denF_of (by kernel_rfl)
noncomputable def c48_0 : Vm.Sem := sSeq (sSeq (sOne (sRegion [iOp (put 19) (.v false (oEv (sel 9))),
    iOp (put 20) (.v false (oEv (sel 2))),
    iOp (put 21) (.v false (oInt2 fLss (sel 19) (sel 20))),
    iOp (put 22) (.v false (oEv (sel 21))),
    iGuard (sel 22) true (put 23) (iOp (put 23) (.v false (oEv (sel 3)))),
    iGuard (sel 22) true (put 24) (iOp (put 24) (.v false (oEv (sel 0)))),
    iGuard (sel 22) true (put 25) (iOp (put 25) (.v false (oEv (sel 9)))),
    iGuard (sel 22) true (put 26) (iOp (put 26) (.v false (oIndexAddrS 2 (sel 24) (sel 25)))),
    iGuard (sel 22) true (put 27) (iOp (put 27) (.v true (oLoadN 2 (sel 26)))),
    iGuard (sel 22) true (put 28) (iOp (put 28) (.v false (oEv (sel 0)))),
    iGuard (sel 22) true (put 29) (iOp (put 29) (.v false (oEv (sel 9)))),
    iGuard (sel 22) true (put 30) (iOp (put 30) (.v false (oInt2 fSub (sel 29) ⟨fun _ => .int .i64 1⟩))),
    iGuard (sel 22) true (put 31) (iOp (put 31) (.v false (oIndexAddrS 2 (sel 28) (sel 30)))),
    iGuard (sel 22) true (put 32) (iOp (put 32) (.v true (oLoadN 2 (sel 31)))),
    iGuard (sel 22) true (put 33) (iOp (put 33) (.e (eCall (sel 23) [(sel 27), (sel 32)]))),
    iGuard (sel 22) true (put 34) (iOp (put 34) (.v false (oInt2 fLss (sel 33) ⟨fun _ => .int .i64 0⟩))),
    iGuard (sel 22) true (put 35) (iOp (put 35) (.v false (oNot (sel 34)))),
    iOp (put 36) (.v false (oPick (sel 22) (sel 35) ⟨fun _ => .bool false⟩))]))
  (sCond (sel 36)
    (sEx .normal)
    (sEx (.exit 2))))
 (sBlock 3 (sRegion [iOp (put 37) (.v false (oEv (sel 9))),
    iOp (put 38) (.v false (oInt2 fAdd (sel 37) ⟨fun _ => .int .i64 1⟩)),
    iOp (put 9) (.v false (oEv (sel 38)))]))
noncomputable def c48_1 : Vm.Sem := sSeq (sSeq (sRegion [iOp (put 68) (.v false (oEv (sel 11))),
    iOp (put 69) (.v false (oInt2 fGeq (sel 68) ⟨fun _ => .int .i64 1⟩))])
  (sCond (sel 69)
    (sEx .normal)
    (sEx (.exit 4))))
 (sSeq (sBlock 5 (sSeq (sSeq (sOne (sRegion [iOp (put 72) (.v false (oEv (sel 3))),
       iOp (put 73) (.v false (oEv (sel 0))),
       iOp (put 74) (.v false (oEv (sel 11))),
       iOp (put 75) (.v false (oIndexAddrS 2 (sel 73) (sel 74))),
       iOp (put 76) (.v true (oLoadN 2 (sel 75))),
       iOp (put 77) (.v false (oEv (sel 0))),
       iOp (put 78) (.v false (oEv (sel 11))),
       iOp (put 79) (.v false (oInt2 fSub (sel 78) ⟨fun _ => .int .i64 1⟩)),
       iOp (put 80) (.v false (oIndexAddrS 2 (sel 77) (sel 79))),
       iOp (put 81) (.v true (oLoadN 2 (sel 80))),
       iOp (put 82) (.e (eCall (sel 72) [(sel 76), (sel 81)])),
       iOp (put 83) (.v false (oInt2 fLss (sel 82) ⟨fun _ => .int .i64 0⟩)),
       iOp (put 84) (.v false (oNot (sel 83)))]))
     (sCond (sel 84)
       (sEx (.exit 4))
       (sEx .normal)))
    (sRegion [iOp (put 85) (.v false (oEv (sel 0))),
      iOp (put 86) (.v false (oEv (sel 11))),
      iOp (put 87) (.v false (oEv (sel 0))),
      iOp (put 88) (.v false (oEv (sel 11))),
      iOp (put 89) (.v false (oInt2 fSub (sel 88) ⟨fun _ => .int .i64 1⟩)),
      iOp (put 90) (.v false (oEv (sel 0))),
      iOp (put 91) (.v false (oEv (sel 11))),
      iOp (put 92) (.v false (oInt2 fSub (sel 91) ⟨fun _ => .int .i64 1⟩)),
      iOp (put 93) (.v false (oIndexAddrS 2 (sel 90) (sel 92))),
      iOp (put 94) (.v true (oLoadN 2 (sel 93))),
      iOp (put 95) (.v false (oEv (sel 0))),
      iOp (put 96) (.v false (oEv (sel 11))),
      iOp (put 97) (.v false (oIndexAddrS 2 (sel 95) (sel 96))),
      iOp (put 98) (.v true (oLoadN 2 (sel 97))),
      iOp (put 99) (.v false (oIndexAddrS 2 (sel 85) (sel 86))),
      iOp ⟨fun _ a => a⟩ (.e (eStore 2 (sel 99) (sel 94))),
      iOp (put 100) (.v false (oIndexAddrS 2 (sel 87) (sel 89))),
      iOp ⟨fun _ a => a⟩ (.e (eStore 2 (sel 100) (sel 98)))])))
  (sRegion [iOp (put 70) (.v false (oEv (sel 11))),
    iOp (put 71) (.v false (oInt2 fSub (sel 70) ⟨fun _ => .int .i64 1⟩)),
    iOp (put 11) (.v false (oEv (sel 71)))]))
noncomputable def c48_2 : Vm.Sem := sSeq (sSeq (sRegion [iOp (put 107) (.v false (oEv (sel 12))),
    iOp (put 108) (.v false (oEv (sel 2))),
    iOp (put 109) (.v false (oInt2 fLss (sel 107) (sel 108)))])
  (sCond (sel 109)
    (sEx .normal)
    (sEx (.exit 6))))
 (sSeq (sBlock 7 (sSeq (sSeq (sOne (sRegion [iOp (put 112) (.v false (oEv (sel 3))),
       iOp (put 113) (.v false (oEv (sel 0))),
       iOp (put 114) (.v false (oEv (sel 12))),
       iOp (put 115) (.v false (oIndexAddrS 2 (sel 113) (sel 114))),
       iOp (put 116) (.v true (oLoadN 2 (sel 115))),
       iOp (put 117) (.v false (oEv (sel 0))),
       iOp (put 118) (.v false (oEv (sel 12))),
       iOp (put 119) (.v false (oInt2 fSub (sel 118) ⟨fun _ => .int .i64 1⟩)),
       iOp (put 120) (.v false (oIndexAddrS 2 (sel 117) (sel 119))),
       iOp (put 121) (.v true (oLoadN 2 (sel 120))),
       iOp (put 122) (.e (eCall (sel 112) [(sel 116), (sel 121)])),
       iOp (put 123) (.v false (oInt2 fLss (sel 122) ⟨fun _ => .int .i64 0⟩)),
       iOp (put 124) (.v false (oNot (sel 123)))]))
     (sCond (sel 124)
       (sEx (.exit 6))
       (sEx .normal)))
    (sRegion [iOp (put 125) (.v false (oEv (sel 0))),
      iOp (put 126) (.v false (oEv (sel 12))),
      iOp (put 127) (.v false (oEv (sel 0))),
      iOp (put 128) (.v false (oEv (sel 12))),
      iOp (put 129) (.v false (oInt2 fSub (sel 128) ⟨fun _ => .int .i64 1⟩)),
      iOp (put 130) (.v false (oEv (sel 0))),
      iOp (put 131) (.v false (oEv (sel 12))),
      iOp (put 132) (.v false (oInt2 fSub (sel 131) ⟨fun _ => .int .i64 1⟩)),
      iOp (put 133) (.v false (oIndexAddrS 2 (sel 130) (sel 132))),
      iOp (put 134) (.v true (oLoadN 2 (sel 133))),
      iOp (put 135) (.v false (oEv (sel 0))),
      iOp (put 136) (.v false (oEv (sel 12))),
      iOp (put 137) (.v false (oIndexAddrS 2 (sel 135) (sel 136))),
      iOp (put 138) (.v true (oLoadN 2 (sel 137))),
      iOp (put 139) (.v false (oIndexAddrS 2 (sel 125) (sel 126))),
      iOp ⟨fun _ a => a⟩ (.e (eStore 2 (sel 139) (sel 134))),
      iOp (put 140) (.v false (oIndexAddrS 2 (sel 127) (sel 129))),
      iOp ⟨fun _ a => a⟩ (.e (eStore 2 (sel 140) (sel 138)))])))
  (sRegion [iOp (put 110) (.v false (oEv (sel 12))),
    iOp (put 111) (.v false (oInt2 fAdd (sel 110) ⟨fun _ => .int .i64 1⟩)),
    iOp (put 12) (.v false (oEv (sel 111)))]))
noncomputable def c48_3 : Vm.Sem := sSeq (sSeq (sRegion [iOp (put 15) (.v false (oEv (sel 10))),
    iOp (put 16) (.v false (oInt2 fLss (sel 15) ⟨fun _ => .int .i64 5⟩))])
  (sCond (sel 16)
    (sEx .normal)
    (sEx (.exit 0))))
 (sSeq (sBlock 1 (sSeq (sBlock 2 (sLoop c48_0))
    (sSeq (sSeq (sRegion [iOp (put 39) (.v false (oEv (sel 9))),
        iOp (put 40) (.v false (oEv (sel 2))),
        iOp (put 41) (.v false (oEq (.one 1) (sel 39) (sel 40)))])
      (sCond (sel 41)
        (sSeq (sRegion [iOp (put 8) (.v false (oEv ⟨fun _ => .bool true⟩))])
         (sEx .ret))
        (sEx .normal)))
     (sSeq (sSeq (sRegion [iOp (put 42) (.v false (oEv (sel 2))),
         iOp (put 43) (.v false (oEv (sel 1))),
         iOp (put 44) (.v false (oInt2 fSub (sel 42) (sel 43))),
         iOp (put 45) (.v false (oInt2 fLss (sel 44) ⟨fun _ => .int .i64 50⟩))])
       (sCond (sel 45)
         (sSeq (sRegion [iOp (put 8) (.v false (oEv ⟨fun _ => .bool false⟩))])
          (sEx .ret))
         (sEx .normal)))
      (sSeq (sRegion [iOp (put 46) (.v false (oEv (sel 0))),
         iOp (put 47) (.v false (oEv (sel 9))),
         iOp (put 48) (.v false (oEv (sel 0))),
         iOp (put 49) (.v false (oEv (sel 9))),
         iOp (put 50) (.v false (oInt2 fSub (sel 49) ⟨fun _ => .int .i64 1⟩)),
         iOp (put 51) (.v false (oEv (sel 0))),
         iOp (put 52) (.v false (oEv (sel 9))),
         iOp (put 53) (.v false (oInt2 fSub (sel 52) ⟨fun _ => .int .i64 1⟩)),
         iOp (put 54) (.v false (oIndexAddrS 2 (sel 51) (sel 53))),
         iOp (put 55) (.v true (oLoadN 2 (sel 54))),
         iOp (put 56) (.v false (oEv (sel 0))),
         iOp (put 57) (.v false (oEv (sel 9))),
         iOp (put 58) (.v false (oIndexAddrS 2 (sel 56) (sel 57))),
         iOp (put 59) (.v true (oLoadN 2 (sel 58))),
         iOp (put 60) (.v false (oIndexAddrS 2 (sel 46) (sel 47))),
         iOp ⟨fun _ a => a⟩ (.e (eStore 2 (sel 60) (sel 55))),
         iOp (put 61) (.v false (oIndexAddrS 2 (sel 48) (sel 50))),
         iOp ⟨fun _ a => a⟩ (.e (eStore 2 (sel 61) (sel 59)))])
       (sSeq (sSeq (sRegion [iOp (put 62) (.v false (oEv (sel 9))),
           iOp (put 63) (.v false (oEv (sel 1))),
           iOp (put 64) (.v false (oInt2 fSub (sel 62) (sel 63))),
           iOp (put 65) (.v false (oInt2 fGeq (sel 64) ⟨fun _ => .int .i64 2⟩))])
         (sCond (sel 65)
           (sSeq (sRegion [iOp (put 66) (.v false (oEv (sel 9))),
              iOp (put 67) (.v false (oInt2 fSub (sel 66) ⟨fun _ => .int .i64 1⟩)),
              iOp (put 11) (.v false (oEv (sel 67)))])
            (sBlock 4 (sLoop c48_1)))
           (sEx .normal)))
        (sSeq (sRegion [iOp (put 101) (.v false (oEv (sel 2))),
           iOp (put 102) (.v false (oEv (sel 9))),
           iOp (put 103) (.v false (oInt2 fSub (sel 101) (sel 102))),
           iOp (put 104) (.v false (oInt2 fGeq (sel 103) ⟨fun _ => .int .i64 2⟩))])
         (sCond (sel 104)
           (sSeq (sRegion [iOp (put 105) (.v false (oEv (sel 9))),
              iOp (put 106) (.v false (oInt2 fAdd (sel 105) ⟨fun _ => .int .i64 1⟩)),
              iOp (put 12) (.v false (oEv (sel 106)))])
            (sBlock 6 (sLoop c48_2)))
           (sEx .normal)))))))))
  (sRegion [iOp (put 17) (.v false (oEv (sel 10))),
    iOp (put 18) (.v false (oInt2 fAdd (sel 17) ⟨fun _ => .int .i64 1⟩)),
    iOp (put 10) (.v false (oEv (sel 18)))]))
/-- slices.partialInsertionSortCmpFunc[bollard/join.number] -/
noncomputable def c48 : CF := ⟨141, [.tmp (sel 8)],
  sSeq (sRegion [iOp (put 8) (.v false (oEv ⟨fun _ => .bool false⟩))])
  (sSeq (sRegion [iOp (put 13) (.v false (oEv (sel 1))),
     iOp (put 14) (.v false (oInt2 fAdd (sel 13) ⟨fun _ => .int .i64 1⟩)),
     iOp (put 9) (.v false (oEv (sel 14)))])
   (sSeq (sSeq (sRegion [iOp (put 10) (.v false (oEv ⟨fun _ => .int .i64 0⟩))])
     (sBlock 0 (sLoop c48_3)))
    (sSeq (sRegion [iOp (put 8) (.v false (oEv ⟨fun _ => .bool false⟩))])
     (sEx .ret))))⟩
theorem d48 : denF Try.prog 48 = some c48 := denF_of (by kernel_rfl)
noncomputable def c49_0 : Vm.Sem := sSeq (sSeq (sOne (sRegion [iOp (put 31) (.v false (oEv (sel 11))),
    iOp (put 32) (.v false (oEv (sel 12))),
    iOp (put 33) (.v false (oInt2 fLeq (sel 31) (sel 32))),
    iOp (put 34) (.v false (oEv (sel 33))),
    iGuard (sel 34) true (put 35) (iOp (put 35) (.v false (oEv (sel 4)))),
    iGuard (sel 34) true (put 36) (iOp (put 36) (.v false (oEv (sel 0)))),
    iGuard (sel 34) true (put 37) (iOp (put 37) (.v false (oEv (sel 1)))),
    iGuard (sel 34) true (put 38) (iOp (put 38) (.v false (oIndexAddrS 2 (sel 36) (sel 37)))),
    iGuard (sel 34) true (put 39) (iOp (put 39) (.v true (oLoadN 2 (sel 38)))),
    iGuard (sel 34) true (put 40) (iOp (put 40) (.v false (oEv (sel 0)))),
    iGuard (sel 34) true (put 41) (iOp (put 41) (.v false (oEv (sel 11)))),
    iGuard (sel 34) true (put 42) (iOp (put 42) (.v false (oIndexAddrS 2 (sel 40) (sel 41)))),
    iGuard (sel 34) true (put 43) (iOp (put 43) (.v true (oLoadN 2 (sel 42)))),
    iGuard (sel 34) true (put 44) (iOp (put 44) (.e (eCall (sel 35) [(sel 39), (sel 43)]))),
    iGuard (sel 34) true (put 45) (iOp (put 45) (.v false (oInt2 fLss (sel 44) ⟨fun _ => .int .i64 0⟩))),
    iGuard (sel 34) true (put 46) (iOp (put 46) (.v false (oNot (sel 45)))),
    iOp (put 47) (.v false (oPick (sel 34) (sel 46) ⟨fun _ => .bool false⟩))]))
  (sCond (sel 47)
    (sEx .normal)
    (sEx (.exit 2))))
 (sBlock 3 (sRegion [iOp (put 48) (.v false (oEv (sel 11))),
    iOp (put 49) (.v false (oInt2 fAdd (sel 48) ⟨fun _ => .int .i64 1⟩)),
    iOp (put 11) (.v false (oEv (sel 49)))]))
noncomputable def c49_1 : Vm.Sem := sSeq (sSeq (sOne (sRegion [iOp (put 50) (.v false (oEv (sel 11))),
    iOp (put 51) (.v false (oEv (sel 12))),
    iOp (put 52) (.v false (oInt2 fLeq (sel 50) (sel 51))),
    iOp (put 53) (.v false (oEv (sel 52))),
    iGuard (sel 53) true (put 54) (iOp (put 54) (.v false (oEv (sel 4)))),
    iGuard (sel 53) true (put 55) (iOp (put 55) (.v false (oEv (sel 0)))),
    iGuard (sel 53) true (put 56) (iOp (put 56) (.v false (oEv (sel 1)))),
    iGuard (sel 53) true (put 57) (iOp (put 57) (.v false (oIndexAddrS 2 (sel 55) (sel 56)))),
    iGuard (sel 53) true (put 58) (iOp (put 58) (.v true (oLoadN 2 (sel 57)))),
    iGuard (sel 53) true (put 59) (iOp (put 59) (.v false (oEv (sel 0)))),
    iGuard (sel 53) true (put 60) (iOp (put 60) (.v false (oEv (sel 12)))),
    iGuard (sel 53) true (put 61) (iOp (put 61) (.v false (oIndexAddrS 2 (sel 59) (sel 60)))),
    iGuard (sel 53) true (put 62) (iOp (put 62) (.v true (oLoadN 2 (sel 61)))),
    iGuard (sel 53) true (put 63) (iOp (put 63) (.e (eCall (sel 54) [(sel 58), (sel 62)]))),
    iGuard (sel 53) true (put 64) (iOp (put 64) (.v false (oInt2 fLss (sel 63) ⟨fun _ => .int .i64 0⟩))),
    iOp (put 65) (.v false (oPick (sel 53) (sel 64) ⟨fun _ => .bool false⟩))]))
  (sCond (sel 65)
    (sEx .normal)
    (sEx (.exit 4))))
 (sBlock 5 (sRegion [iOp (put 66) (.v false (oEv (sel 12))),
    iOp (put 67) (.v false (oInt2 fSub (sel 66) ⟨fun _ => .int .i64 1⟩)),
    iOp (put 12) (.v false (oEv (sel 67)))]))
noncomputable def c49_2 : Vm.Sem := sBlock 1 (sSeq (sBlock 2 (sLoop c49_0))
  (sSeq (sBlock 4 (sLoop c49_1))
   (sSeq (sSeq (sRegion [iOp (put 68) (.v false (oEv (sel 11))),
       iOp (put 69) (.v false (oEv (sel 12))),
       iOp (put 70) (.v false (oInt2 fGtr (sel 68) (sel 69)))])
     (sCond (sel 70)
       (sEx (.exit 0))
       (sEx .normal)))
    (sSeq (sRegion [iOp (put 71) (.v false (oEv (sel 0))),
       iOp (put 72) (.v false (oEv (sel 11))),
       iOp (put 73) (.v false (oEv (sel 0))),
       iOp (put 74) (.v false (oEv (sel 12))),
       iOp (put 75) (.v false (oEv (sel 0))),
       iOp (put 76) (.v false (oEv (sel 12))),
       iOp (put 77) (.v false (oIndexAddrS 2 (sel 75) (sel 76))),
       iOp (put 78) (.v true (oLoadN 2 (sel 77))),
       iOp (put 79) (.v false (oEv (sel 0))),
       iOp (put 80) (.v false (oEv (sel 11))),
       iOp (put 81) (.v false (oIndexAddrS 2 (sel 79) (sel 80))),
       iOp (put 82) (.v true (oLoadN 2 (sel 81))),
       iOp (put 83) (.v false (oIndexAddrS 2 (sel 71) (sel 72))),
       iOp ⟨fun _ a => a⟩ (.e (eStore 2 (sel 83) (sel 78))),
       iOp (put 84) (.v false (oIndexAddrS 2 (sel 73) (sel 74))),
       iOp ⟨fun _ a => a⟩ (.e (eStore 2 (sel 84) (sel 82)))])
     (sSeq (sRegion [iOp (put 85) (.v false (oEv (sel 11))),
        iOp (put 86) (.v false (oInt2 fAdd (sel 85) ⟨fun _ => .int .i64 1⟩)),
        iOp (put 11) (.v false (oEv (sel 86)))])
      (sRegion [iOp (put 87) (.v false (oEv (sel 12))),
        iOp (put 88) (.v false (oInt2 fSub (sel 87) ⟨fun _ => .int .i64 1⟩)),
        iOp (put 12) (.v false (oEv (sel 88)))]))))))
/-- slices.partitionEqualCmpFunc[bollard/join.number] -/
noncomputable def c49 : CF := ⟨90, [.tmp (sel 10)],
  sSeq (sRegion [iOp (put 10) (.v false (oEv ⟨fun _ => .int .i64 0⟩))])
  (sSeq (sRegion [iOp (put 13) (.v false (oEv (sel 0))),
     iOp (put 14) (.v false (oEv (sel 1))),
     iOp (put 15) (.v false (oEv (sel 0))),
     iOp (put 16) (.v false (oEv (sel 3))),
     iOp (put 17) (.v false (oEv (sel 0))),
     iOp (put 18) (.v false (oEv (sel 3))),
     iOp (put 19) (.v false (oIndexAddrS 2 (sel 17) (sel 18))),
     iOp (put 20) (.v true (oLoadN 2 (sel 19))),
     iOp (put 21) (.v false (oEv (sel 0))),
     iOp (put 22) (.v false (oEv (sel 1))),
     iOp (put 23) (.v false (oIndexAddrS 2 (sel 21) (sel 22))),
     iOp (put 24) (.v true (oLoadN 2 (sel 23))),
     iOp (put 25) (.v false (oIndexAddrS 2 (sel 13) (sel 14))),
     iOp ⟨fun _ a => a⟩ (.e (eStore 2 (sel 25) (sel 20))),
     iOp (put 26) (.v false (oIndexAddrS 2 (sel 15) (sel 16))),
     iOp ⟨fun _ a => a⟩ (.e (eStore 2 (sel 26) (sel 24)))])
   (sSeq (sRegion [iOp (put 27) (.v false (oEv (sel 1))),
      iOp (put 28) (.v false (oInt2 fAdd (sel 27) ⟨fun _ => .int .i64 1⟩)),
      iOp (put 29) (.v false (oEv (sel 2))),
      iOp (put 30) (.v false (oInt2 fSub (sel 29) ⟨fun _ => .int .i64 1⟩)),
      iOp (put 11) (.v false (oEv (sel 28))),
      iOp (put 12) (.v false (oEv (sel 30)))])
    (sSeq (sBlock 0 (sLoop c49_2))
     (sSeq (sRegion [iOp (put 89) (.v false (oEv (sel 11))),
        iOp (put 10) (.v false (oEv (sel 89)))])
      (sEx .ret)))))⟩
theorem d49 : denF Try.prog 49 = some c49 := denF_of (by kernel_rfl)
noncomputable def c50_0 : Vm.Sem := sSeq (sSeq (sOne (sRegion [iOp (put 32) (.v false (oEv (sel 12))),
    iOp (put 33) (.v false (oEv (sel 13))),
    iOp (put 34) (.v false (oInt2 fLeq (sel 32) (sel 33))),
    iOp (put 35) (.v false (oEv (sel 34))),
    iGuard (sel 35) true (put 36) (iOp (put 36) (.v false (oEv (sel 4)))),
    iGuard (sel 35) true (put 37) (iOp (put 37) (.v false (oEv (sel 0)))),
    iGuard (sel 35) true (put 38) (iOp (put 38) (.v false (oEv (sel 12)))),
    iGuard (sel 35) true (put 39) (iOp (put 39) (.v false (oIndexAddrS 2 (sel 37) (sel 38)))),
    iGuard (sel 35) true (put 40) (iOp (put 40) (.v true (oLoadN 2 (sel 39)))),
    iGuard (sel 35) true (put 41) (iOp (put 41) (.v false (oEv (sel 0)))),
    iGuard (sel 35) true (put 42) (iOp (put 42) (.v false (oEv (sel 1)))),
    iGuard (sel 35) true (put 43) (iOp (put 43) (.v false (oIndexAddrS 2 (sel 41) (sel 42)))),
    iGuard (sel 35) true (put 44) (iOp (put 44) (.v true (oLoadN 2 (sel 43)))),
    iGuard (sel 35) true (put 45) (iOp (put 45) (.e (eCall (sel 36) [(sel 40), (sel 44)]))),
    iGuard (sel 35) true (put 46) (iOp (put 46) (.v false (oInt2 fLss (sel 45) ⟨fun _ => .int .i64 0⟩))),
    iOp (put 47) (.v false (oPick (sel 35) (sel 46) ⟨fun _ => .bool false⟩))]))
  (sCond (sel 47)
    (sEx .normal)
    (sEx (.exit 0))))
 (sBlock 1 (sRegion [iOp (put 48) (.v false (oEv (sel 12))),
    iOp (put 49) (.v false (oInt2 fAdd (sel 48) ⟨fun _ => .int .i64 1⟩)),
    iOp (put 12) (.v false (oEv (sel 49)))]))
noncomputable def c50_1 : Vm.Sem := sSeq (sSeq (sOne (sRegion [iOp (put 50) (.v false (oEv (sel 12))),
    iOp (put 51) (.v false (oEv (sel 13))),
    iOp (put 52) (.v false (oInt2 fLeq (sel 50) (sel 51))),
    iOp (put 53) (.v false (oEv (sel 52))),
    iGuard (sel 53) true (put 54) (iOp (put 54) (.v false (oEv (sel 4)))),
    iGuard (sel 53) true (put 55) (iOp (put 55) (.v false (oEv (sel 0)))),
    iGuard (sel 53) true (put 56) (iOp (put 56) (.v false (oEv (sel 13)))),
    iGuard (sel 53) true (put 57) (iOp (put 57) (.v false (oIndexAddrS 2 (sel 55) (sel 56)))),
    iGuard (sel 53) true (put 58) (iOp (put 58) (.v true (oLoadN 2 (sel 57)))),
    iGuard (sel 53) true (put 59) (iOp (put 59) (.v false (oEv (sel 0)))),
    iGuard (sel 53) true (put 60) (iOp (put 60) (.v false (oEv (sel 1)))),
    iGuard (sel 53) true (put 61) (iOp (put 61) (.v false (oIndexAddrS 2 (sel 59) (sel 60)))),
    iGuard (sel 53) true (put 62) (iOp (put 62) (.v true (oLoadN 2 (sel 61)))),
    iGuard (sel 53) true (put 63) (iOp (put 63) (.e (eCall (sel 54) [(sel 58), (sel 62)]))),
    iGuard (sel 53) true (put 64) (iOp (put 64) (.v false (oInt2 fLss (sel 63) ⟨fun _ => .int .i64 0⟩))),
    iGuard (sel 53) true (put 65) (iOp (put 65) (.v false (oNot (sel 64)))),
    iOp (put 66) (.v false (oPick (sel 53) (sel 65) ⟨fun _ => .bool false⟩))]))
  (sCond (sel 66)
    (sEx .normal)
    (sEx (.exit 2))))
 (sBlock 3 (sRegion [iOp (put 67) (.v false (oEv (sel 13))),
    iOp (put 68) (.v false (oInt2 fSub (sel 67) ⟨fun _ => .int .i64 1⟩)),
    iOp (put 13) (.v false (oEv (sel 68)))]))
noncomputable def c50_2 : Vm.Sem := sSeq (sSeq (sOne (sRegion [iOp (put 105) (.v false (oEv (sel 12))),
    iOp (put 106) (.v false (oEv (sel 13))),
    iOp (put 107) (.v false (oInt2 fLeq (sel 105) (sel 106))),
    iOp (put 108) (.v false (oEv (sel 107))),
    iGuard (sel 108) true (put 109) (iOp (put 109) (.v false (oEv (sel 4)))),
    iGuard (sel 108) true (put 110) (iOp (put 110) (.v false (oEv (sel 0)))),
    iGuard (sel 108) true (put 111) (iOp (put 111) (.v false (oEv (sel 12)))),
    iGuard (sel 108) true (put 112) (iOp (put 112) (.v false (oIndexAddrS 2 (sel 110) (sel 111)))),
    iGuard (sel 108) true (put 113) (iOp (put 113) (.v true (oLoadN 2 (sel 112)))),
    iGuard (sel 108) true (put 114) (iOp (put 114) (.v false (oEv (sel 0)))),
    iGuard (sel 108) true (put 115) (iOp (put 115) (.v false (oEv (sel 1)))),
    iGuard (sel 108) true (put 116) (iOp (put 116) (.v false (oIndexAddrS 2 (sel 114) (sel 115)))),
    iGuard (sel 108) true (put 117) (iOp (put 117) (.v true (oLoadN 2 (sel 116)))),
    iGuard (sel 108) true (put 118) (iOp (put 118) (.e (eCall (sel 109) [(sel 113), (sel 117)]))),
    iGuard (sel 108) true (put 119) (iOp (put 119) (.v false (oInt2 fLss (sel 118) ⟨fun _ => .int .i64 0⟩))),
    iOp (put 120) (.v false (oPick (sel 108) (sel 119) ⟨fun _ => .bool false⟩))]))
  (sCond (sel 120)
    (sEx .normal)
    (sEx (.exit 6))))
 (sBlock 7 (sRegion [iOp (put 121) (.v false (oEv (sel 12))),
    iOp (put 122) (.v false (oInt2 fAdd (sel 121) ⟨fun _ => .int .i64 1⟩)),
    iOp (put 12) (.v false (oEv (sel 122)))]))
noncomputable def c50_3 : Vm.Sem := sSeq (sSeq (sOne (sRegion [iOp (put 123) (.v false (oEv (sel 12))),
    iOp (put 124) (.v false (oEv (sel 13))),
    iOp (put 125) (.v false (oInt2 fLeq (sel 123) (sel 124))),
    iOp (put 126) (.v false (oEv (sel 125))),
    iGuard (sel 126) true (put 127) (iOp (put 127) (.v false (oEv (sel 4)))),
    iGuard (sel 126) true (put 128) (iOp (put 128) (.v false (oEv (sel 0)))),
    iGuard (sel 126) true (put 129) (iOp (put 129) (.v false (oEv (sel 13)))),
    iGuard (sel 126) true (put 130) (iOp (put 130) (.v false (oIndexAddrS 2 (sel 128) (sel 129)))),
    iGuard (sel 126) true (put 131) (iOp (put 131) (.v true (oLoadN 2 (sel 130)))),
    iGuard (sel 126) true (put 132) (iOp (put 132) (.v false (oEv (sel 0)))),
    iGuard (sel 126) true (put 133) (iOp (put 133) (.v false (oEv (sel 1)))),
    iGuard (sel 126) true (put 134) (iOp (put 134) (.v false (oIndexAddrS 2 (sel 132) (sel 133)))),
    iGuard (sel 126) true (put 135) (iOp (put 135) (.v true (oLoadN 2 (sel 134)))),
    iGuard (sel 126) true (put 136) (iOp (put 136) (.e (eCall (sel 127) [(sel 131), (sel 135)]))),
    iGuard (sel 126) true (put 137) (iOp (put 137) (.v false (oInt2 fLss (sel 136) ⟨fun _ => .int .i64 0⟩))),
    iGuard (sel 126) true (put 138) (iOp (put 138) (.v false (oNot (sel 137)))),
    iOp (put 139) (.v false (oPick (sel 126) (sel 138) ⟨fun _ => .bool false⟩))]))
  (sCond (sel 139)
    (sEx .normal)
    (sEx (.exit 8))))
 (sBlock 9 (sRegion [iOp (put 140) (.v false (oEv (sel 13))),
    iOp (put 141) (.v false (oInt2 fSub (sel 140) ⟨fun _ => .int .i64 1⟩)),
    iOp (put 13) (.v false (oEv (sel 141)))]))
noncomputable def c50_4 : Vm.Sem := sBlock 5 (sSeq (sBlock 6 (sLoop c50_2))
  (sSeq (sBlock 8 (sLoop c50_3))
   (sSeq (sSeq (sRegion [iOp (put 142) (.v false (oEv (sel 12))),
       iOp (put 143) (.v false (oEv (sel 13))),
       iOp (put 144) (.v false (oInt2 fGtr (sel 142) (sel 143)))])
     (sCond (sel 144)
       (sEx (.exit 4))
       (sEx .normal)))
    (sSeq (sRegion [iOp (put 145) (.v false (oEv (sel 0))),
       iOp (put 146) (.v false (oEv (sel 12))),
       iOp (put 147) (.v false (oEv (sel 0))),
       iOp (put 148) (.v false (oEv (sel 13))),
       iOp (put 149) (.v false (oEv (sel 0))),
       iOp (put 150) (.v false (oEv (sel 13))),
       iOp (put 151) (.v false (oIndexAddrS 2 (sel 149) (sel 150))),
       iOp (put 152) (.v true (oLoadN 2 (sel 151))),
       iOp (put 153) (.v false (oEv (sel 0))),
       iOp (put 154) (.v false (oEv (sel 12))),
       iOp (put 155) (.v false (oIndexAddrS 2 (sel 153) (sel 154))),
       iOp (put 156) (.v true (oLoadN 2 (sel 155))),
       iOp (put 157) (.v false (oIndexAddrS 2 (sel 145) (sel 146))),
       iOp ⟨fun _ a => a⟩ (.e (eStore 2 (sel 157) (sel 152))),
       iOp (put 158) (.v false (oIndexAddrS 2 (sel 147) (sel 148))),
       iOp ⟨fun _ a => a⟩ (.e (eStore 2 (sel 158) (sel 156)))])
     (sSeq (sRegion [iOp (put 159) (.v false (oEv (sel 12))),
        iOp (put 160) (.v false (oInt2 fAdd (sel 159) ⟨fun _ => .int .i64 1⟩)),
        iOp (put 12) (.v false (oEv (sel 160)))])
      (sRegion [iOp (put 161) (.v false (oEv (sel 13))),
        iOp (put 162) (.v false (oInt2 fSub (sel 161) ⟨fun _ => .int .i64 1⟩)),
        iOp (put 13) (.v false (oEv (sel 162)))]))))))
/-- slices.partitionCmpFunc[bollard/join.number] -/
noncomputable def c50 : CF := ⟨178, [.tmp (sel 10), .tmp (sel 11)],
  sSeq (sRegion [iOp (put 10) (.v false (oEv ⟨fun _ => .int .i64 0⟩)),
    iOp (put 11) (.v false (oEv ⟨fun _ => .bool false⟩))])
  (sSeq (sRegion [iOp (put 14) (.v false (oEv (sel 0))),
     iOp (put 15) (.v false (oEv (sel 1))),
     iOp (put 16) (.v false (oEv (sel 0))),
     iOp (put 17) (.v false (oEv (sel 3))),
     iOp (put 18) (.v false (oEv (sel 0))),
     iOp (put 19) (.v false (oEv (sel 3))),
     iOp (put 20) (.v false (oIndexAddrS 2 (sel 18) (sel 19))),
     iOp (put 21) (.v true (oLoadN 2 (sel 20))),
     iOp (put 22) (.v false (oEv (sel 0))),
     iOp (put 23) (.v false (oEv (sel 1))),
     iOp (put 24) (.v false (oIndexAddrS 2 (sel 22) (sel 23))),
     iOp (put 25) (.v true (oLoadN 2 (sel 24))),
     iOp (put 26) (.v false (oIndexAddrS 2 (sel 14) (sel 15))),
     iOp ⟨fun _ a => a⟩ (.e (eStore 2 (sel 26) (sel 21))),
     iOp (put 27) (.v false (oIndexAddrS 2 (sel 16) (sel 17))),
     iOp ⟨fun _ a => a⟩ (.e (eStore 2 (sel 27) (sel 25)))])
   (sSeq (sRegion [iOp (put 28) (.v false (oEv (sel 1))),
      iOp (put 29) (.v false (oInt2 fAdd (sel 28) ⟨fun _ => .int .i64 1⟩)),
      iOp (put 30) (.v false (oEv (sel 2))),
      iOp (put 31) (.v false (oInt2 fSub (sel 30) ⟨fun _ => .int .i64 1⟩)),
      iOp (put 12) (.v false (oEv (sel 29))),
      iOp (put 13) (.v false (oEv (sel 31)))])
    (sSeq (sBlock 0 (sLoop c50_0))
     (sSeq (sBlock 2 (sLoop c50_1))
      (sSeq (sSeq (sRegion [iOp (put 69) (.v false (oEv (sel 12))),
          iOp (put 70) (.v false (oEv (sel 13))),
          iOp (put 71) (.v false (oInt2 fGtr (sel 69) (sel 70)))])
        (sCond (sel 71)
          (sSeq (sRegion [iOp (put 72) (.v false (oEv (sel 0))),
             iOp (put 73) (.v false (oEv (sel 13))),
             iOp (put 74) (.v false (oEv (sel 0))),
             iOp (put 75) (.v false (oEv (sel 1))),
             iOp (put 76) (.v false (oEv (sel 0))),
             iOp (put 77) (.v false (oEv (sel 1))),
             iOp (put 78) (.v false (oIndexAddrS 2 (sel 76) (sel 77))),
             iOp (put 79) (.v true (oLoadN 2 (sel 78))),
             iOp (put 80) (.v false (oEv (sel 0))),
             iOp (put 81) (.v false (oEv (sel 13))),
             iOp (put 82) (.v false (oIndexAddrS 2 (sel 80) (sel 81))),
             iOp (put 83) (.v true (oLoadN 2 (sel 82))),
             iOp (put 84) (.v false (oIndexAddrS 2 (sel 72) (sel 73))),
             iOp ⟨fun _ a => a⟩ (.e (eStore 2 (sel 84) (sel 79))),
             iOp (put 85) (.v false (oIndexAddrS 2 (sel 74) (sel 75))),
             iOp ⟨fun _ a => a⟩ (.e (eStore 2 (sel 85) (sel 83)))])
           (sSeq (sRegion [iOp (put 86) (.v false (oEv (sel 13))),
              iOp (put 10) (.v false (oEv (sel 86))),
              iOp (put 11) (.v false (oEv ⟨fun _ => .bool true⟩))])
            (sEx .ret)))
          (sEx .normal)))
       (sSeq (sRegion [iOp (put 87) (.v false (oEv (sel 0))),
          iOp (put 88) (.v false (oEv (sel 12))),
          iOp (put 89) (.v false (oEv (sel 0))),
          iOp (put 90) (.v false (oEv (sel 13))),
          iOp (put 91) (.v false (oEv (sel 0))),
          iOp (put 92) (.v false (oEv (sel 13))),
          iOp (put 93) (.v false (oIndexAddrS 2 (sel 91) (sel 92))),
          iOp (put 94) (.v true (oLoadN 2 (sel 93))),
          iOp (put 95) (.v false (oEv (sel 0))),
          iOp (put 96) (.v false (oEv (sel 12))),
          iOp (put 97) (.v false (oIndexAddrS 2 (sel 95) (sel 96))),
          iOp (put 98) (.v true (oLoadN 2 (sel 97))),
          iOp (put 99) (.v false (oIndexAddrS 2 (sel 87) (sel 88))),
          iOp ⟨fun _ a => a⟩ (.e (eStore 2 (sel 99) (sel 94))),
          iOp (put 100) (.v false (oIndexAddrS 2 (sel 89) (sel 90))),
          iOp ⟨fun _ a => a⟩ (.e (eStore 2 (sel 100) (sel 98)))])
        (sSeq (sRegion [iOp (put 101) (.v false (oEv (sel 12))),
           iOp (put 102) (.v false (oInt2 fAdd (sel 101) ⟨fun _ => .int .i64 1⟩)),
           iOp (put 12) (.v false (oEv (sel 102)))])
         (sSeq (sRegion [iOp (put 103) (.v false (oEv (sel 13))),
            iOp (put 104) (.v false (oInt2 fSub (sel 103) ⟨fun _ => .int .i64 1⟩)),
            iOp (put 13) (.v false (oEv (sel 104)))])
          (sSeq (sBlock 4 (sLoop c50_4))
           (sSeq (sRegion [iOp (put 163) (.v false (oEv (sel 0))),
              iOp (put 164) (.v false (oEv (sel 13))),
              iOp (put 165) (.v false (oEv (sel 0))),
              iOp (put 166) (.v false (oEv (sel 1))),
              iOp (put 167) (.v false (oEv (sel 0))),
              iOp (put 168) (.v false (oEv (sel 1))),
              iOp (put 169) (.v false (oIndexAddrS 2 (sel 167) (sel 168))),
              iOp (put 170) (.v true (oLoadN 2 (sel 169))),
              iOp (put 171) (.v false (oEv (sel 0))),
              iOp (put 172) (.v false (oEv (sel 13))),
              iOp (put 173) (.v false (oIndexAddrS 2 (sel 171) (sel 172))),
              iOp (put 174) (.v true (oLoadN 2 (sel 173))),
              iOp (put 175) (.v false (oIndexAddrS 2 (sel 163) (sel 164))),
              iOp ⟨fun _ a => a⟩ (.e (eStore 2 (sel 175) (sel 170))),
              iOp (put 176) (.v false (oIndexAddrS 2 (sel 165) (sel 166))),
              iOp ⟨fun _ a => a⟩ (.e (eStore 2 (sel 176) (sel 174)))])
            (sSeq (sRegion [iOp (put 177) (.v false (oEv (sel 13))),
               iOp (put 10) (.v false (oEv (sel 177))),
               iOp (put 11) (.v false (oEv ⟨fun _ => .bool false⟩))])
             (sEx .ret))))))))))))⟩
theorem d50 : denF Try.prog 50 = some c50 := denF_of (by kernel_rfl)
/-- math/bits.Len64 -/
noncomputable def c52 : CF := ⟨25, [.tmp (sel 2)],
  sSeq (sRegion [iOp (put 2) (.v false (oEv ⟨fun _ => .int .i64 0⟩))])
  (sSeq (sSeq (sRegion [iOp (put 3) (.v false (oEv (sel 0))),
      iOp (put 4) (.v false (oInt2 fGeq (sel 3) ⟨fun _ => .int .u64 4294967296⟩))])
    (sCond (sel 4)
      (sSeq (sRegion [iOp (put 5) (.v false (oEv (sel 0))),
         iOp (put 6) (.v false (oSh fShr (sel 5) ⟨fun _ => .int .u64 32⟩)),
         iOp (put 0) (.v false (oEv (sel 6)))])
       (sRegion [iOp (put 2) (.v false (oEv ⟨fun _ => .int .i64 32⟩))]))
      (sEx .normal)))
   (sSeq (sSeq (sRegion [iOp (put 7) (.v false (oEv (sel 0))),
       iOp (put 8) (.v false (oInt2 fGeq (sel 7) ⟨fun _ => .int .u64 65536⟩))])
     (sCond (sel 8)
       (sSeq (sRegion [iOp (put 9) (.v false (oEv (sel 0))),
          iOp (put 10) (.v false (oSh fShr (sel 9) ⟨fun _ => .int .u64 16⟩)),
          iOp (put 0) (.v false (oEv (sel 10)))])
        (sRegion [iOp (put 11) (.v false (oEv (sel 2))),
          iOp (put 12) (.v false (oInt2 fAdd (sel 11) ⟨fun _ => .int .i64 16⟩)),
          iOp (put 2) (.v false (oEv (sel 12)))]))
       (sEx .normal)))
    (sSeq (sSeq (sRegion [iOp (put 13) (.v false (oEv (sel 0))),
        iOp (put 14) (.v false (oInt2 fGeq (sel 13) ⟨fun _ => .int .u64 256⟩))])
      (sCond (sel 14)
        (sSeq (sRegion [iOp (put 15) (.v false (oEv (sel 0))),
           iOp (put 16) (.v false (oSh fShr (sel 15) ⟨fun _ => .int .u64 8⟩)),
           iOp (put 0) (.v false (oEv (sel 16)))])
         (sRegion [iOp (put 17) (.v false (oEv (sel 2))),
           iOp (put 18) (.v false (oInt2 fAdd (sel 17) ⟨fun _ => .int .i64 8⟩)),
           iOp (put 2) (.v false (oEv (sel 18)))]))
        (sEx .normal)))
     (sSeq (sRegion [iOp (put 19) (.v false (oEv (sel 2))),
        iOp (put 20) (.v false (oEv (sel 0))),
        iOp (put 21) (.v false (oConvInt .u8 (sel 20))),
        iOp (put 22) (.v false (oIndexS ⟨fun _ => .string ⟨#[0, 1, 2, 2, 3, 3, 3, 3, 4, 4, 4, 4, 4, 4, 4, 4, 5, 5, 5, 5, 5, 5, 5, 5, 5, 5, 5, 5, 5, 5, 5, 5, 6, 6, 6, 6, 6, 6, 6, 6, 6, 6, 6, 6, 6, 6, 6, 6, 6, 6, 6, 6, 6, 6, 6, 6, 6, 6, 6, 6, 6, 6, 6, 6, 7, 7, 7, 7, 7, 7, 7, 7, 7, 7, 7, 7, 7, 7, 7, 7, 7, 7, 7, 7, 7, 7, 7, 7, 7, 7, 7, 7, 7, 7, 7, 7, 7, 7, 7, 7, 7, 7, 7, 7, 7, 7, 7, 7, 7, 7, 7, 7, 7, 7, 7, 7, 7, 7, 7, 7, 7, 7, 7, 7, 7, 7, 7, 7, 8, 8, 8, 8, 8, 8, 8, 8, 8, 8, 8, 8, 8, 8, 8, 8, 8, 8, 8, 8, 8, 8, 8, 8, 8, 8, 8, 8, 8, 8, 8, 8, 8, 8, 8, 8, 8, 8, 8, 8, 8, 8, 8, 8, 8, 8, 8, 8, 8, 8, 8, 8, 8, 8, 8, 8, 8, 8, 8, 8, 8, 8, 8, 8, 8, 8, 8, 8, 8, 8, 8, 8, 8, 8, 8, 8, 8, 8, 8, 8, 8, 8, 8, 8, 8, 8, 8, 8, 8, 8, 8, 8, 8, 8, 8, 8, 8, 8, 8, 8, 8, 8, 8, 8, 8, 8, 8, 8, 8, 8, 8, 8, 8, 8, 8, 8, 8, 8, 8, 8, 8, 8, 8, 8, 8, 8, 8, 8]⟩⟩ (sel 21))),
        iOp (put 23) (.v false (oConvInt .i64 (sel 22))),
        iOp (put 24) (.v false (oInt2 fAdd (sel 19) (sel 23))),
        iOp (put 2) (.v false (oEv (sel 24)))])
      (sEx .ret)))))⟩
theorem d52 : denF Try.prog 52 = some c52 := denF_of (by kernel_rfl)
noncomputable def c53_0 : Vm.Sem := sBlock 1 (sSeq (sRegion [iOp (put 13) (.v false (oEv (sel 10))),
    iOp (put 14) (.v false (oInt2 fMul ⟨fun _ => .int .i64 2⟩ (sel 13))),
    iOp (put 15) (.v false (oInt2 fAdd (sel 14) ⟨fun _ => .int .i64 1⟩)),
    iOp (put 11) (.v false (oEv (sel 15)))])
  (sSeq (sSeq (sRegion [iOp (put 16) (.v false (oEv (sel 11))),
      iOp (put 17) (.v false (oEv (sel 2))),
      iOp (put 18) (.v false (oInt2 fGeq (sel 16) (sel 17)))])
    (sCond (sel 18)
      (sEx (.exit 0))
      (sEx .normal)))
   (sSeq (sSeq (sOne (sRegion [iOp (put 19) (.v false (oEv (sel 11))),
       iOp (put 20) (.v false (oInt2 fAdd (sel 19) ⟨fun _ => .int .i64 1⟩)),
       iOp (put 21) (.v false (oEv (sel 2))),
       iOp (put 22) (.v false (oInt2 fLss (sel 20) (sel 21))),
       iOp (put 23) (.v false (oEv (sel 22))),
       iGuard (sel 23) true (put 24) (iOp (put 24) (.v false (oEv (sel 4)))),
       iGuard (sel 23) true (put 25) (iOp (put 25) (.v false (oEv (sel 0)))),
       iGuard (sel 23) true (put 26) (iOp (put 26) (.v false (oEv (sel 3)))),
       iGuard (sel 23) true (put 27) (iOp (put 27) (.v false (oEv (sel 11)))),
       iGuard (sel 23) true (put 28) (iOp (put 28) (.v false (oInt2 fAdd (sel 26) (sel 27)))),
       iGuard (sel 23) true (put 29) (iOp (put 29) (.v false (oIndexAddrS 2 (sel 25) (sel 28)))),
       iGuard (sel 23) true (put 30) (iOp (put 30) (.v true (oLoadN 2 (sel 29)))),
       iGuard (sel 23) true (put 31) (iOp (put 31) (.v false (oEv (sel 0)))),
       iGuard (sel 23) true (put 32) (iOp (put 32) (.v false (oEv (sel 3)))),
       iGuard (sel 23) true (put 33) (iOp (put 33) (.v false (oEv (sel 11)))),
       iGuard (sel 23) true (put 34) (iOp (put 34) (.v false (oInt2 fAdd (sel 32) (sel 33)))),
       iGuard (sel 23) true (put 35) (iOp (put 35) (.v false (oInt2 fAdd (sel 34) ⟨fun _ => .int .i64 1⟩))),
       iGuard (sel 23) true (put 36) (iOp (put 36) (.v false (oIndexAddrS 2 (sel 31) (sel 35)))),
       iGuard (sel 23) true (put 37) (iOp (put 37) (.v true (oLoadN 2 (sel 36)))),
       iGuard (sel 23) true (put 38) (iOp (put 38) (.e (eCall (sel 24) [(sel 30), (sel 37)]))),
       iGuard (sel 23) true (put 39) (iOp (put 39) (.v false (oInt2 fLss (sel 38) ⟨fun _ => .int .i64 0⟩))),
       iOp (put 40) (.v false (oPick (sel 23) (sel 39) ⟨fun _ => .bool false⟩))]))
     (sCond (sel 40)
       (sRegion [iOp (put 41) (.v false (oEv (sel 11))),
         iOp (put 42) (.v false (oInt2 fAdd (sel 41) ⟨fun _ => .int .i64 1⟩)),
         iOp (put 11) (.v false (oEv (sel 42)))])
       (sEx .normal)))
    (sSeq (sSeq (sOne (sRegion [iOp (put 43) (.v false (oEv (sel 4))),
        iOp (put 44) (.v false (oEv (sel 0))),
        iOp (put 45) (.v false (oEv (sel 3))),
        iOp (put 46) (.v false (oEv (sel 10))),
        iOp (put 47) (.v false (oInt2 fAdd (sel 45) (sel 46))),
        iOp (put 48) (.v false (oIndexAddrS 2 (sel 44) (sel 47))),
        iOp (put 49) (.v true (oLoadN 2 (sel 48))),
        iOp (put 50) (.v false (oEv (sel 0))),
        iOp (put 51) (.v false (oEv (sel 3))),
        iOp (put 52) (.v false (oEv (sel 11))),
        iOp (put 53) (.v false (oInt2 fAdd (sel 51) (sel 52))),
        iOp (put 54) (.v false (oIndexAddrS 2 (sel 50) (sel 53))),
        iOp (put 55) (.v true (oLoadN 2 (sel 54))),
        iOp (put 56) (.e (eCall (sel 43) [(sel 49), (sel 55)])),
        iOp (put 57) (.v false (oInt2 fLss (sel 56) ⟨fun _ => .int .i64 0⟩)),
        iOp (put 58) (.v false (oNot (sel 57)))]))
      (sCond (sel 58)
        (sEx .ret)
        (sEx .normal)))
     (sSeq (sRegion [iOp (put 59) (.v false (oEv (sel 0))),
        iOp (put 60) (.v false (oEv (sel 3))),
        iOp (put 61) (.v false (oEv (sel 10))),
        iOp (put 62) (.v false (oInt2 fAdd (sel 60) (sel 61))),
        iOp (put 63) (.v false (oEv (sel 0))),
        iOp (put 64) (.v false (oEv (sel 3))),
        iOp (put 65) (.v false (oEv (sel 11))),
        iOp (put 66) (.v false (oInt2 fAdd (sel 64) (sel 65))),
        iOp (put 67) (.v false (oEv (sel 0))),
        iOp (put 68) (.v false (oEv (sel 3))),
        iOp (put 69) (.v false (oEv (sel 11))),
        iOp (put 70) (.v false (oInt2 fAdd (sel 68) (sel 69))),
        iOp (put 71) (.v false (oIndexAddrS 2 (sel 67) (sel 70))),
        iOp (put 72) (.v true (oLoadN 2 (sel 71))),
        iOp (put 73) (.v false (oEv (sel 0))),
        iOp (put 74) (.v false (oEv (sel 3))),
        iOp (put 75) (.v false (oEv (sel 10))),
        iOp (put 76) (.v false (oInt2 fAdd (sel 74) (sel 75))),
        iOp (put 77) (.v false (oIndexAddrS 2 (sel 73) (sel 76))),
        iOp (put 78) (.v true (oLoadN 2 (sel 77))),
        iOp (put 79) (.v false (oIndexAddrS 2 (sel 59) (sel 62))),
        iOp ⟨fun _ a => a⟩ (.e (eStore 2 (sel 79) (sel 72))),
        iOp (put 80) (.v false (oIndexAddrS 2 (sel 63) (sel 66))),
        iOp ⟨fun _ a => a⟩ (.e (eStore 2 (sel 80) (sel 78)))])
      (sRegion [iOp (put 81) (.v false (oEv (sel 11))),
        iOp (put 10) (.v false (oEv (sel 81)))]))))))
/-- slices.siftDownCmpFunc[bollard/join.number] -/
noncomputable def c53 : CF := ⟨82, [],
  sSeq (sRegion [iOp (put 12) (.v false (oEv (sel 1))),
    iOp (put 10) (.v false (oEv (sel 12)))])
  (sBlock 0 (sLoop c53_0))⟩
theorem d53 : denF Try.prog 53 = some c53 := denF_of (by kernel_rfl)
/-- slices.nextPowerOfTwo -/
noncomputable def c54 : CF := ⟨7, [.tmp (sel 2)],
  sSeq (sRegion [iOp (put 2) (.v false (oEv ⟨fun _ => .int .u64 0⟩))])
  (sSeq (sRegion [iOp (put 3) (.v false (oEv (sel 0))),
     iOp (put 4) (.v false (oConvInt .u64 (sel 3))),
     iOp (put 5) (.e (eCallF 41 [(sel 4)])),
     iOp (put 6) (.v false (oSh fShl ⟨fun _ => .int .u64 1⟩ (sel 5))),
     iOp (put 2) (.v false (oEv (sel 6)))])
   (sEx .ret))⟩
theorem d54 : denF Try.prog 54 = some c54 := denF_of (by kernel_rfl)
/-- (*slices.xorshift).Next -/
noncomputable def c55 : CF := ⟨33, [.tmp (sel 2)],
  sSeq (sRegion [iOp (put 2) (.v false (oEv ⟨fun _ => .int .u64 0⟩))])
  (sSeq (sRegion [iOp (put 3) (.v false (oEv (sel 0))),
     iOp (put 4) (.v false (oNilCheck (sel 3))),
     iOp (put 5) (.v true (oLoad1 (sel 4))),
     iOp (put 6) (.v false (oEv (sel 0))),
     iOp (put 7) (.v false (oNilCheck (sel 6))),
     iOp (put 8) (.v true (oLoad1 (sel 7))),
     iOp (put 9) (.v false (oSh fShl (sel 8) ⟨fun _ => .int .u64 13⟩)),
     iOp (put 10) (.v false (oInt2 fXor (sel 5) (sel 9))),
     iOp (put 11) (.v false (oNilCheck (sel 3))),
     iOp ⟨fun _ a => a⟩ (.e (eStore 1 (sel 11) (sel 10)))])
   (sSeq (sRegion [iOp (put 12) (.v false (oEv (sel 0))),
      iOp (put 13) (.v false (oNilCheck (sel 12))),
      iOp (put 14) (.v true (oLoad1 (sel 13))),
      iOp (put 15) (.v false (oEv (sel 0))),
      iOp (put 16) (.v false (oNilCheck (sel 15))),
      iOp (put 17) (.v true (oLoad1 (sel 16))),
      iOp (put 18) (.v false (oSh fShr (sel 17) ⟨fun _ => .int .u64 7⟩)),
      iOp (put 19) (.v false (oInt2 fXor (sel 14) (sel 18))),
      iOp (put 20) (.v false (oNilCheck (sel 12))),
      iOp ⟨fun _ a => a⟩ (.e (eStore 1 (sel 20) (sel 19)))])
    (sSeq (sRegion [iOp (put 21) (.v false (oEv (sel 0))),
       iOp (put 22) (.v false (oNilCheck (sel 21))),
       iOp (put 23) (.v true (oLoad1 (sel 22))),
       iOp (put 24) (.v false (oEv (sel 0))),
       iOp (put 25) (.v false (oNilCheck (sel 24))),
       iOp (put 26) (.v true (oLoad1 (sel 25))),
       iOp (put 27) (.v false (oSh fShl (sel 26) ⟨fun _ => .int .u64 17⟩)),
       iOp (put 28) (.v false (oInt2 fXor (sel 23) (sel 27))),
       iOp (put 29) (.v false (oNilCheck (sel 21))),
       iOp ⟨fun _ a => a⟩ (.e (eStore 1 (sel 29) (sel 28)))])
     (sSeq (sRegion [iOp (put 30) (.v false (oEv (sel 0))),
        iOp (put 31) (.v false (oNilCheck (sel 30))),
        iOp (put 32) (.v true (oLoad1 (sel 31))),
        iOp (put 2) (.v false (oEv (sel 32)))])
      (sEx .ret)))))⟩
theorem d55 : denF Try.prog 55 = some c55 := denF_of (by kernel_rfl)
/-- slices.medianAdjacentCmpFunc[bollard/join.number] -/
noncomputable def c56 : CF := ⟨18, [.tmp (sel 8)],
  sSeq (sRegion [iOp (put 8) (.v false (oEv ⟨fun _ => .int .i64 0⟩))])
  (sSeq (sRegion [iOp (put 9) (.v false (oEv (sel 0))),
     iOp (put 10) (.v false (oEv (sel 1))),
     iOp (put 11) (.v false (oInt2 fSub (sel 10) ⟨fun _ => .int .i64 1⟩)),
     iOp (put 12) (.v false (oEv (sel 1))),
     iOp (put 13) (.v false (oEv (sel 1))),
     iOp (put 14) (.v false (oInt2 fAdd (sel 13) ⟨fun _ => .int .i64 1⟩)),
     iOp (put 15) (.v false (oEv (sel 2))),
     iOp (put 16) (.v false (oEv (sel 3))),
     iOp (put 17) (.e (eCallF 57 [(sel 9), (sel 11), (sel 12), (sel 14), (sel 15), (sel 16)])),
     iOp (put 8) (.v false (oEv (sel 17)))])
   (sEx .ret))⟩
theorem d56 : denF Try.prog 56 = some c56 := denF_of (by kernel_rfl)
/-- slices.medianCmpFunc[bollard/join.number] -/
noncomputable def c57 : CF := ⟨41, [.tmp (sel 12)],
  sSeq (sRegion [iOp (put 12) (.v false (oEv ⟨fun _ => .int .i64 0⟩))])
  (sSeq (sRegion [iOp (put 14) (.v false (oEv (sel 0))),
     iOp (put 15) (.v false (oEv (sel 1))),
     iOp (put 16) (.v false (oEv (sel 2))),
     iOp (put 17) (.v false (oEv (sel 4))),
     iOp (put 18) (.v false (oEv (sel 5))),
     iOp (put 19) (.e (eCallF 58 [(sel 14), (sel 15), (sel 16), (sel 17), (sel 18)])),
     iOp (put 13) (.v false (oEv (sel 19))),
     iOp (put 20) (.v false (oExtract (sel 13) 0)),
     iOp (put 21) (.v false (oExtract (sel 13) 1)),
     iOp (put 1) (.v false (oEv (sel 20))),
     iOp (put 2) (.v false (oEv (sel 21)))])
   (sSeq (sRegion [iOp (put 23) (.v false (oEv (sel 0))),
      iOp (put 24) (.v false (oEv (sel 2))),
      iOp (put 25) (.v false (oEv (sel 3))),
      iOp (put 26) (.v false (oEv (sel 4))),
      iOp (put 27) (.v false (oEv (sel 5))),
      iOp (put 28) (.e (eCallF 58 [(sel 23), (sel 24), (sel 25), (sel 26), (sel 27)])),
      iOp (put 22) (.v false (oEv (sel 28))),
      iOp (put 29) (.v false (oExtract (sel 22) 0)),
      iOp (put 30) (.v false (oExtract (sel 22) 1)),
      iOp (put 2) (.v false (oEv (sel 29))),
      iOp (put 3) (.v false (oEv (sel 30)))])
    (sSeq (sRegion [iOp (put 32) (.v false (oEv (sel 0))),
       iOp (put 33) (.v false (oEv (sel 1))),
       iOp (put 34) (.v false (oEv (sel 2))),
       iOp (put 35) (.v false (oEv (sel 4))),
       iOp (put 36) (.v false (oEv (sel 5))),
       iOp (put 37) (.e (eCallF 58 [(sel 32), (sel 33), (sel 34), (sel 35), (sel 36)])),
       iOp (put 31) (.v false (oEv (sel 37))),
       iOp (put 38) (.v false (oExtract (sel 31) 0)),
       iOp (put 39) (.v false (oExtract (sel 31) 1)),
       iOp (put 1) (.v false (oEv (sel 38))),
       iOp (put 2) (.v false (oEv (sel 39)))])
     (sSeq (sRegion [iOp (put 40) (.v false (oEv (sel 2))),
        iOp (put 12) (.v false (oEv (sel 40)))])
      (sEx .ret)))))⟩
theorem d57 : denF Try.prog 57 = some c57 := denF_of (by kernel_rfl)
/-- slices.order2CmpFunc[bollard/join.number] -/
noncomputable def c58 : CF := ⟨32, [.tmp (sel 10), .tmp (sel 11)],
  sSeq (sRegion [iOp (put 10) (.v false (oEv ⟨fun _ => .int .i64 0⟩)),
    iOp (put 11) (.v false (oEv ⟨fun _ => .int .i64 0⟩))])
  (sSeq (sSeq (sOne (sRegion [iOp (put 12) (.v false (oEv (sel 4))),
      iOp (put 13) (.v false (oEv (sel 0))),
      iOp (put 14) (.v false (oEv (sel 2))),
      iOp (put 15) (.v false (oIndexAddrS 2 (sel 13) (sel 14))),
      iOp (put 16) (.v true (oLoadN 2 (sel 15))),
      iOp (put 17) (.v false (oEv (sel 0))),
      iOp (put 18) (.v false (oEv (sel 1))),
      iOp (put 19) (.v false (oIndexAddrS 2 (sel 17) (sel 18))),
      iOp (put 20) (.v true (oLoadN 2 (sel 19))),
      iOp (put 21) (.e (eCall (sel 12) [(sel 16), (sel 20)])),
      iOp (put 22) (.v false (oInt2 fLss (sel 21) ⟨fun _ => .int .i64 0⟩))]))
    (sCond (sel 22)
      (sSeq (sRegion [iOp (put 23) (.v false (oEv (sel 3))),
         iOp (put 24) (.v false (oNilCheck (sel 23))),
         iOp (put 25) (.v true (oLoad1 (sel 24))),
         iOp (put 26) (.v false (oInt2 fAdd (sel 25) ⟨fun _ => .int .i64 1⟩)),
         iOp (put 27) (.v false (oNilCheck (sel 23))),
         iOp ⟨fun _ a => a⟩ (.e (eStore 1 (sel 27) (sel 26)))])
       (sSeq (sRegion [iOp (put 28) (.v false (oEv (sel 2))),
          iOp (put 29) (.v false (oEv (sel 1))),
          iOp (put 10) (.v false (oEv (sel 28))),
          iOp (put 11) (.v false (oEv (sel 29)))])
        (sEx .ret)))
      (sEx .normal)))
   (sSeq (sRegion [iOp (put 30) (.v false (oEv (sel 1))),
      iOp (put 31) (.v false (oEv (sel 2))),
      iOp (put 10) (.v false (oEv (sel 30))),
      iOp (put 11) (.v false (oEv (sel 31)))])
    (sEx .ret)))⟩
theorem d58 : denF Try.prog 58 = some c58 := denF_of (by kernel_rfl)
end Go.Proofs.Ytnffglfpjcbfaaa

/-! The law awake, by one computation of the kernel. -/
namespace Go.Proofs.Ytnffglfpjcbfaaa
open Go Vm
abbrev G0 : Sums := oneSum 8
theorem mixed : Try.prog.follows .mixedOrders = true := by kernel_rfl
theorem awakeSays : Vm.says Try.prog (fun _ => none) 400 8 [] = true := by kernel_rfl
theorem sumsAwake (B : Nat) : SumsOK Try.prog B G0 := sums_one (enters_of (by kernel_rfl)) (fun w => Vm.says_true mixed awakeSays w) B
theorem own : ownKnob Try.prog.godebug = none := by kernel_rfl
theorem laidOut : laidOutB Try.prog = true := by kernel_rfl
end Go.Proofs.Ytnffglfpjcbfaaa

