/- Part of a proof by an abstract run of the program's code: NC. No condition. -/
import Derived.Test.YtmlagbknnngjjaaGreatChecked
import Derived.Test.YtmlagbknnngjjaaGreatVmD
namespace Go.Proofs.YtmlagbknnngjjaaGreat
open Go Vm
/-- bollard/bollardlaw16.XferNone -/
noncomputable def c6 : CF := ⟨93, [.tmp (sel 6)],
  sSeq (sRegion [iOp (put 3) (.a (aBox 34 (sel 0))),
    iOp (put 4) (.a (aBox 42 (sel 1))),
    iOp (put 6) (.v false (oEv ⟨fun _ => .bool false⟩))])
  (sSeq (sRegion [iOp (put 11) (.e (eCallF 7 [])),
     iOp (put 7) (.v false (oEv (sel 11)))])
   (sSeq (sSeq (sRegion [iOp (put 12) (.v false (oFieldAddr 3 (sel 3))),
       iOp (put 13) (.v true (oLoad1 (sel 12))),
       iOp (put 14) (.v false (oLenS (sel 13))),
       iOp (put 15) (.v false (oInt2 fGtr (sel 14) ⟨fun _ => .int .i64 2000⟩)),
       iOp (put 16) (.v false (oEv (sel 15))),
       iGuard (sel 16) false (put 17) (iOp (put 17) (.v false (oFieldAddr 11 (sel 4)))),
       iGuard (sel 16) false (put 18) (iOp (put 18) (.v true (oLoad1 (sel 17)))),
       iGuard (sel 16) false (put 19) (iOp (put 19) (.v false (oLenS (sel 18)))),
       iGuard (sel 16) false (put 20) (iOp (put 20) (.v false (oInt2 fGtr (sel 19) ⟨fun _ => .int .i64 2000⟩))),
       iOp (put 21) (.v false (oPick (sel 16) ⟨fun _ => .bool true⟩ (sel 20)))])
     (sCond (sel 21)
       (sSeq (sRegion [iOp (put 22) (.v false (oEv (sel 7))),
          iOp (put 6) (.v false (oEv (sel 22)))])
        (sEx .ret))
       (sEx .normal)))
    (sSeq (sRegion [iOp (put 8) (.v false (oEv ⟨fun _ => .pointer none⟩))])
     (sSeq (sRegion [iOp (put 23) (.v false (oEv (sel 8))),
        iOp (put 24) (.v false (oFieldAddr 0 (sel 3))),
        iOp (put 25) (.v true (oLoad1 (sel 24))),
        iOp (put 26) (.v false (oEv (sel 2))),
        iOp (put 27) (.v false (oInt2 fGtr (sel 26) ⟨fun _ => .int .i64 0⟩)),
        iOp (put 28) (.e (eCallF 18 [(sel 23), (sel 25), (sel 27)]))])
      (sSeq (sRegion [iOp (put 30) (.v false (oEv (sel 8))),
         iOp (put 31) (.e (eCallF 15 [(sel 30)])),
         iOp (put 29) (.v false (oEv (sel 31))),
         iOp (put 32) (.v false (oExtract (sel 29) 0)),
         iOp (put 33) (.v false (oExtract (sel 29) 1)),
         iOp (put 9) (.v false (oEv (sel 32))),
         iOp (put 10) (.v false (oEv (sel 33)))])
       (sSeq (sRegion [iOp (put 34) (.v false (oEv (sel 7))),
          iOp (put 35) (.v false (oEv (sel 34))),
          iGuard (sel 35) true (put 36) (iOp (put 36) (.v false (oEv (sel 8)))),
          iGuard (sel 35) true (put 37) (iOp (put 37) (.v true (oLoadN 4 (sel 3)))),
          iGuard (sel 35) true (put 38) (iOp (put 38) (.v false (oEv (sel 2)))),
          iGuard (sel 35) true (put 39) (iOp (put 39) (.v false (oEv (sel 2)))),
          iGuard (sel 35) true (put 40) (iOp (put 40) (.v false (oEv (sel 2)))),
          iGuard (sel 35) true (put 41) (iOp (put 41) (.e (eCallF 9 [(sel 36), (sel 37), (sel 38), (sel 39), (sel 40)]))),
          iGuard (sel 35) true (put 42) (iOp (put 42) (.v false (oEq (.one 1) (sel 41) ⟨fun _ => .int .i64 1⟩))),
          iOp (put 43) (.v false (oPick (sel 35) (sel 42) ⟨fun _ => .bool false⟩)),
          iOp (put 44) (.v false (oEv (sel 43))),
          iGuard (sel 44) true (put 45) (iOp (put 45) (.v false (oEv (sel 8)))),
          iGuard (sel 44) true (put 46) (iOp (put 46) (.v true (oLoadN 12 (sel 4)))),
          iGuard (sel 44) true (put 47) (iOp (put 47) (.v false (oEv (sel 2)))),
          iGuard (sel 44) true (put 48) (iOp (put 48) (.e (eCallF 12 [(sel 45), (sel 46), (sel 47)]))),
          iGuard (sel 44) true (put 49) (iOp (put 49) (.v false (oEq (.one 1) (sel 48) ⟨fun _ => .int .i64 1⟩))),
          iOp (put 50) (.v false (oPick (sel 44) (sel 49) ⟨fun _ => .bool false⟩)),
          iOp (put 51) (.v false (oEv (sel 50))),
          iGuard (sel 51) true (put 52) (iOp (put 52) (.v false (oEv (sel 8)))),
          iGuard (sel 51) true (put 53) (iOp (put 53) (.v false (oEv (sel 2)))),
          iGuard (sel 51) true (put 54) (iOp (put 54) (.e (eCallF 19 [(sel 52), (sel 53)]))),
          iGuard (sel 51) true (put 55) (iOp (put 55) (.v false (oNot (sel 54)))),
          iOp (put 56) (.v false (oPick (sel 51) (sel 55) ⟨fun _ => .bool false⟩)),
          iOp (put 57) (.v false (oEv (sel 56))),
          iGuard (sel 57) true (put 58) (iOp (put 58) (.v false (oEv (sel 8)))),
          iGuard (sel 57) true (put 59) (iOp (put 59) (.v false (oEv (sel 2)))),
          iGuard (sel 57) true (put 60) (iOp (put 60) (.e (eCallF 10 [(sel 58), (sel 59)]))),
          iGuard (sel 57) true (put 61) (iOp (put 61) (.v false (oLenS (sel 60)))),
          iGuard (sel 57) true (put 62) (iOp (put 62) (.v false (oEq (.one 1) (sel 61) ⟨fun _ => .int .i64 0⟩))),
          iOp (put 63) (.v false (oPick (sel 57) (sel 62) ⟨fun _ => .bool false⟩)),
          iOp (put 64) (.v false (oEv (sel 63))),
          iGuard (sel 64) true (put 65) (iOp (put 65) (.v false (oEv (sel 8)))),
          iGuard (sel 64) true (put 66) (iOp (put 66) (.e (eCallF 13 [(sel 65)]))),
          iGuard (sel 64) true (put 67) (iOp (put 67) (.v false (oLenS (sel 66)))),
          iGuard (sel 64) true (put 68) (iOp (put 68) (.v false (oEq (.one 1) (sel 67) ⟨fun _ => .int .i64 0⟩))),
          iOp (put 69) (.v false (oPick (sel 64) (sel 68) ⟨fun _ => .bool false⟩)),
          iOp (put 70) (.v false (oEv (sel 69))),
          iGuard (sel 70) true (put 71) (iOp (put 71) (.v false (oEv (sel 10)))),
          iGuard (sel 70) true (put 72) (iOp (put 72) (.v false (oNot (sel 71)))),
          iOp (put 73) (.v false (oPick (sel 70) (sel 72) ⟨fun _ => .bool false⟩)),
          iOp (put 74) (.v false (oEv (sel 73))),
          iGuard (sel 74) true (put 75) (iOp (put 75) (.v false (oEv (sel 8)))),
          iGuard (sel 74) true (put 76) (iOp (put 76) (.e (eCallF 14 [(sel 75)]))),
          iOp (put 77) (.v false (oPick (sel 74) (sel 76) ⟨fun _ => .bool false⟩)),
          iOp (put 78) (.v false (oEv (sel 77))),
          iGuard (sel 78) true (put 79) (iOp (put 79) (.v false (oEv (sel 8)))),
          iGuard (sel 78) true (put 80) (iOp (put 80) (.e (eCallF 20 [(sel 79)]))),
          iGuard (sel 78) true (put 81) (iOp (put 81) (.v false (oEq (.one 1) (sel 80) ⟨fun _ => .int .i64 0⟩))),
          iOp (put 82) (.v false (oPick (sel 78) (sel 81) ⟨fun _ => .bool false⟩)),
          iOp (put 83) (.v false (oEv (sel 82))),
          iGuard (sel 83) true (put 84) (iOp (put 84) (.v false (oEv (sel 8)))),
          iGuard (sel 83) true (put 85) (iOp (put 85) (.e (eCallF 21 [(sel 84)]))),
          iGuard (sel 83) true (put 86) (iOp (put 86) (.v false (oEq (.one 1) (sel 85) ⟨fun _ => .int .u32 0⟩))),
          iOp (put 87) (.v false (oPick (sel 83) (sel 86) ⟨fun _ => .bool false⟩)),
          iOp (put 88) (.v false (oEv (sel 87))),
          iGuard (sel 88) true (put 89) (iOp (put 89) (.v false (oEv (sel 8)))),
          iGuard (sel 88) true (put 90) (iOp (put 90) (.e (eCallF 17 [(sel 89)]))),
          iGuard (sel 88) true (put 91) (iOp (put 91) (.v false (oEq (.one 1) (sel 90) ⟨fun _ => .int .u32 0⟩))),
          iOp (put 92) (.v false (oPick (sel 88) (sel 91) ⟨fun _ => .bool false⟩)),
          iOp (put 6) (.v false (oEv (sel 92)))])
        (sEx .ret)))))))⟩
theorem d6 : denF Tryz.prog 6 = some c6 := denF_of (by kernel_rfl)
/-- (*bollard/xfer.End).Send -/
noncomputable def c9 : CF := ⟨98, [.tmp (sel 10)],
  sSeq (sRegion [iOp (put 6) (.a (aBox 34 (sel 1))),
    iOp (put 10) (.v false (oEv ⟨fun _ => .int .i64 0⟩))])
  (sSeq (sBlock 0 (sSeq (sRegion [iOp (put 16) (.v false (oEv (sel 0))),
       iOp (put 17) (.v false (oEq (.one 3) (sel 16) ⟨fun _ => .pointer none⟩)),
       iOp (put 15) (.v false (oEv (sel 17)))])
     (sCond (sel 15)
       (sSeq (sRegion [iOp (put 10) (.v false (oEv ⟨fun _ => .int .i64 1⟩))])
        (sEx .ret))
       (sSeq (sRegion [iOp (put 19) (.v false (oEv (sel 0))),
          iOp (put 20) (.v false (oNilCheck (sel 19))),
          iOp (put 21) (.v false (oFieldAddr 0 (sel 20))),
          iOp (put 22) (.v false (oFieldAddr 0 (sel 6))),
          iOp (put 23) (.v true (oLoad1 (sel 22))),
          iOp (put 24) (.e (eCallF 27 [(sel 21), (sel 23)])),
          iOp (put 25) (.v false (oNot (sel 24))),
          iOp (put 18) (.v false (oEv (sel 25)))])
        (sCond (sel 18)
          (sSeq (sRegion [iOp (put 10) (.v false (oEv ⟨fun _ => .int .i64 12⟩))])
           (sEx .ret))
          (sEx .normal))))))
   (sSeq (sRegion [iOp (put 27) (.v true (oLoadN 4 (sel 6))),
      iOp (put 28) (.v false (oEv (sel 0))),
      iOp (put 29) (.v false (oNilCheck (sel 28))),
      iOp (put 30) (.v false (oFieldAddr 0 (sel 29))),
      iOp (put 31) (.v false (oFieldAddr 12 (sel 30))),
      iOp (put 32) (.v true (oLoad1 (sel 31))),
      iOp (put 33) (.v false (oFieldAddr 0 (sel 6))),
      iOp (put 34) (.v true (oLoad1 (sel 33))),
      iOp (put 35) (.v false (oIndexAddrS 1 (sel 32) (sel 34))),
      iOp (put 36) (.v true (oLoad1 (sel 35))),
      iOp (put 37) (.v false (oEv (sel 0))),
      iOp (put 38) (.v false (oNilCheck (sel 37))),
      iOp (put 39) (.v false (oFieldAddr 0 (sel 38))),
      iOp (put 40) (.v false (oFieldAddr 1 (sel 39))),
      iOp (put 41) (.v false (oFieldAddr 3 (sel 40))),
      iOp (put 42) (.v true (oLoad1 (sel 41))),
      iOp (put 43) (.v false (oInt2 fSub (sel 42) ⟨fun _ => .int .i64 28⟩)),
      iOp (put 44) (.v false (oBest true ⟨fun _ => .int .i64 1172⟩ [(sel 43)])),
      iOp (put 45) (.v false (oBest false ⟨fun _ => .int .i64 1⟩ [(sel 44)])),
      iOp (put 46) (.e (eCallF 28 [(sel 27), ⟨fun _ => .int .u32 0⟩, (sel 36), (sel 45)])),
      iOp (put 26) (.v false (oEv (sel 46))),
      iOp (put 47) (.v false (oExtract (sel 26) 0)),
      iOp (put 48) (.v false (oExtract (sel 26) 1)),
      iOp (put 11) (.v false (oEv (sel 47))),
      iOp (put 12) (.v false (oEv (sel 48)))])
    (sSeq (sBlock 1 (sSeq (sRegion [iOp (put 50) (.v false (oEv (sel 12))),
         iOp (put 51) (.v false (oNe (.one 1) (sel 50) ⟨fun _ => .int .i64 0⟩)),
         iOp (put 49) (.v false (oEv (sel 51)))])
       (sCond (sel 49)
         (sSeq (sRegion [iOp (put 52) (.v false (oEv (sel 12))),
            iOp (put 10) (.v false (oEv (sel 52)))])
          (sEx .ret))
         (sSeq (sDr [iOp (put 54) (.v false (oEv (sel 0))),
            iOp (put 55) (.v false (oNilCheck (sel 54))),
            iOp (put 56) (.v false (oFieldAddr 0 (sel 55))),
            iOp (put 57) (.v false (oFieldAddr 0 (sel 56))),
            iOp (put 58) (.v true (oLoad1 (sel 57))),
            iOp (put 59) (.e (eCallF 29 [(sel 58)])),
            iOp (put 60) (.v false (oFieldAddr 3 (sel 6))),
            iOp (put 61) (.v true (oLoad1 (sel 60))),
            iOp (put 62) (.v false (oLenS (sel 61))),
            iOp (put 63) (.v false (oInt2 fAdd (sel 59) (sel 62))),
            iOp (put 64) (.v false (oInt2 fGtr (sel 63) ⟨fun _ => .int .i64 65536⟩)),
            iOp (put 53) (.v false (oEv (sel 64)))]
            [(7, none, (oLoad1 (sel 60)), [0, 6])])
          (sCond (sel 53)
            (sSeq (sRegion [iOp (put 10) (.v false (oEv ⟨fun _ => .int .i64 9⟩))])
             (sEx .ret))
            (sEx .normal))))))
     (sSeq (sRegion [iOp (put 13) (.v false (oEv ⟨fun _ => .int .i64 (-1)⟩))])
      (sSeq (sSeq (sRegion [iOp (put 65) (.v false (oEv (sel 2))),
          iOp (put 66) (.v false (oInt2 fGeq (sel 65) ⟨fun _ => .int .i64 0⟩))])
        (sCond (sel 66)
          (sRegion [iOp (put 67) (.v false (oEv (sel 4))),
            iOp (put 68) (.e (eCallF 30 [(sel 67)])),
            iOp (put 69) (.v false (oEv (sel 2))),
            iOp (put 70) (.e (eCallF 30 [(sel 69)])),
            iOp (put 71) (.v false (oInt2 fAdd (sel 68) (sel 70))),
            iOp (put 13) (.v false (oEv (sel 71)))])
          (sEx .normal)))
       (sSeq (sSeq (sRegion [iOp (put 72) (.v false (oEv (sel 0))),
           iOp (put 73) (.v false (oNilCheck (sel 72))),
           iOp (put 74) (.v false (oFieldAddr 0 (sel 73))),
           iOp (put 75) (.v false (oFieldAddr 0 (sel 74))),
           iOp (put 76) (.v true (oLoad1 (sel 75))),
           iOp (put 77) (.v false (oEv (sel 11))),
           iOp (put 78) (.v false (oEv (sel 13))),
           iOp (put 79) (.v false (oEv (sel 3))),
           iOp (put 80) (.e (eCallF 31 [(sel 76), (sel 77), (sel 78), (sel 79)])),
           iOp (put 14) (.v false (oEv (sel 80)))])
         (sSeq (sRegion [iOp (put 81) (.v false (oEv (sel 14))),
            iOp (put 82) (.v false (oNe (.one 1) (sel 81) ⟨fun _ => .int .i64 0⟩))])
          (sCond (sel 82)
            (sSeq (sRegion [iOp (put 83) (.v false (oEv (sel 14))),
               iOp (put 10) (.v false (oEv (sel 83)))])
             (sEx .ret))
            (sEx .normal))))
        (sSeq (sSeq (sRegion [iOp (put 84) (.v false (oFieldAddr 1 (sel 6))),
            iOp (put 85) (.v true (oLoad1 (sel 84))),
            iOp (put 86) (.v false (oNot (sel 85)))])
          (sCond (sel 86)
            (sRegion [iOp (put 87) (.v false (oEv (sel 0))),
              iOp (put 88) (.v false (oNilCheck (sel 87))),
              iOp (put 89) (.v false (oFieldAddr 0 (sel 88))),
              iOp (put 90) (.v false (oFieldAddr 12 (sel 89))),
              iOp (put 91) (.v true (oLoad1 (sel 90))),
              iOp (put 92) (.v false (oFieldAddr 0 (sel 6))),
              iOp (put 93) (.v true (oLoad1 (sel 92))),
              iOp (put 94) (.v false (oIndexAddrS 1 (sel 91) (sel 93))),
              iOp (put 95) (.v true (oLoad1 (sel 94))),
              iOp (put 96) (.v false (oInt2 fAdd (sel 95) ⟨fun _ => .int .u16 1⟩)),
              iOp (put 97) (.v false (oIndexAddrS 1 (sel 91) (sel 93))),
              iOp ⟨fun _ a => a⟩ (.e (eStore 1 (sel 97) (sel 96)))])
            (sEx .normal)))
         (sSeq (sRegion [iOp (put 10) (.v false (oEv ⟨fun _ => .int .i64 0⟩))])
          (sEx .ret)))))))))⟩
theorem d9 : denF Tryz.prog 9 = some c9 := denF_of (by kernel_rfl)
/-- (*bollard/xfer.End).Tell -/
noncomputable def c10 : CF := ⟨20, [.tmp (sel 4)],
  sSeq (sRegion [iOp (put 4) (.v false (oEv ⟨fun _ => .slice none 0 0⟩))])
  (sSeq (sSeq (sRegion [iOp (put 6) (.v false (oEv (sel 0))),
      iOp (put 7) (.v false (oEq (.one 3) (sel 6) ⟨fun _ => .pointer none⟩))])
    (sCond (sel 7)
      (sSeq (sRegion [iOp (put 4) (.v false (oEv ⟨fun _ => .slice none 0 0⟩))])
       (sEx .ret))
      (sEx .normal)))
   (sSeq (sRegion [iOp (put 8) (.v false (oEv (sel 0))),
      iOp (put 9) (.v false (oNilCheck (sel 8))),
      iOp (put 10) (.v false (oFieldAddr 18 (sel 9))),
      iOp (put 11) (.e (eCallF 32 [(sel 10)])),
      iOp (put 5) (.v false (oEv (sel 11)))])
    (sSeq (sRegion [iOp (put 12) (.v false (oEv (sel 5))),
       iOp (put 13) (.v false (oEv (sel 0))),
       iOp (put 14) (.v false (oNilCheck (sel 13))),
       iOp (put 15) (.v false (oFieldAddr 0 (sel 14))),
       iOp (put 16) (.v false (oEv (sel 1))),
       iOp (put 17) (.e (eCallF 30 [(sel 16)])),
       iOp (put 18) (.e (eCallF 33 [(sel 15), (sel 17)])),
       iOp (put 19) (.e (eAppend 42 12 144 (sel 12) (sel 18))),
       iOp (put 4) (.v false (oEv (sel 19)))])
     (sEx .ret))))⟩
theorem d10 : denF Tryz.prog 10 = some c10 := denF_of (by kernel_rfl)
/-- (*bollard/xfer.End).Hear -/
noncomputable def c12 : CF := ⟨34, [.tmp (sel 6)],
  sSeq (sRegion [iOp (put 4) (.a (aBox 42 (sel 1))),
    iOp (put 6) (.v false (oEv ⟨fun _ => .int .i64 0⟩))])
  (sSeq (sSeq (sRegion [iOp (put 7) (.v false (oEv (sel 0))),
      iOp (put 8) (.v false (oEq (.one 3) (sel 7) ⟨fun _ => .pointer none⟩))])
    (sCond (sel 8)
      (sSeq (sRegion [iOp (put 6) (.v false (oEv ⟨fun _ => .int .i64 1⟩))])
       (sEx .ret))
      (sEx .normal)))
   (sSeq (sSeq (sRegion [iOp (put 9) (.v false (oFieldAddr 0 (sel 4))),
       iOp (put 10) (.v true (oLoad1 (sel 9)))])
     (sBlock 0 (sSeq (sRegion [iOp (put 12) (.v false (oEq (.one 1) (sel 10) ⟨fun _ => .int .u8 0⟩)),
         iOp (put 11) (.v false (oEv (sel 12)))])
       (sCond (sel 11)
         (sSeq (sRegion [iOp (put 13) (.v false (oEv (sel 0))),
            iOp (put 14) (.v false (oNilCheck (sel 13))),
            iOp (put 15) (.v false (oFieldAddr 18 (sel 14))),
            iOp (put 16) (.v true (oLoadN 12 (sel 4))),
            iOp (put 17) (.e (eCallF 34 [(sel 15), (sel 16)])),
            iOp (put 6) (.v false (oEv (sel 17)))])
          (sEx .ret))
         (sSeq (sRegion [iOp (put 19) (.v false (oEq (.one 1) (sel 10) ⟨fun _ => .int .u8 3⟩)),
            iOp (put 18) (.v false (oEv (sel 19)))])
          (sCond (sel 18)
            (sSeq (sDr [iOp (put 20) (.v false (oEv (sel 0))),
               iOp (put 21) (.v false (oNilCheck (sel 20))),
               iOp (put 22) (.v false (oFieldAddr 0 (sel 21))),
               iOp (put 23) (.v true (oLoadN 12 (sel 4))),
               iOp (put 24) (.v false (oEv (sel 2))),
               iOp (put 25) (.e (eCallF 30 [(sel 24)])),
               iOp (put 26) (.e (eCallF 35 [(sel 22), (sel 23), (sel 25)])),
               iOp (put 6) (.v false (oEv (sel 26)))]
               [(3, none, (oLoadN 12 (sel 4)), [0, 6])])
             (sEx .ret))
            (sSeq (sRegion [iOp (put 28) (.v false (oEq (.one 1) (sel 10) ⟨fun _ => .int .u8 192⟩)),
               iOp (put 27) (.v false (oEv (sel 28)))])
             (sCond (sel 27)
               (sSeq (sRegion [iOp (put 29) (.v false (oEv (sel 0))),
                  iOp (put 30) (.v false (oNilCheck (sel 29))),
                  iOp (put 31) (.v false (oFieldAddr 18 (sel 30))),
                  iOp (put 32) (.v true (oLoadN 12 (sel 4))),
                  iOp (put 33) (.e (eCallF 36 [(sel 31), (sel 32)]))])
                (sSeq (sRegion [iOp (put 6) (.v false (oEv ⟨fun _ => .int .i64 0⟩))])
                 (sEx .ret)))
               (sEx .normal)))))))))
    (sSeq (sRegion [iOp (put 6) (.v false (oEv ⟨fun _ => .int .i64 1⟩))])
     (sEx .ret))))⟩
theorem d12 : denF Tryz.prog 12 = some c12 := denF_of (by kernel_rfl)
/-- (*bollard/xfer.End).Messages -/
noncomputable def c13 : CF := ⟨11, [.tmp (sel 2)],
  sSeq (sRegion [iOp (put 2) (.v false (oEv ⟨fun _ => .slice none 0 0⟩))])
  (sSeq (sSeq (sRegion [iOp (put 3) (.v false (oEv (sel 0))),
      iOp (put 4) (.v false (oEq (.one 3) (sel 3) ⟨fun _ => .pointer none⟩))])
    (sCond (sel 4)
      (sSeq (sRegion [iOp (put 2) (.v false (oEv ⟨fun _ => .slice none 0 0⟩))])
       (sEx .ret))
      (sEx .normal)))
   (sSeq (sRegion [iOp (put 5) (.v false (oEv (sel 0))),
      iOp (put 6) (.v false (oNilCheck (sel 5))),
      iOp (put 7) (.v false (oFieldAddr 18 (sel 6))),
      iOp (put 8) (.v false (oFieldAddr 1 (sel 7))),
      iOp (put 9) (.v true (oLoad1 (sel 8))),
      iOp (put 10) (.e (eCallF 37 [(sel 9)])),
      iOp (put 2) (.v false (oEv (sel 10)))])
    (sEx .ret)))⟩
theorem d13 : denF Tryz.prog 13 = some c13 := denF_of (by kernel_rfl)
/-- (*bollard/xfer.End).Idle -/
noncomputable def c14 : CF := ⟨22, [.tmp (sel 2)],
  sSeq (sRegion [iOp (put 2) (.v false (oEv ⟨fun _ => .bool false⟩))])
  (sSeq (sRegion [iOp (put 3) (.v false (oEv (sel 0))),
     iOp (put 4) (.v false (oEq (.one 3) (sel 3) ⟨fun _ => .pointer none⟩)),
     iOp (put 5) (.v false (oEv (sel 4))),
     iGuard (sel 5) false (put 6) (iOp (put 6) (.v false (oEv (sel 0)))),
     iGuard (sel 5) false (put 7) (iOp (put 7) (.v false (oNilCheck (sel 6)))),
     iGuard (sel 5) false (put 8) (iOp (put 8) (.v false (oFieldAddr 0 (sel 7)))),
     iGuard (sel 5) false (put 9) (iOp (put 9) (.v false (oFieldAddr 0 (sel 8)))),
     iGuard (sel 5) false (put 10) (iOp (put 10) (.v true (oLoad1 (sel 9)))),
     iGuard (sel 5) false (put 11) (iOp (put 11) (.e (eCallF 38 [(sel 10)]))),
     iGuard (sel 5) false (put 12) (iOp (put 12) (.v false (oEq (.one 1) (sel 11) ⟨fun _ => .int .i64 0⟩))),
     iGuard (sel 5) false (put 13) (iOp (put 13) (.v false (oEv (sel 12)))),
     iGuard (sel 13) true (put 14) (iOp (put 14) (.v false (oEv (sel 0)))),
     iGuard (sel 13) true (put 15) (iOp (put 15) (.v false (oNilCheck (sel 14)))),
     iGuard (sel 13) true (put 16) (iOp (put 16) (.v false (oFieldAddr 18 (sel 15)))),
     iGuard (sel 13) true (put 17) (iOp (put 17) (.v false (oFieldAddr 2 (sel 16)))),
     iGuard (sel 13) true (put 18) (iOp (put 18) (.v true (oLoad1 (sel 17)))),
     iGuard (sel 13) true (put 19) (iOp (put 19) (.v false (oNot (sel 18)))),
     iGuard (sel 5) false (put 20) (iOp (put 20) (.v false (oPick (sel 13) (sel 19) ⟨fun _ => .bool false⟩))),
     iOp (put 21) (.v false (oPick (sel 5) ⟨fun _ => .bool true⟩ (sel 20))),
     iOp (put 2) (.v false (oEv (sel 21)))])
   (sEx .ret))⟩
theorem d14 : denF Tryz.prog 14 = some c14 := denF_of (by kernel_rfl)
/-- (*bollard/xfer.End).Due -/
noncomputable def c15 : CF := ⟨21, [.tmp (sel 2), .tmp (sel 3)],
  sSeq (sRegion [iOp (put 2) (.v false (oEv ⟨fun _ => .int .i64 0⟩)),
    iOp (put 3) (.v false (oEv ⟨fun _ => .bool false⟩))])
  (sSeq (sSeq (sRegion [iOp (put 4) (.v false (oEv (sel 0))),
      iOp (put 5) (.v false (oEq (.one 3) (sel 4) ⟨fun _ => .pointer none⟩)),
      iOp (put 6) (.v false (oEv (sel 5))),
      iGuard (sel 6) false (put 7) (iOp (put 7) (.v false (oEv (sel 0)))),
      iGuard (sel 6) false (put 8) (iOp (put 8) (.v false (oNilCheck (sel 7)))),
      iGuard (sel 6) false (put 9) (iOp (put 9) (.v false (oFieldAddr 0 (sel 8)))),
      iGuard (sel 6) false (put 10) (iOp (put 10) (.v false (oFieldAddr 13 (sel 9)))),
      iGuard (sel 6) false (put 11) (iOp (put 11) (.v false (oFieldAddr 0 (sel 10)))),
      iGuard (sel 6) false (put 12) (iOp (put 12) (.v true (oLoad1 (sel 11)))),
      iGuard (sel 6) false (put 13) (iOp (put 13) (.v false (oNot (sel 12)))),
      iOp (put 14) (.v false (oPick (sel 6) ⟨fun _ => .bool true⟩ (sel 13)))])
    (sCond (sel 14)
      (sSeq (sRegion [iOp (put 2) (.v false (oEv ⟨fun _ => .int .i64 0⟩)),
         iOp (put 3) (.v false (oEv ⟨fun _ => .bool false⟩))])
       (sEx .ret))
      (sEx .normal)))
   (sSeq (sRegion [iOp (put 15) (.v false (oEv (sel 0))),
      iOp (put 16) (.v false (oNilCheck (sel 15))),
      iOp (put 17) (.v false (oFieldAddr 0 (sel 16))),
      iOp (put 18) (.v false (oFieldAddr 13 (sel 17))),
      iOp (put 19) (.v false (oFieldAddr 1 (sel 18))),
      iOp (put 20) (.v true (oLoad1 (sel 19))),
      iOp (put 2) (.v false (oEv (sel 20))),
      iOp (put 3) (.v false (oEv ⟨fun _ => .bool true⟩))])
    (sEx .ret)))⟩
theorem d15 : denF Tryz.prog 15 = some c15 := denF_of (by kernel_rfl)
/-- (*bollard/xfer.End).Next -/
noncomputable def c17 : CF := ⟨11, [.tmp (sel 2)],
  sSeq (sRegion [iOp (put 2) (.v false (oEv ⟨fun _ => .int .u32 0⟩))])
  (sSeq (sSeq (sRegion [iOp (put 3) (.v false (oEv (sel 0))),
      iOp (put 4) (.v false (oEq (.one 3) (sel 3) ⟨fun _ => .pointer none⟩))])
    (sCond (sel 4)
      (sSeq (sRegion [iOp (put 2) (.v false (oEv ⟨fun _ => .int .u32 0⟩))])
       (sEx .ret))
      (sEx .normal)))
   (sSeq (sRegion [iOp (put 5) (.v false (oEv (sel 0))),
      iOp (put 6) (.v false (oNilCheck (sel 5))),
      iOp (put 7) (.v false (oFieldAddr 0 (sel 6))),
      iOp (put 8) (.v false (oFieldAddr 0 (sel 7))),
      iOp (put 9) (.v true (oLoad1 (sel 8))),
      iOp (put 10) (.e (eCallF 39 [(sel 9)])),
      iOp (put 2) (.v false (oEv (sel 10)))])
    (sEx .ret)))⟩
theorem d17 : denF Tryz.prog 17 = some c17 := denF_of (by kernel_rfl)
/-- (*bollard/xfer.End).Restart -/
noncomputable def c18 : CF := ⟨31, [],
  sBlock 0 (sSeq (sRegion [iOp (put 7) (.v false (oEv (sel 0))),
     iOp (put 8) (.v false (oEq (.one 3) (sel 7) ⟨fun _ => .pointer none⟩)),
     iOp (put 6) (.v false (oEv (sel 8)))])
   (sCond (sel 6)
     (sEx .normal)
     (sSeq (sRegion [iOp (put 10) (.v false (oEv (sel 2))),
        iOp (put 9) (.v false (oEv (sel 10)))])
      (sCond (sel 9)
        (sRegion [iOp (put 11) (.v false (oEv (sel 0))),
          iOp (put 12) (.v false (oNilCheck (sel 11))),
          iOp (put 13) (.v false (oFieldAddr 18 (sel 12))),
          iOp (put 14) (.v false (oFieldAddr 1 (sel 13))),
          iOp (put 15) (.v true (oLoad1 (sel 14))),
          iOp (put 16) (.v false (oEv (sel 1))),
          iOp (put 17) (.e (eCallF 40 [(sel 15), (sel 16)]))])
        (sSeq (sRegion [iOp (put 19) (.v false (oEv (sel 0))),
           iOp (put 20) (.v false (oNilCheck (sel 19))),
           iOp (put 21) (.v false (oFieldAddr 0 (sel 20))),
           iOp (put 22) (.v false (oEv (sel 1))),
           iOp (put 23) (.e (eCallF 27 [(sel 21), (sel 22)])),
           iOp (put 18) (.v false (oEv (sel 23)))])
         (sCond (sel 18)
           (sRegion [iOp (put 24) (.v false (oEv (sel 0))),
             iOp (put 25) (.v false (oNilCheck (sel 24))),
             iOp (put 26) (.v false (oFieldAddr 0 (sel 25))),
             iOp (put 27) (.v false (oFieldAddr 12 (sel 26))),
             iOp (put 28) (.v true (oLoad1 (sel 27))),
             iOp (put 29) (.v false (oEv (sel 1))),
             iOp (put 30) (.v false (oIndexAddrS 1 (sel 28) (sel 29))),
             iOp ⟨fun _ a => a⟩ (.e (eStore 1 (sel 30) ⟨fun _ => .int .u16 0⟩))])
           (sEx .normal)))))))⟩
theorem d18 : denF Tryz.prog 18 = some c18 := denF_of (by kernel_rfl)
/-- (*bollard/xfer.End).Tick -/
noncomputable def c19 : CF := ⟨71, [.tmp (sel 4)],
  sSeq (sRegion [iOp (put 4) (.v false (oEv ⟨fun _ => .bool false⟩))])
  (sSeq (sSeq (sDr [iOp (put 5) (.v false (oEv (sel 0))),
      iOp (put 6) (.v false (oEq (.one 3) (sel 5) ⟨fun _ => .pointer none⟩)),
      iOp (put 7) (.v false (oEv (sel 6))),
      iGuard (sel 7) false (put 8) (iOp (put 8) (.v false (oEv (sel 0)))),
      iGuard (sel 7) false (put 9) (iOp (put 9) (.v false (oNilCheck (sel 8)))),
      iGuard (sel 7) false (put 10) (iOp (put 10) (.v false (oFieldAddr 0 (sel 9)))),
      iGuard (sel 7) false (put 11) (iOp (put 11) (.v false (oFieldAddr 13 (sel 10)))),
      iGuard (sel 7) false (put 12) (iOp (put 12) (.v false (oFieldAddr 0 (sel 11)))),
      iGuard (sel 7) false (put 13) (iOp (put 13) (.v true (oLoad1 (sel 12)))),
      iGuard (sel 7) false (put 14) (iOp (put 14) (.v false (oNot (sel 13)))),
      iOp (put 15) (.v false (oPick (sel 7) ⟨fun _ => .bool true⟩ (sel 14))),
      iOp (put 16) (.v false (oEv (sel 15))),
      iGuard (sel 16) false (put 17) (iOp (put 17) (.v false (oEv (sel 0)))),
      iGuard (sel 16) false (put 18) (iOp (put 18) (.v false (oNilCheck (sel 17)))),
      iGuard (sel 16) false (put 19) (iOp (put 19) (.v false (oFieldAddr 0 (sel 18)))),
      iGuard (sel 16) false (put 20) (iOp (put 20) (.v false (oFieldAddr 13 (sel 19)))),
      iGuard (sel 16) false (put 21) (iOp (put 21) (.v false (oFieldAddr 1 (sel 20)))),
      iGuard (sel 16) false (put 22) (iOp (put 22) (.v true (oLoad1 (sel 21)))),
      iGuard (sel 16) false (put 23) (iOp (put 23) (.v false (oEv (sel 1)))),
      iGuard (sel 16) false (put 24) (iOp (put 24) (.e (eCallF 30 [(sel 23)]))),
      iGuard (sel 16) false (put 25) (iOp (put 25) (.v false (oInt2 fGtr (sel 22) (sel 24)))),
      iOp (put 26) (.v false (oPick (sel 16) ⟨fun _ => .bool true⟩ (sel 25)))]
      [(17, some ((sel 16), false), (oLoad1 (sel 21)), [0, 20])])
    (sCond (sel 26)
      (sSeq (sRegion [iOp (put 4) (.v false (oEv ⟨fun _ => .bool false⟩))])
       (sEx .ret))
      (sEx .normal)))
   (sSeq (sRegion [iOp (put 27) (.v false (oEv (sel 0))),
      iOp (put 28) (.v false (oBuild [.bool false, .int .i64 0] [])),
      iOp (put 29) (.v false (oNilCheck (sel 27))),
      iOp (put 30) (.v false (oFieldAddr 0 (sel 29))),
      iOp (put 31) (.v false (oFieldAddr 13 (sel 30))),
      iOp ⟨fun _ a => a⟩ (.e (eStore 2 (sel 31) (sel 28)))])
    (sSeq (sRegion [iOp (put 32) (.v false (oEv (sel 0))),
       iOp (put 33) (.v false (oNilCheck (sel 32))),
       iOp (put 34) (.v false (oFieldAddr 0 (sel 33))),
       iOp (put 35) (.v false (oFieldAddr 0 (sel 34))),
       iOp (put 36) (.v true (oLoad1 (sel 35))),
       iOp (put 37) (.e (eCallF 41 [(sel 36)]))])
     (sSeq (sDr [iOp (put 38) (.v false (oEv (sel 0))),
        iOp (put 39) (.v false (oEv (sel 0))),
        iOp (put 40) (.v false (oEv (sel 0))),
        iOp (put 41) (.v false (oNilCheck (sel 40))),
        iOp (put 42) (.v false (oFieldAddr 0 (sel 41))),
        iOp (put 43) (.v false (oFieldAddr 1 (sel 42))),
        iOp (put 44) (.v true (oLoadN 6 (sel 43))),
        iOp (put 45) (.e (eCallF 42 [(sel 44)])),
        iOp (put 46) (.v false (oEv (sel 0))),
        iOp (put 47) (.v false (oNilCheck (sel 46))),
        iOp (put 48) (.v false (oFieldAddr 0 (sel 47))),
        iOp (put 49) (.v false (oFieldAddr 7 (sel 48))),
        iOp (put 50) (.v true (oLoadN 4 (sel 49))),
        iOp (put 51) (.e (eCallF 43 [(sel 50)])),
        iOp (put 52) (.v false (oNilCheck (sel 38))),
        iOp (put 53) (.v false (oFieldAddr 0 (sel 52))),
        iOp (put 54) (.v false (oFieldAddr 1 (sel 53))),
        iOp ⟨fun _ a => a⟩ (.e (eStore 6 (sel 54) (sel 45))),
        iOp (put 55) (.v false (oNilCheck (sel 39))),
        iOp (put 56) (.v false (oFieldAddr 0 (sel 55))),
        iOp (put 57) (.v false (oFieldAddr 7 (sel 56))),
        iOp ⟨fun _ a => a⟩ (.e (eStore 4 (sel 57) (sel 51)))]
        [(12, none, (oLoadN 4 (sel 49)), [0, 8])])
      (sSeq (sRegion [iOp (put 58) (.v false (oEv (sel 0))),
         iOp (put 59) (.v false (oNilCheck (sel 58))),
         iOp (put 60) (.v false (oFieldAddr 0 (sel 59))),
         iOp (put 61) (.v false (oFieldAddr 17 (sel 60))),
         iOp (put 62) (.v true (oLoad1 (sel 61))),
         iOp (put 63) (.v false (oInt2 fAdd (sel 62) ⟨fun _ => .int .i64 1⟩)),
         iOp (put 64) (.v false (oNilCheck (sel 58))),
         iOp (put 65) (.v false (oFieldAddr 0 (sel 64))),
         iOp (put 66) (.v false (oFieldAddr 17 (sel 65))),
         iOp ⟨fun _ a => a⟩ (.e (eStore 1 (sel 66) (sel 63)))])
       (sSeq (sRegion [iOp (put 67) (.v false (oEv (sel 0))),
          iOp (put 68) (.v false (oNilCheck (sel 67))),
          iOp (put 69) (.v false (oFieldAddr 0 (sel 68))),
          iOp (put 70) (.v false (oFieldAddr 15 (sel 69))),
          iOp ⟨fun _ a => a⟩ (.e (eStore 1 (sel 70) ⟨fun _ => .bool false⟩))])
        (sSeq (sRegion [iOp (put 4) (.v false (oEv ⟨fun _ => .bool true⟩))])
         (sEx .ret))))))))⟩
theorem d19 : denF Tryz.prog 19 = some c19 := denF_of (by kernel_rfl)
/-- (*bollard/xfer.End).Failures -/
noncomputable def c20 : CF := ⟨10, [.tmp (sel 2)],
  sSeq (sRegion [iOp (put 2) (.v false (oEv ⟨fun _ => .int .i64 0⟩))])
  (sSeq (sSeq (sRegion [iOp (put 3) (.v false (oEv (sel 0))),
      iOp (put 4) (.v false (oEq (.one 3) (sel 3) ⟨fun _ => .pointer none⟩))])
    (sCond (sel 4)
      (sSeq (sRegion [iOp (put 2) (.v false (oEv ⟨fun _ => .int .i64 0⟩))])
       (sEx .ret))
      (sEx .normal)))
   (sSeq (sRegion [iOp (put 5) (.v false (oEv (sel 0))),
      iOp (put 6) (.v false (oNilCheck (sel 5))),
      iOp (put 7) (.v false (oFieldAddr 0 (sel 6))),
      iOp (put 8) (.v false (oFieldAddr 17 (sel 7))),
      iOp (put 9) (.v true (oLoad1 (sel 8))),
      iOp (put 2) (.v false (oEv (sel 9)))])
    (sEx .ret)))⟩
theorem d20 : denF Tryz.prog 20 = some c20 := denF_of (by kernel_rfl)
/-- (*bollard/xfer.End).Cum -/
noncomputable def c21 : CF := ⟨11, [.tmp (sel 2)],
  sSeq (sRegion [iOp (put 2) (.v false (oEv ⟨fun _ => .int .u32 0⟩))])
  (sSeq (sSeq (sRegion [iOp (put 3) (.v false (oEv (sel 0))),
      iOp (put 4) (.v false (oEq (.one 3) (sel 3) ⟨fun _ => .pointer none⟩))])
    (sCond (sel 4)
      (sSeq (sRegion [iOp (put 2) (.v false (oEv ⟨fun _ => .int .u32 0⟩))])
       (sEx .ret))
      (sEx .normal)))
   (sSeq (sRegion [iOp (put 5) (.v false (oEv (sel 0))),
      iOp (put 6) (.v false (oNilCheck (sel 5))),
      iOp (put 7) (.v false (oFieldAddr 18 (sel 6))),
      iOp (put 8) (.v false (oFieldAddr 0 (sel 7))),
      iOp (put 9) (.v true (oLoad1 (sel 8))),
      iOp (put 10) (.e (eCallF 44 [(sel 9)])),
      iOp (put 2) (.v false (oEv (sel 10)))])
    (sEx .ret)))⟩
theorem d21 : denF Tryz.prog 21 = some c21 := denF_of (by kernel_rfl)
end Go.Proofs.YtmlagbknnngjjaaGreat

/-! The law awake, by one computation of the kernel. -/
namespace Go.Proofs.YtmlagbknnngjjaaGreat
open Go Vm
abbrev G0 : Sums := oneSum 7
theorem mixed : Tryz.prog.follows .mixedOrders = true := by kernel_rfl
theorem awakeSays : Vm.says Tryz.prog (fun _ => none) 400 7 [] = true := by kernel_rfl
theorem sumsAwake (B : Nat) : SumsOK Tryz.prog B G0 := sums_one (enters_of (by kernel_rfl)) (fun w => Vm.says_true mixed awakeSays w) B
theorem own : ownKnob Tryz.prog.godebug = none := by kernel_rfl
theorem laidOut : laidOutB Tryz.prog = true := by kernel_rfl
end Go.Proofs.YtmlagbknnngjjaaGreat

