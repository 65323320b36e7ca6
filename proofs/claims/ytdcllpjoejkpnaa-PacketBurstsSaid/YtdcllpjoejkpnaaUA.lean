/- Part of a proof by an abstract run of the program's code: UA. No condition. -/
import Derived.Test.YtdcllpjoejkpnaaChecked
import Derived.Test.YtdcllpjoejkpnaaVmD
namespace Go.Proofs.Ytdcllpjoejkpnaa
open Go Vm
noncomputable def c6_0 : Vm.Sem := sSeq (sSeq (sRegion [iOp (put 65) (.v false (oEv (sel 12))),
    iOp (put 66) (.v false (oInt2 fLss (sel 65) ⟨fun _ => .int .i64 4⟩))])
  (sCond (sel 66)
    (sEx .normal)
    (sEx (.exit 0))))
 (sSeq (sBlock 1 (sRegion [iOp (put 69) (.v false (oEv (sel 9))),
     iOp (put 70) (.v false (oEv (sel 11))),
     iOp (put 71) (.v false (oEv (sel 12))),
     iOp (put 72) (.v false (oInt2 fAdd (sel 70) (sel 71))),
     iOp (put 73) (.v false (oEv (sel 9))),
     iOp (put 74) (.v false (oEv (sel 11))),
     iOp (put 75) (.v false (oEv (sel 12))),
     iOp (put 76) (.v false (oInt2 fAdd (sel 74) (sel 75))),
     iOp (put 77) (.v false (oIndexAddrS 1 (sel 73) (sel 76))),
     iOp (put 78) (.v true (oLoad1 (sel 77))),
     iOp (put 79) (.v false (oEv (sel 2))),
     iOp (put 80) (.v false (oEv (sel 12))),
     iOp (put 81) (.v false (oInt2 fMul ⟨fun _ => .int .i64 8⟩ (sel 80))),
     iOp (put 82) (.v false (oConvInt .u64 (sel 81))),
     iOp (put 83) (.v false (oSh fShr (sel 79) (sel 82))),
     iOp (put 84) (.v false (oConvInt .u8 (sel 83))),
     iOp (put 85) (.v false (oInt2 fXor (sel 78) (sel 84))),
     iOp (put 86) (.v false (oIndexAddrS 1 (sel 69) (sel 72))),
     iOp ⟨fun _ a => a⟩ (.e (eStore 1 (sel 86) (sel 85)))]))
  (sRegion [iOp (put 67) (.v false (oEv (sel 12))),
    iOp (put 68) (.v false (oInt2 fAdd (sel 67) ⟨fun _ => .int .i64 1⟩)),
    iOp (put 12) (.v false (oEv (sel 68)))]))
/-- bollard/bollardlaw08.PacketBursts -/
noncomputable def c6 : CF := ⟨98, [.tmp (sel 6)],
  sSeq (sRegion [iOp (put 3) (.a (aBox 27 (sel 0))),
    iOp (put 6) (.v false (oEv ⟨fun _ => .bool false⟩))])
  (sSeq (sRegion [iOp (put 15) (.e (eCallF 10 [])),
     iOp (put 7) (.v false (oEv (sel 15)))])
   (sSeq (sSeq (sRegion [iOp (put 16) (.v false (oFieldAddr 3 (sel 3))),
       iOp (put 17) (.v true (oLoad1 (sel 16))),
       iOp (put 18) (.e (eCallF 11 [(sel 17)])),
       iOp (put 19) (.v false (oNot (sel 18))),
       iOp (put 20) (.v false (oEv (sel 19))),
       iGuard (sel 20) false (put 21) (iOp (put 21) (.v false (oEv (sel 2)))),
       iGuard (sel 20) false (put 22) (iOp (put 22) (.v false (oEq (.one 1) (sel 21) ⟨fun _ => .int .u32 0⟩))),
       iOp (put 23) (.v false (oPick (sel 20) ⟨fun _ => .bool true⟩ (sel 22)))])
     (sCond (sel 23)
       (sSeq (sRegion [iOp (put 24) (.v false (oEv (sel 7))),
          iOp (put 6) (.v false (oEv (sel 24)))])
        (sEx .ret))
       (sEx .normal)))
    (sSeq (sRegion [iOp (put 25) (.e (eCallF 23 [])),
       iOp (put 8) (.v false (oEv (sel 25)))])
     (sSeq (sRegion [iOp (put 27) (.v false (oEv (sel 8))),
        iOp (put 28) (.v true (oLoadN 4 (sel 3))),
        iOp (put 29) (.e (eCallF 13 [(sel 27), (sel 28)])),
        iOp (put 26) (.v false (oEv (sel 29))),
        iOp (put 30) (.v false (oExtract (sel 26) 0)),
        iOp (put 31) (.v false (oExtract (sel 26) 1)),
        iOp (put 9) (.v false (oEv (sel 30))),
        iOp (put 10) (.v false (oEv (sel 31)))])
      (sSeq (sSeq (sRegion [iOp (put 32) (.v false (oEv (sel 10))),
          iOp (put 33) (.v false (oNe (.one 1) (sel 32) ⟨fun _ => .int .i64 0⟩)),
          iOp (put 34) (.v false (oEv (sel 33))),
          iGuard (sel 34) false (put 35) (iOp (put 35) (.v false (oEv (sel 9)))),
          iGuard (sel 34) false (put 36) (iOp (put 36) (.v false (oLenS (sel 35)))),
          iGuard (sel 34) false (put 37) (iOp (put 37) (.v false (oInt2 fLss (sel 36) ⟨fun _ => .int .i64 16⟩))),
          iOp (put 38) (.v false (oPick (sel 34) ⟨fun _ => .bool true⟩ (sel 37)))])
        (sCond (sel 38)
          (sSeq (sRegion [iOp (put 39) (.v false (oEv (sel 7))),
             iOp (put 40) (.v false (oEv (sel 39))),
             iGuard (sel 40) true (put 41) (iOp (put 41) (.v false (oEv (sel 10)))),
             iGuard (sel 40) true (put 42) (iOp (put 42) (.v false (oNe (.one 1) (sel 41) ⟨fun _ => .int .i64 0⟩))),
             iOp (put 43) (.v false (oPick (sel 40) (sel 42) ⟨fun _ => .bool false⟩)),
             iOp (put 6) (.v false (oEv (sel 43)))])
           (sEx .ret))
          (sEx .normal)))
       (sSeq (sRegion [iOp (put 44) (.v false (oEv (sel 1))),
          iOp (put 45) (.v false (oInt2 fAnd (sel 44) ⟨fun _ => .int .i64 65535⟩)),
          iOp (put 46) (.v false (oEv (sel 9))),
          iOp (put 47) (.v false (oLenS (sel 46))),
          iOp (put 48) (.v false (oInt2 fSub (sel 47) ⟨fun _ => .int .i64 3⟩)),
          iOp (put 49) (.v false (oInt2 fRem (sel 45) (sel 48))),
          iOp (put 11) (.v false (oEv (sel 49)))])
        (sSeq (sSeq (sRegion [iOp (put 50) (.v false (oEv (sel 11))),
            iOp (put 51) (.v false (oInt2 fGtr (sel 50) ⟨fun _ => .int .i64 4⟩)),
            iOp (put 52) (.v false (oEv (sel 51))),
            iGuard (sel 52) true (put 53) (iOp (put 53) (.v false (oEv (sel 11)))),
            iGuard (sel 52) true (put 54) (iOp (put 54) (.v false (oInt2 fLss (sel 53) ⟨fun _ => .int .i64 8⟩))),
            iOp (put 55) (.v false (oPick (sel 52) (sel 54) ⟨fun _ => .bool false⟩)),
            iOp (put 56) (.v false (oEv (sel 55))),
            iGuard (sel 56) false (put 57) (iOp (put 57) (.v false (oEv (sel 11)))),
            iGuard (sel 56) false (put 58) (iOp (put 58) (.v false (oInt2 fGtr (sel 57) ⟨fun _ => .int .i64 8⟩))),
            iGuard (sel 56) false (put 59) (iOp (put 59) (.v false (oEv (sel 58)))),
            iGuard (sel 59) true (put 60) (iOp (put 60) (.v false (oEv (sel 11)))),
            iGuard (sel 59) true (put 61) (iOp (put 61) (.v false (oInt2 fLss (sel 60) ⟨fun _ => .int .i64 12⟩))),
            iGuard (sel 56) false (put 62) (iOp (put 62) (.v false (oPick (sel 59) (sel 61) ⟨fun _ => .bool false⟩))),
            iOp (put 63) (.v false (oPick (sel 56) ⟨fun _ => .bool true⟩ (sel 62)))])
          (sCond (sel 63)
            (sSeq (sRegion [iOp (put 64) (.v false (oEv (sel 7))),
               iOp (put 6) (.v false (oEv (sel 64)))])
             (sEx .ret))
            (sEx .normal)))
         (sSeq (sSeq (sRegion [iOp (put 12) (.v false (oEv ⟨fun _ => .int .i64 0⟩))])
           (sBlock 0 (sLoop c6_0)))
          (sSeq (sRegion [iOp (put 88) (.v false (oEv (sel 8))),
             iOp (put 89) (.v false (oEv (sel 9))),
             iOp (put 90) (.e (eCallF 24 [(sel 88), (sel 89)])),
             iOp (put 87) (.v false (oEv (sel 90))),
             iOp (put 91) (.v false (oExtract (sel 87) 0)),
             iOp (put 92) (.v false (oExtract (sel 87) 1)),
             iOp (put 13) (.a (aAlloc 27 [.int .u16 0, .int .u16 0, .int .u32 0, .slice none 0 0])),
             iOp ⟨fun _ a => a⟩ (.e (eStore 4 (sel 13) (sel 91))),
             iOp (put 14) (.v false (oEv (sel 92)))])
           (sSeq (sRegion [iOp (put 93) (.v false (oEv (sel 7))),
              iOp (put 94) (.v false (oEv (sel 93))),
              iGuard (sel 94) true (put 95) (iOp (put 95) (.v false (oEv (sel 14)))),
              iGuard (sel 94) true (put 96) (iOp (put 96) (.v false (oEq (.one 1) (sel 95) ⟨fun _ => .int .i64 4⟩))),
              iOp (put 97) (.v false (oPick (sel 94) (sel 96) ⟨fun _ => .bool false⟩)),
              iOp (put 6) (.v false (oEv (sel 97)))])
            (sEx .ret)))))))))))⟩
theorem d6 : denF Try.prog 6 = some c6 := denF_of (by kernel_rfl)
/-- bollard/bollardlaw08.PacketSums -/
noncomputable def c8 : CF := ⟨87, [.tmp (sel 4)],
  sSeq (sRegion [iOp (put 2) (.a (aBox 27 (sel 0))),
    iOp (put 4) (.v false (oEv ⟨fun _ => .bool false⟩))])
  (sSeq (sRegion [iOp (put 12) (.e (eCallF 10 [])),
     iOp (put 5) (.v false (oEv (sel 12)))])
   (sSeq (sSeq (sRegion [iOp (put 13) (.v false (oFieldAddr 3 (sel 2))),
       iOp (put 14) (.v true (oLoad1 (sel 13))),
       iOp (put 15) (.e (eCallF 11 [(sel 14)])),
       iOp (put 16) (.v false (oNot (sel 15))),
       iOp (put 17) (.v false (oEv (sel 16))),
       iGuard (sel 17) false (put 18) (iOp (put 18) (.v false (oEv (sel 1)))),
       iGuard (sel 17) false (put 19) (iOp (put 19) (.v false (oFieldAddr 2 (sel 2)))),
       iGuard (sel 17) false (put 20) (iOp (put 20) (.v true (oLoad1 (sel 19)))),
       iGuard (sel 17) false (put 21) (iOp (put 21) (.v false (oEq (.one 1) (sel 18) (sel 20)))),
       iOp (put 22) (.v false (oPick (sel 17) ⟨fun _ => .bool true⟩ (sel 21)))])
     (sCond (sel 22)
       (sSeq (sRegion [iOp (put 23) (.v false (oEv (sel 5))),
          iOp (put 4) (.v false (oEv (sel 23)))])
        (sEx .ret))
       (sEx .normal)))
    (sSeq (sRegion [iOp (put 24) (.e (eCallF 23 [])),
       iOp (put 6) (.v false (oEv (sel 24)))])
     (sSeq (sRegion [iOp (put 25) (.v true (oLoadN 4 (sel 2))),
        iOp (put 7) (.a (aAlloc 27 [.int .u16 0, .int .u16 0, .int .u32 0, .slice none 0 0])),
        iOp ⟨fun _ a => a⟩ (.e (eStore 4 (sel 7) (sel 25)))])
      (sSeq (sRegion [iOp (put 26) (.v false (oEv (sel 1))),
         iOp (put 27) (.v false (oFieldAddr 2 (sel 7))),
         iOp ⟨fun _ a => a⟩ (.e (eStore 1 (sel 27) (sel 26)))])
       (sSeq (sRegion [iOp (put 29) (.v false (oEv (sel 6))),
          iOp (put 30) (.v true (oLoadN 4 (sel 2))),
          iOp (put 31) (.e (eCallF 13 [(sel 29), (sel 30)])),
          iOp (put 28) (.v false (oEv (sel 31))),
          iOp (put 32) (.v false (oExtract (sel 28) 0)),
          iOp (put 33) (.v false (oExtract (sel 28) 1)),
          iOp (put 8) (.v false (oEv (sel 32))),
          iOp (put 9) (.v false (oEv (sel 33)))])
        (sSeq (sRegion [iOp (put 35) (.v false (oEv (sel 6))),
           iOp (put 36) (.v true (oLoadN 4 (sel 7))),
           iOp (put 37) (.e (eCallF 13 [(sel 35), (sel 36)])),
           iOp (put 34) (.v false (oEv (sel 37))),
           iOp (put 38) (.v false (oExtract (sel 34) 0)),
           iOp (put 39) (.v false (oExtract (sel 34) 1)),
           iOp (put 10) (.v false (oEv (sel 38))),
           iOp (put 11) (.v false (oEv (sel 39)))])
         (sSeq (sSeq (sRegion [iOp (put 40) (.v false (oEv (sel 9))),
             iOp (put 41) (.v false (oNe (.one 1) (sel 40) ⟨fun _ => .int .i64 0⟩))])
           (sCond (sel 41)
             (sSeq (sRegion [iOp (put 42) (.v false (oEv (sel 5))),
                iOp (put 43) (.v false (oEv (sel 42))),
                iGuard (sel 43) true (put 44) (iOp (put 44) (.v false (oEv (sel 9)))),
                iGuard (sel 43) true (put 45) (iOp (put 45) (.v false (oEv (sel 11)))),
                iGuard (sel 43) true (put 46) (iOp (put 46) (.v false (oEq (.one 1) (sel 44) (sel 45)))),
                iOp (put 47) (.v false (oPick (sel 43) (sel 46) ⟨fun _ => .bool false⟩)),
                iOp (put 4) (.v false (oEv (sel 47)))])
              (sEx .ret))
             (sEx .normal)))
          (sSeq (sRegion [iOp (put 48) (.v false (oEv (sel 5))),
             iOp (put 49) (.v false (oEv (sel 48))),
             iGuard (sel 49) true (put 50) (iOp (put 50) (.v false (oEv (sel 11)))),
             iGuard (sel 49) true (put 51) (iOp (put 51) (.v false (oEq (.one 1) (sel 50) ⟨fun _ => .int .i64 0⟩))),
             iOp (put 52) (.v false (oPick (sel 49) (sel 51) ⟨fun _ => .bool false⟩)),
             iOp (put 53) (.v false (oEv (sel 52))),
             iGuard (sel 53) true (put 54) (iOp (put 54) (.v false (oEv (sel 8)))),
             iGuard (sel 53) true (put 55) (iOp (put 55) (.v false (oLenS (sel 54)))),
             iGuard (sel 53) true (put 56) (iOp (put 56) (.v false (oEv (sel 10)))),
             iGuard (sel 53) true (put 57) (iOp (put 57) (.v false (oLenS (sel 56)))),
             iGuard (sel 53) true (put 58) (iOp (put 58) (.v false (oEq (.one 1) (sel 55) (sel 57)))),
             iOp (put 59) (.v false (oPick (sel 53) (sel 58) ⟨fun _ => .bool false⟩)),
             iOp (put 60) (.v false (oEv (sel 59))),
             iGuard (sel 60) true (put 61) (iOp (put 61) (.v false (oEv (sel 8)))),
             iGuard (sel 60) true (put 62) (iOp (put 62) (.v false (oLenS (sel 61)))),
             iGuard (sel 60) true (put 63) (iOp (put 63) (.v false (oInt2 fGeq (sel 62) ⟨fun _ => .int .i64 16⟩))),
             iOp (put 64) (.v false (oPick (sel 60) (sel 63) ⟨fun _ => .bool false⟩)),
             iOp (put 65) (.v false (oEv (sel 64))),
             iGuard (sel 65) true (put 66) (iOp (put 66) (.v false (oEv (sel 8)))),
             iGuard (sel 65) true (put 67) (iOp (put 67) (.v false (oSlice 1 (sel 66) (some ⟨fun _ => .int .i64 8⟩) (some ⟨fun _ => .int .i64 12⟩) none))),
             iGuard (sel 65) true (put 68) (iOp (put 68) (.v false (oEv (sel 10)))),
             iGuard (sel 65) true (put 69) (iOp (put 69) (.v false (oSlice 1 (sel 68) (some ⟨fun _ => .int .i64 8⟩) (some ⟨fun _ => .int .i64 12⟩) none))),
             iGuard (sel 65) true (put 70) (iOp (put 70) (.e (eCallF 15 [(sel 67), (sel 69)]))),
             iGuard (sel 65) true (put 71) (iOp (put 71) (.v false (oNot (sel 70)))),
             iOp (put 72) (.v false (oPick (sel 65) (sel 71) ⟨fun _ => .bool false⟩)),
             iOp (put 73) (.v false (oEv (sel 72))),
             iGuard (sel 73) true (put 74) (iOp (put 74) (.v false (oEv (sel 8)))),
             iGuard (sel 73) true (put 75) (iOp (put 75) (.v false (oSlice 1 (sel 74) (some ⟨fun _ => .int .i64 12⟩) none none))),
             iGuard (sel 73) true (put 76) (iOp (put 76) (.v false (oEv (sel 10)))),
             iGuard (sel 73) true (put 77) (iOp (put 77) (.v false (oSlice 1 (sel 76) (some ⟨fun _ => .int .i64 12⟩) none none))),
             iGuard (sel 73) true (put 78) (iOp (put 78) (.e (eCallF 15 [(sel 75), (sel 77)]))),
             iOp (put 79) (.v false (oPick (sel 73) (sel 78) ⟨fun _ => .bool false⟩)),
             iOp (put 80) (.v false (oEv (sel 79))),
             iGuard (sel 80) true (put 81) (iOp (put 81) (.v false (oEv (sel 8)))),
             iGuard (sel 80) true (put 82) (iOp (put 82) (.v false (oSlice 1 (sel 81) none (some ⟨fun _ => .int .i64 4⟩) none))),
             iGuard (sel 80) true (put 83) (iOp (put 83) (.v false (oEv (sel 10)))),
             iGuard (sel 80) true (put 84) (iOp (put 84) (.v false (oSlice 1 (sel 83) none (some ⟨fun _ => .int .i64 4⟩) none))),
             iGuard (sel 80) true (put 85) (iOp (put 85) (.e (eCallF 15 [(sel 82), (sel 84)]))),
             iOp (put 86) (.v false (oPick (sel 80) (sel 85) ⟨fun _ => .bool false⟩)),
             iOp (put 4) (.v false (oEv (sel 86)))])
           (sEx .ret))))))))))⟩
theorem d8 : denF Try.prog 8 = some c8 := denF_of (by kernel_rfl)
noncomputable def c11_0 : Vm.Sem := sSeq (sSeq (sRegion [iOp (put 7) (.v false (oEv (sel 3))),
    iOp (put 8) (.v false (oEv (sel 0))),
    iOp (put 9) (.v false (oLenS (sel 8))),
    iOp (put 10) (.v false (oInt2 fLss (sel 7) (sel 9)))])
  (sCond (sel 10)
    (sEx .normal)
    (sEx (.exit 0))))
 (sSeq (sBlock 1 (sSeq (sRegion [iOp (put 13) (.v false (oEv (sel 0))),
      iOp (put 14) (.v false (oEv (sel 3))),
      iOp (put 15) (.v false (oIndexAddrS 12 (sel 13) (sel 14))),
      iOp (put 16) (.v true (oLoadN 12 (sel 15))),
      iOp (put 17) (.e (eCallF 12 [(sel 16)])),
      iOp (put 18) (.v false (oNot (sel 17)))])
    (sCond (sel 18)
      (sSeq (sRegion [iOp (put 2) (.v false (oEv ⟨fun _ => .bool false⟩))])
       (sEx .ret))
      (sEx .normal))))
  (sRegion [iOp (put 11) (.v false (oEv (sel 3))),
    iOp (put 12) (.v false (oInt2 fAdd (sel 11) ⟨fun _ => .int .i64 1⟩)),
    iOp (put 3) (.v false (oEv (sel 12)))]))
/-- bollard/bollardlaw08.few -/
noncomputable def c11 : CF := ⟨19, [.tmp (sel 2)],
  sSeq (sRegion [iOp (put 2) (.v false (oEv ⟨fun _ => .bool false⟩))])
  (sSeq (sSeq (sRegion [iOp (put 4) (.v false (oEv (sel 0))),
      iOp (put 5) (.v false (oLenS (sel 4))),
      iOp (put 6) (.v false (oInt2 fGtr (sel 5) ⟨fun _ => .int .i64 80⟩))])
    (sCond (sel 6)
      (sSeq (sRegion [iOp (put 2) (.v false (oEv ⟨fun _ => .bool false⟩))])
       (sEx .ret))
      (sEx .normal)))
   (sSeq (sSeq (sRegion [iOp (put 3) (.v false (oEv ⟨fun _ => .int .i64 0⟩))])
     (sBlock 0 (sLoop c11_0)))
    (sSeq (sRegion [iOp (put 2) (.v false (oEv ⟨fun _ => .bool true⟩))])
     (sEx .ret))))⟩
theorem d11 : denF Try.prog 11 = some c11 := denF_of (by kernel_rfl)
noncomputable def c12_0 : Vm.Sem := sSeq (sSeq (sRegion [iOp (put 32) (.v false (oEv (sel 3))),
    iOp (put 33) (.v false (oFieldAddr 10 (sel 1))),
    iOp (put 34) (.v true (oLoad1 (sel 33))),
    iOp (put 35) (.v false (oLenS (sel 34))),
    iOp (put 36) (.v false (oInt2 fLss (sel 32) (sel 35)))])
  (sCond (sel 36)
    (sEx .normal)
    (sEx (.exit 0))))
 (sSeq (sBlock 1 (sSeq (sRegion [iOp (put 39) (.v false (oFieldAddr 10 (sel 1))),
      iOp (put 40) (.v true (oLoad1 (sel 39))),
      iOp (put 41) (.v false (oEv (sel 3))),
      iOp (put 42) (.v false (oIndexAddrS 2 (sel 40) (sel 41))),
      iOp (put 43) (.v false (oFieldAddr 1 (sel 42))),
      iOp (put 44) (.v true (oLoad1 (sel 43))),
      iOp (put 45) (.v false (oLenS (sel 44))),
      iOp (put 46) (.v false (oInt2 fGtr (sel 45) ⟨fun _ => .int .i64 1300⟩))])
    (sCond (sel 46)
      (sSeq (sRegion [iOp (put 2) (.v false (oEv ⟨fun _ => .bool false⟩))])
       (sEx .ret))
      (sEx .normal))))
  (sRegion [iOp (put 37) (.v false (oEv (sel 3))),
    iOp (put 38) (.v false (oInt2 fAdd (sel 37) ⟨fun _ => .int .i64 1⟩)),
    iOp (put 3) (.v false (oEv (sel 38)))]))
/-- bollard/bollardref07.Few -/
noncomputable def c12 : CF := ⟨47, [.tmp (sel 2)],
  sSeq (sRegion [iOp (put 1) (.a (aBox 33 (sel 0))),
    iOp (put 2) (.v false (oEv ⟨fun _ => .bool false⟩))])
  (sSeq (sSeq (sRegion [iOp (put 4) (.v false (oFieldAddr 7 (sel 1))),
      iOp (put 5) (.v true (oLoad1 (sel 4))),
      iOp (put 6) (.v false (oLenS (sel 5))),
      iOp (put 7) (.v false (oInt2 fGtr (sel 6) ⟨fun _ => .int .i64 100⟩)),
      iOp (put 8) (.v false (oEv (sel 7))),
      iGuard (sel 8) false (put 9) (iOp (put 9) (.v false (oFieldAddr 8 (sel 1)))),
      iGuard (sel 8) false (put 10) (iOp (put 10) (.v true (oLoad1 (sel 9)))),
      iGuard (sel 8) false (put 11) (iOp (put 11) (.v false (oLenS (sel 10)))),
      iGuard (sel 8) false (put 12) (iOp (put 12) (.v false (oInt2 fGtr (sel 11) ⟨fun _ => .int .i64 100⟩))),
      iOp (put 13) (.v false (oPick (sel 8) ⟨fun _ => .bool true⟩ (sel 12))),
      iOp (put 14) (.v false (oEv (sel 13))),
      iGuard (sel 14) false (put 15) (iOp (put 15) (.v false (oFieldAddr 9 (sel 1)))),
      iGuard (sel 14) false (put 16) (iOp (put 16) (.v true (oLoad1 (sel 15)))),
      iGuard (sel 14) false (put 17) (iOp (put 17) (.v false (oLenS (sel 16)))),
      iGuard (sel 14) false (put 18) (iOp (put 18) (.v false (oInt2 fGtr (sel 17) ⟨fun _ => .int .i64 100⟩))),
      iOp (put 19) (.v false (oPick (sel 14) ⟨fun _ => .bool true⟩ (sel 18))),
      iOp (put 20) (.v false (oEv (sel 19))),
      iGuard (sel 20) false (put 21) (iOp (put 21) (.v false (oFieldAddr 10 (sel 1)))),
      iGuard (sel 20) false (put 22) (iOp (put 22) (.v true (oLoad1 (sel 21)))),
      iGuard (sel 20) false (put 23) (iOp (put 23) (.v false (oLenS (sel 22)))),
      iGuard (sel 20) false (put 24) (iOp (put 24) (.v false (oInt2 fGtr (sel 23) ⟨fun _ => .int .i64 40⟩))),
      iOp (put 25) (.v false (oPick (sel 20) ⟨fun _ => .bool true⟩ (sel 24))),
      iOp (put 26) (.v false (oEv (sel 25))),
      iGuard (sel 26) false (put 27) (iOp (put 27) (.v false (oFieldAddr 11 (sel 1)))),
      iGuard (sel 26) false (put 28) (iOp (put 28) (.v true (oLoad1 (sel 27)))),
      iGuard (sel 26) false (put 29) (iOp (put 29) (.v false (oLenS (sel 28)))),
      iGuard (sel 26) false (put 30) (iOp (put 30) (.v false (oInt2 fGtr (sel 29) ⟨fun _ => .int .i64 2000⟩))),
      iOp (put 31) (.v false (oPick (sel 26) ⟨fun _ => .bool true⟩ (sel 30)))])
    (sCond (sel 31)
      (sSeq (sRegion [iOp (put 2) (.v false (oEv ⟨fun _ => .bool false⟩))])
       (sEx .ret))
      (sEx .normal)))
   (sSeq (sSeq (sRegion [iOp (put 3) (.v false (oEv ⟨fun _ => .int .i64 0⟩))])
     (sBlock 0 (sLoop c12_0)))
    (sSeq (sRegion [iOp (put 2) (.v false (oEv ⟨fun _ => .bool true⟩))])
     (sEx .ret))))⟩
theorem d12 : denF Try.prog 12 = some c12 := denF_of (by kernel_rfl)
noncomputable def c13_0 : Vm.Sem := sSeq (sRegion [iOp (put 46) (.v false (oInt2 fLss (sel 45) (sel 44)))])
 (sSeq (sCond (sel 46)
    (sEx .normal)
    (sEx (.exit 0)))
  (sSeq (sBlock 1 (sSeq (sRegion [iOp (put 47) (.v false (oIndexAddrS 12 (sel 43) (sel 45))),
       iOp (put 48) (.v true (oLoadN 12 (sel 47))),
       iOp (put 8) (.a (aAlloc 33 [.int .u8 0, .int .u8 0, .int .u32 0, .int .u32 0, .int .u16 0, .int .u16 0, .int .u32 0, .slice none 0 0, .slice none 0 0, .slice none 0 0, .slice none 0 0, .slice none 0 0])),
       iOp ⟨fun _ a => a⟩ (.e (eStore 12 (sel 8) (sel 48)))])
     (sSeq (sRegion [iOp (put 50) (.v true (oLoadN 12 (sel 8))),
        iOp (put 51) (.e (eCallF 31 [(sel 50)])),
        iOp (put 49) (.v false (oEv (sel 51))),
        iOp (put 52) (.v false (oExtract (sel 49) 0)),
        iOp (put 53) (.v false (oExtract (sel 49) 1)),
        iOp (put 9) (.v false (oEv (sel 52))),
        iOp (put 10) (.v false (oEv (sel 53)))])
      (sRegion [iOp (put 54) (.v false (oEv (sel 6))),
        iOp (put 55) (.v false (oEv (sel 9))),
        iOp (put 56) (.e (eAppend 5 1 1 (sel 54) (sel 55))),
        iOp (put 6) (.v false (oEv (sel 56)))]))))
   (sRegion [iOp (put 57) (.v false (oInt2 fAdd (sel 45) ⟨fun _ => .int .i64 1⟩)),
     iOp (put 45) (.v false (oEv (sel 57)))])))
noncomputable def c13_1 : Vm.Sem := sSeq (sRegion [iOp (put 71) (.v false (oInt2 fLss (sel 70) ⟨fun _ => .int .i64 4⟩))])
 (sSeq (sCond (sel 71)
    (sEx .normal)
    (sEx (.exit 2)))
  (sSeq (sBlock 3 (sSeq (sRegion [iOp (put 72) (.v false (oEv (sel 70))),
       iOp (put 12) (.v false (oEv (sel 72)))])
     (sRegion [iOp (put 73) (.v false (oEv (sel 6))),
       iOp (put 74) (.v false (oEv (sel 12))),
       iOp (put 75) (.v false (oInt2 fAdd ⟨fun _ => .int .i64 8⟩ (sel 74))),
       iOp (put 76) (.v false (oEv (sel 11))),
       iOp (put 77) (.v false (oEv (sel 12))),
       iOp (put 78) (.v false (oInt2 fMul ⟨fun _ => .int .i64 8⟩ (sel 77))),
       iOp (put 79) (.v false (oSh fShr (sel 76) (sel 78))),
       iOp (put 80) (.v false (oConvInt .u8 (sel 79))),
       iOp (put 81) (.v false (oIndexAddrS 1 (sel 73) (sel 75))),
       iOp ⟨fun _ a => a⟩ (.e (eStore 1 (sel 81) (sel 80)))])))
   (sRegion [iOp (put 82) (.v false (oInt2 fAdd (sel 70) ⟨fun _ => .int .i64 1⟩)),
     iOp (put 70) (.v false (oEv (sel 82)))])))
/-- bollard/packet.Encode -/
noncomputable def c13 : CF := ⟨84, [.tmp (sel 4), .tmp (sel 5)],
  sSeq (sRegion [iOp (put 3) (.a (aBox 27 (sel 1))),
    iOp (put 4) (.v false (oEv ⟨fun _ => .slice none 0 0⟩)),
    iOp (put 5) (.v false (oEv ⟨fun _ => .int .i64 0⟩))])
  (sSeq (sSeq (sRegion [iOp (put 13) (.v false (oEv (sel 0))),
      iOp (put 14) (.v false (oLenS (sel 13))),
      iOp (put 15) (.v false (oNe (.one 1) (sel 14) ⟨fun _ => .int .i64 256⟩)),
      iOp (put 16) (.v false (oEv (sel 15))),
      iGuard (sel 16) false (put 17) (iOp (put 17) (.v false (oFieldAddr 3 (sel 3)))),
      iGuard (sel 16) false (put 18) (iOp (put 18) (.v true (oLoad1 (sel 17)))),
      iGuard (sel 16) false (put 19) (iOp (put 19) (.v false (oLenS (sel 18)))),
      iGuard (sel 16) false (put 20) (iOp (put 20) (.v false (oEq (.one 1) (sel 19) ⟨fun _ => .int .i64 0⟩))),
      iOp (put 21) (.v false (oPick (sel 16) ⟨fun _ => .bool true⟩ (sel 20))),
      iOp (put 22) (.v false (oEv (sel 21))),
      iGuard (sel 22) false (put 23) (iOp (put 23) (.v false (oFieldAddr 3 (sel 3)))),
      iGuard (sel 22) false (put 24) (iOp (put 24) (.v true (oLoad1 (sel 23)))),
      iGuard (sel 22) false (put 25) (iOp (put 25) (.e (eCallF 26 [(sel 24)]))),
      iOp (put 26) (.v false (oPick (sel 22) ⟨fun _ => .bool true⟩ (sel 25))),
      iOp (put 27) (.v false (oEv (sel 26))),
      iGuard (sel 27) false (put 28) (iOp (put 28) (.v false (oFieldAddr 3 (sel 3)))),
      iGuard (sel 27) false (put 29) (iOp (put 29) (.v true (oLoad1 (sel 28)))),
      iGuard (sel 27) false (put 30) (iOp (put 30) (.e (eCallF 27 [(sel 29), ⟨fun _ => .func (.func 28) #[] #[]⟩]))),
      iOp (put 31) (.v false (oPick (sel 27) ⟨fun _ => .bool true⟩ (sel 30)))])
    (sCond (sel 31)
      (sSeq (sRegion [iOp (put 4) (.v false (oEv ⟨fun _ => .slice none 0 0⟩)),
         iOp (put 5) (.v false (oEv ⟨fun _ => .int .i64 1⟩))])
       (sEx .ret))
      (sEx .normal)))
   (sSeq (sDr [iOp (put 32) (.v false (oFieldAddr 0 (sel 3))),
      iOp (put 33) (.v true (oLoad1 (sel 32))),
      iOp (put 34) (.e (eCallF 30 [⟨fun _ => .slice none 0 0⟩, (sel 33)])),
      iOp (put 35) (.v false (oFieldAddr 1 (sel 3))),
      iOp (put 36) (.v true (oLoad1 (sel 35))),
      iOp (put 37) (.e (eCallF 30 [(sel 34), (sel 36)])),
      iOp (put 38) (.v false (oFieldAddr 2 (sel 3))),
      iOp (put 39) (.v true (oLoad1 (sel 38))),
      iOp (put 40) (.e (eCallF 29 [(sel 37), (sel 39)])),
      iOp (put 41) (.e (eCallF 29 [(sel 40), ⟨fun _ => .int .u32 0⟩])),
      iOp (put 6) (.v false (oEv (sel 41)))]
      [(4, none, (oLoad1 (sel 35)), [0, 3]), (7, none, (oLoad1 (sel 38)), [0, 3, 6])])
    (sSeq (sSeq (sRegion [iOp (put 42) (.v false (oFieldAddr 3 (sel 3))),
        iOp (put 43) (.v true (oLoad1 (sel 42))),
        iOp (put 44) (.v false (oLenS (sel 43))),
        iOp (put 45) (.v false (oEv ⟨fun _ => .int .i64 0⟩))])
      (sBlock 0 (sLoop c13_0)))
     (sSeq (sSeq (sRegion [iOp (put 58) (.v false (oFieldAddr 3 (sel 3))),
         iOp (put 59) (.v true (oLoad1 (sel 58))),
         iOp (put 60) (.v false (oLenS (sel 59))),
         iOp (put 61) (.v false (oInt2 fGtr (sel 60) ⟨fun _ => .int .i64 64⟩)),
         iOp (put 62) (.v false (oEv (sel 61))),
         iGuard (sel 62) false (put 63) (iOp (put 63) (.v false (oEv (sel 6)))),
         iGuard (sel 62) false (put 64) (iOp (put 64) (.v false (oLenS (sel 63)))),
         iGuard (sel 62) false (put 65) (iOp (put 65) (.v false (oInt2 fGtr (sel 64) ⟨fun _ => .int .i64 1200⟩))),
         iOp (put 66) (.v false (oPick (sel 62) ⟨fun _ => .bool true⟩ (sel 65)))])
       (sCond (sel 66)
         (sSeq (sRegion [iOp (put 4) (.v false (oEv ⟨fun _ => .slice none 0 0⟩)),
            iOp (put 5) (.v false (oEv ⟨fun _ => .int .i64 10⟩))])
          (sEx .ret))
         (sEx .normal)))
      (sSeq (sRegion [iOp (put 67) (.v false (oEv (sel 0))),
         iOp (put 68) (.v false (oEv (sel 6))),
         iOp (put 69) (.e (eCallF 32 [(sel 67), (sel 68)])),
         iOp (put 11) (.v false (oEv (sel 69)))])
       (sSeq (sSeq (sRegion [iOp (put 70) (.v false (oEv ⟨fun _ => .int .i64 0⟩))])
         (sBlock 2 (sLoop c13_1)))
        (sSeq (sRegion [iOp (put 83) (.v false (oEv (sel 6))),
           iOp (put 4) (.v false (oEv (sel 83))),
           iOp (put 5) (.v false (oEv ⟨fun _ => .int .i64 0⟩))])
         (sEx .ret))))))))⟩
theorem d13 : denF Try.prog 13 = some c13 := denF_of (by kernel_rfl)
/-- bollard/bollardlaw08.same -/
noncomputable def c15 : CF := ⟨10, [.tmp (sel 4)],
  sSeq (sRegion [iOp (put 4) (.v false (oEv ⟨fun _ => .bool false⟩))])
  (sSeq (sRegion [iOp (put 5) (.v false (oEv (sel 0))),
     iOp (put 6) (.v true (oToString (sel 5))),
     iOp (put 7) (.v false (oEv (sel 1))),
     iOp (put 8) (.v true (oToString (sel 7))),
     iOp (put 9) (.v false (oEq (.one 2) (sel 6) (sel 8))),
     iOp (put 4) (.v false (oEv (sel 9)))])
   (sEx .ret))⟩
theorem d15 : denF Try.prog 15 = some c15 := denF_of (by kernel_rfl)
/-- bollard/packet.Alone -/
noncomputable def c18 : CF := ⟨8, [.tmp (sel 2)],
  sSeq (sRegion [iOp (put 2) (.v false (oEv ⟨fun _ => .bool false⟩))])
  (sSeq (sSeq (sRegion [iOp (put 3) (.v false (oEv (sel 0)))])
    (sBlock 0 (sSeq (sSeq (sRegion [iOp (put 5) (.v false (oEq (.one 1) (sel 3) ⟨fun _ => .int .u8 1⟩)),
         iOp (put 4) (.v false (oEv (sel 5)))])
       (sCond (sel 4)
         (sEx .normal)
         (sSeq (sRegion [iOp (put 6) (.v false (oEq (.one 1) (sel 3) ⟨fun _ => .int .u8 2⟩)),
            iOp (put 4) (.v false (oEv (sel 6)))])
          (sCond (sel 4)
            (sEx .normal)
            (sRegion [iOp (put 7) (.v false (oEq (.one 1) (sel 3) ⟨fun _ => .int .u8 14⟩)),
              iOp (put 4) (.v false (oEv (sel 7)))])))))
      (sCond (sel 4)
        (sSeq (sRegion [iOp (put 2) (.v false (oEv ⟨fun _ => .bool true⟩))])
         (sEx .ret))
        (sEx .normal)))))
   (sSeq (sRegion [iOp (put 2) (.v false (oEv ⟨fun _ => .bool false⟩))])
    (sEx .ret)))⟩
theorem d18 : denF Try.prog 18 = some c18 := denF_of (by kernel_rfl)
noncomputable def c23_0 : Vm.Sem := sSeq (sSeq (sRegion [iOp (put 3) (.v false (oEv (sel 2))),
    iOp (put 4) (.v false (oInt2 fLss (sel 3) ⟨fun _ => .int .i64 256⟩))])
  (sCond (sel 4)
    (sEx .normal)
    (sEx (.exit 0))))
 (sSeq (sBlock 1 (sRegion [iOp (put 7) (.v false (oEv (sel 1))),
     iOp (put 8) (.v false (oEv (sel 2))),
     iOp (put 9) (.e (eCallF 43 [(sel 8)])),
     iOp (put 10) (.a (aBuildSlice 24 1 (rep 1 [.int .u32 0]) [(0, 1, (sel 9))])),
     iOp (put 11) (.e (eAppend 24 1 4 (sel 7) (sel 10))),
     iOp (put 1) (.v false (oEv (sel 11)))]))
  (sRegion [iOp (put 5) (.v false (oEv (sel 2))),
    iOp (put 6) (.v false (oInt2 fAdd (sel 5) ⟨fun _ => .int .i64 1⟩)),
    iOp (put 2) (.v false (oEv (sel 6)))]))
/-- bollard/bollardlaw08.table -/
noncomputable def c23 : CF := ⟨13, [.tmp (sel 0)],
  sSeq (sRegion [iOp (put 0) (.v false (oEv ⟨fun _ => .slice none 0 0⟩))])
  (sSeq (sRegion [iOp (put 1) (.v false (oEv ⟨fun _ => .slice none 0 0⟩))])
   (sSeq (sSeq (sRegion [iOp (put 2) (.v false (oEv ⟨fun _ => .int .i64 0⟩))])
     (sBlock 0 (sLoop c23_0)))
    (sSeq (sRegion [iOp (put 12) (.v false (oEv (sel 1))),
       iOp (put 0) (.v false (oEv (sel 12)))])
     (sEx .ret))))⟩
theorem d23 : denF Try.prog 23 = some c23 := denF_of (by kernel_rfl)
/-- bollard/packet.Decode -/
noncomputable def c24 : CF := ⟨68, [.agg (sel 4) 4, .tmp (sel 5)],
  sSeq (sRegion [iOp (put 4) (.a (aAlloc 27 [.int .u16 0, .int .u16 0, .int .u32 0, .slice none 0 0])),
    iOp (put 5) (.v false (oEv ⟨fun _ => .int .i64 0⟩))])
  (sSeq (sBlock 0 (sSeq (sRegion [iOp (put 16) (.v false (oEv (sel 0))),
       iOp (put 17) (.v false (oLenS (sel 16))),
       iOp (put 18) (.v false (oNe (.one 1) (sel 17) ⟨fun _ => .int .i64 256⟩)),
       iOp (put 15) (.v false (oEv (sel 18)))])
     (sCond (sel 15)
       (sSeq (sRegion [iOp (put 19) (.v false (oBuild [.int .u16 0, .int .u16 0, .int .u32 0, .slice none 0 0] [])),
          iOp ⟨fun _ a => a⟩ (.e (eStore 4 (sel 4) (sel 19))),
          iOp (put 5) (.v false (oEv ⟨fun _ => .int .i64 1⟩))])
        (sEx .ret))
       (sSeq (sRegion [iOp (put 21) (.v false (oEv (sel 1))),
          iOp (put 22) (.v false (oLenS (sel 21))),
          iOp (put 23) (.v false (oInt2 fGtr (sel 22) ⟨fun _ => .int .i64 1200⟩)),
          iOp (put 20) (.v false (oEv (sel 23)))])
        (sCond (sel 20)
          (sSeq (sRegion [iOp (put 24) (.v false (oBuild [.int .u16 0, .int .u16 0, .int .u32 0, .slice none 0 0] [])),
             iOp ⟨fun _ a => a⟩ (.e (eStore 4 (sel 4) (sel 24))),
             iOp (put 5) (.v false (oEv ⟨fun _ => .int .i64 10⟩))])
           (sEx .ret))
          (sSeq (sRegion [iOp (put 26) (.v false (oEv (sel 1))),
             iOp (put 27) (.v false (oLenS (sel 26))),
             iOp (put 28) (.v false (oInt2 fLss (sel 27) ⟨fun _ => .int .i64 16⟩)),
             iOp (put 25) (.v false (oEv (sel 28)))])
           (sCond (sel 25)
             (sSeq (sRegion [iOp (put 29) (.v false (oBuild [.int .u16 0, .int .u16 0, .int .u32 0, .slice none 0 0] [])),
                iOp ⟨fun _ a => a⟩ (.e (eStore 4 (sel 4) (sel 29))),
                iOp (put 5) (.v false (oEv ⟨fun _ => .int .i64 2⟩))])
              (sEx .ret))
             (sSeq (sRegion [iOp (put 31) (.v false (oEv (sel 0))),
                iOp (put 32) (.v false (oEv (sel 1))),
                iOp (put 33) (.e (eCallF 44 [(sel 31), (sel 32)])),
                iOp (put 34) (.v false (oNot (sel 33))),
                iOp (put 30) (.v false (oEv (sel 34)))])
              (sCond (sel 30)
                (sSeq (sRegion [iOp (put 35) (.v false (oBuild [.int .u16 0, .int .u16 0, .int .u32 0, .slice none 0 0] [])),
                   iOp ⟨fun _ a => a⟩ (.e (eStore 4 (sel 4) (sel 35))),
                   iOp (put 5) (.v false (oEv ⟨fun _ => .int .i64 4⟩))])
                 (sEx .ret))
                (sEx .normal))))))))))
   (sSeq (sRegion [iOp (put 37) (.v false (oEv (sel 1))),
      iOp (put 38) (.v false (oSlice 1 (sel 37) (some ⟨fun _ => .int .i64 12⟩) none none)),
      iOp (put 39) (.e (eCallF 45 [(sel 38)])),
      iOp (put 36) (.v false (oEv (sel 39))),
      iOp (put 40) (.v false (oExtract (sel 36) 0)),
      iOp (put 41) (.v false (oExtract (sel 36) 1)),
      iOp (put 6) (.v false (oEv (sel 40))),
      iOp (put 7) (.v false (oEv (sel 41)))])
    (sSeq (sSeq (sRegion [iOp (put 42) (.v false (oEv (sel 7))),
        iOp (put 43) (.v false (oNe (.one 1) (sel 42) ⟨fun _ => .int .i64 0⟩))])
      (sCond (sel 43)
        (sSeq (sRegion [iOp (put 44) (.v false (oBuild [.int .u16 0, .int .u16 0, .int .u32 0, .slice none 0 0] [])),
           iOp (put 45) (.v false (oEv (sel 7))),
           iOp ⟨fun _ a => a⟩ (.e (eStore 4 (sel 4) (sel 44))),
           iOp (put 5) (.v false (oEv (sel 45)))])
         (sEx .ret))
        (sEx .normal)))
     (sSeq (sRegion [iOp (put 46) (.v false (oEv (sel 1))),
        iOp (put 47) (.e (eCallF 46 [(sel 46)])),
        iOp (put 8) (.v false (oEv (sel 47)))])
      (sSeq (sRegion [iOp (put 49) (.v false (oEv (sel 8))),
         iOp (put 50) (.e (eCallF 47 [(sel 49)])),
         iOp (put 48) (.v false (oEv (sel 50))),
         iOp (put 51) (.v false (oExtract (sel 48) 0)),
         iOp (put 52) (.v false (oExtract (sel 48) 1)),
         iOp (put 9) (.v false (oEv (sel 51))),
         iOp (put 10) (.v false (oEv (sel 52)))])
       (sSeq (sRegion [iOp (put 54) (.v false (oEv (sel 8))),
          iOp (put 55) (.e (eCallF 47 [(sel 54)])),
          iOp (put 53) (.v false (oEv (sel 55))),
          iOp (put 56) (.v false (oExtract (sel 53) 0)),
          iOp (put 57) (.v false (oExtract (sel 53) 1)),
          iOp (put 11) (.v false (oEv (sel 56))),
          iOp (put 12) (.v false (oEv (sel 57)))])
        (sSeq (sRegion [iOp (put 59) (.v false (oEv (sel 8))),
           iOp (put 60) (.e (eCallF 48 [(sel 59)])),
           iOp (put 58) (.v false (oEv (sel 60))),
           iOp (put 61) (.v false (oExtract (sel 58) 0)),
           iOp (put 62) (.v false (oExtract (sel 58) 1)),
           iOp (put 13) (.v false (oEv (sel 61))),
           iOp (put 14) (.v false (oEv (sel 62)))])
         (sSeq (sRegion [iOp (put 63) (.v false (oEv (sel 9))),
            iOp (put 64) (.v false (oEv (sel 11))),
            iOp (put 65) (.v false (oEv (sel 13))),
            iOp (put 66) (.v false (oEv (sel 6))),
            iOp (put 67) (.v false (oBuild [.int .u16 0, .int .u16 0, .int .u32 0, .slice none 0 0] [(0, 1, (sel 63)), (1, 1, (sel 64)), (2, 1, (sel 65)), (3, 1, (sel 66))])),
            iOp ⟨fun _ a => a⟩ (.e (eStore 4 (sel 4) (sel 67))),
            iOp (put 5) (.v false (oEv ⟨fun _ => .int .i64 0⟩))])
          (sEx .ret)))))))))⟩
theorem d24 : denF Try.prog 24 = some c24 := denF_of (by kernel_rfl)
/-- bollard/packet.mixed -/
noncomputable def c26 : CF := ⟨10, [.tmp (sel 2)],
  sSeq (sRegion [iOp (put 2) (.v false (oEv ⟨fun _ => .bool false⟩))])
  (sSeq (sRegion [iOp (put 3) (.v false (oEv (sel 0))),
     iOp (put 4) (.v false (oLenS (sel 3))),
     iOp (put 5) (.v false (oInt2 fGtr (sel 4) ⟨fun _ => .int .i64 1⟩)),
     iOp (put 6) (.v false (oEv (sel 5))),
     iGuard (sel 6) true (put 7) (iOp (put 7) (.v false (oEv (sel 0)))),
     iGuard (sel 6) true (put 8) (iOp (put 8) (.e (eCallF 27 [(sel 7), ⟨fun _ => .func (.func 49) #[] #[]⟩]))),
     iOp (put 9) (.v false (oPick (sel 6) (sel 8) ⟨fun _ => .bool false⟩)),
     iOp (put 2) (.v false (oEv (sel 9)))])
   (sEx .ret))⟩
theorem d26 : denF Try.prog 26 = some c26 := denF_of (by kernel_rfl)
/-- slices.ContainsFunc[[]bollard/api.Chunk,bollard/api.Chunk] -/
noncomputable def c27 : CF := ⟨9, [.tmp (sel 4)],
  sSeq (sRegion [iOp (put 4) (.v false (oEv ⟨fun _ => .bool false⟩))])
  (sSeq (sRegion [iOp (put 5) (.v false (oEv (sel 0))),
     iOp (put 6) (.v false (oEv (sel 1))),
     iOp (put 7) (.e (eCallF 50 [(sel 5), (sel 6)])),
     iOp (put 8) (.v false (oInt2 fGeq (sel 7) ⟨fun _ => .int .i64 0⟩)),
     iOp (put 4) (.v false (oEv (sel 8)))])
   (sEx .ret))⟩
theorem d27 : denF Try.prog 27 = some c27 := denF_of (by kernel_rfl)
/-- bollard/packet.unshaped -/
noncomputable def c28 : CF := ⟨6, [.tmp (sel 2)],
  sSeq (sRegion [iOp (put 1) (.a (aBox 33 (sel 0))),
    iOp (put 2) (.v false (oEv ⟨fun _ => .bool false⟩))])
  (sSeq (sRegion [iOp (put 3) (.v true (oLoadN 12 (sel 1))),
     iOp (put 4) (.e (eCallF 51 [(sel 3)])),
     iOp (put 5) (.v false (oNot (sel 4))),
     iOp (put 2) (.v false (oEv (sel 5)))])
   (sEx .ret))⟩
theorem d28 : denF Try.prog 28 = some c28 := denF_of (by kernel_rfl)
/-- bollard/octet.Put32 -/
noncomputable def c29 : CF := ⟨19, [.tmp (sel 4)],
  sSeq (sRegion [iOp (put 4) (.v false (oEv ⟨fun _ => .slice none 0 0⟩))])
  (sSeq (sRegion [iOp (put 5) (.v false (oEv (sel 0))),
     iOp (put 6) (.v false (oEv (sel 1))),
     iOp (put 7) (.v false (oSh fShr (sel 6) ⟨fun _ => .int .u64 24⟩)),
     iOp (put 8) (.v false (oConvInt .u8 (sel 7))),
     iOp (put 9) (.v false (oEv (sel 1))),
     iOp (put 10) (.v false (oSh fShr (sel 9) ⟨fun _ => .int .u64 16⟩)),
     iOp (put 11) (.v false (oConvInt .u8 (sel 10))),
     iOp (put 12) (.v false (oEv (sel 1))),
     iOp (put 13) (.v false (oSh fShr (sel 12) ⟨fun _ => .int .u64 8⟩)),
     iOp (put 14) (.v false (oConvInt .u8 (sel 13))),
     iOp (put 15) (.v false (oEv (sel 1))),
     iOp (put 16) (.v false (oConvInt .u8 (sel 15))),
     iOp (put 17) (.a (aBuildSlice 5 4 (rep 4 [.int .u8 0]) [(0, 1, (sel 8)), (1, 1, (sel 11)), (2, 1, (sel 14)), (3, 1, (sel 16))])),
     iOp (put 18) (.e (eCallF 52 [(sel 5), (sel 17)])),
     iOp (put 4) (.v false (oEv (sel 18)))])
   (sEx .ret))⟩
theorem d29 : denF Try.prog 29 = some c29 := denF_of (by kernel_rfl)
/-- bollard/octet.Put16 -/
noncomputable def c30 : CF := ⟨13, [.tmp (sel 4)],
  sSeq (sRegion [iOp (put 4) (.v false (oEv ⟨fun _ => .slice none 0 0⟩))])
  (sSeq (sRegion [iOp (put 5) (.v false (oEv (sel 0))),
     iOp (put 6) (.v false (oEv (sel 1))),
     iOp (put 7) (.v false (oSh fShr (sel 6) ⟨fun _ => .int .u64 8⟩)),
     iOp (put 8) (.v false (oConvInt .u8 (sel 7))),
     iOp (put 9) (.v false (oEv (sel 1))),
     iOp (put 10) (.v false (oConvInt .u8 (sel 9))),
     iOp (put 11) (.a (aBuildSlice 5 2 (rep 2 [.int .u8 0]) [(0, 1, (sel 8)), (1, 1, (sel 10))])),
     iOp (put 12) (.e (eCallF 52 [(sel 5), (sel 11)])),
     iOp (put 4) (.v false (oEv (sel 12)))])
   (sEx .ret))⟩
theorem d30 : denF Try.prog 30 = some c30 := denF_of (by kernel_rfl)
/-- bollard/chunk.Encode -/
noncomputable def c31 : CF := ⟨29, [.tmp (sel 2), .tmp (sel 3)],
  sSeq (sRegion [iOp (put 1) (.a (aBox 33 (sel 0))),
    iOp (put 2) (.v false (oEv ⟨fun _ => .slice none 0 0⟩)),
    iOp (put 3) (.v false (oEv ⟨fun _ => .int .i64 0⟩))])
  (sSeq (sSeq (sRegion [iOp (put 6) (.v true (oLoadN 12 (sel 1))),
      iOp (put 7) (.e (eCallF 51 [(sel 6)])),
      iOp (put 8) (.v false (oNot (sel 7)))])
    (sCond (sel 8)
      (sSeq (sRegion [iOp (put 2) (.v false (oEv ⟨fun _ => .slice none 0 0⟩)),
         iOp (put 3) (.v false (oEv ⟨fun _ => .int .i64 1⟩))])
       (sEx .ret))
      (sEx .normal)))
   (sSeq (sRegion [iOp (put 9) (.v true (oLoadN 12 (sel 1))),
      iOp (put 10) (.e (eCallF 53 [(sel 9)])),
      iOp (put 4) (.v false (oEv (sel 10)))])
    (sSeq (sSeq (sRegion [iOp (put 11) (.v false (oEv (sel 4))),
        iOp (put 12) (.v false (oLenS (sel 11))),
        iOp (put 13) (.v false (oInt2 fAdd ⟨fun _ => .int .i64 4⟩ (sel 12))),
        iOp (put 14) (.v false (oInt2 fGtr (sel 13) ⟨fun _ => .int .i64 65535⟩))])
      (sCond (sel 14)
        (sSeq (sRegion [iOp (put 2) (.v false (oEv ⟨fun _ => .slice none 0 0⟩)),
           iOp (put 3) (.v false (oEv ⟨fun _ => .int .i64 10⟩))])
         (sEx .ret))
        (sEx .normal)))
     (sSeq (sRegion [iOp (put 15) (.v false (oFieldAddr 0 (sel 1))),
        iOp (put 16) (.v true (oLoad1 (sel 15))),
        iOp (put 17) (.v false (oFieldAddr 1 (sel 1))),
        iOp (put 18) (.v true (oLoad1 (sel 17))),
        iOp (put 19) (.a (aBuildSlice 5 2 (rep 2 [.int .u8 0]) [(0, 1, (sel 16)), (1, 1, (sel 18))])),
        iOp (put 20) (.v false (oEv (sel 4))),
        iOp (put 21) (.v false (oLenS (sel 20))),
        iOp (put 22) (.v false (oInt2 fAdd ⟨fun _ => .int .i64 4⟩ (sel 21))),
        iOp (put 23) (.v false (oConvInt .u16 (sel 22))),
        iOp (put 24) (.e (eCallF 30 [(sel 19), (sel 23)])),
        iOp (put 5) (.v false (oEv (sel 24)))])
      (sSeq (sRegion [iOp (put 25) (.v false (oEv (sel 5))),
         iOp (put 26) (.v false (oEv (sel 4))),
         iOp (put 27) (.e (eAppend 5 1 1 (sel 25) (sel 26))),
         iOp (put 28) (.e (eCallF 54 [(sel 27)])),
         iOp (put 2) (.v false (oEv (sel 28))),
         iOp (put 3) (.v false (oEv ⟨fun _ => .int .i64 0⟩))])
       (sEx .ret))))))⟩
theorem d31 : denF Try.prog 31 = some c31 := denF_of (by kernel_rfl)
/-- bollard/crc.Sum -/
noncomputable def c32 : CF := ⟨12, [.tmp (sel 4)],
  sSeq (sRegion [iOp (put 4) (.v false (oEv ⟨fun _ => .int .u32 0⟩))])
  (sSeq (sSeq (sRegion [iOp (put 5) (.v false (oEv (sel 0))),
      iOp (put 6) (.v false (oLenS (sel 5))),
      iOp (put 7) (.v false (oNe (.one 1) (sel 6) ⟨fun _ => .int .i64 256⟩))])
    (sCond (sel 7)
      (sSeq (sRegion [iOp (put 4) (.v false (oEv ⟨fun _ => .int .u32 0⟩))])
       (sEx .ret))
      (sEx .normal)))
   (sSeq (sRegion [iOp (put 8) (.v false (oEv (sel 0))),
      iOp (put 9) (.v false (oEv (sel 1))),
      iOp (put 10) (.e (eCallF 55 [(sel 8), ⟨fun _ => .int .u32 4294967295⟩, (sel 9)])),
      iOp (put 11) (.v false (oCom (sel 10))),
      iOp (put 4) (.v false (oEv (sel 11)))])
    (sEx .ret)))⟩
theorem d32 : denF Try.prog 32 = some c32 := denF_of (by kernel_rfl)
noncomputable def c34_0 : Vm.Sem := sSeq (sSeq (sRegion [iOp (put 14) (.v false (oEv (sel 8))),
    iOp (put 15) (.v false (oInt2 fGeq (sel 14) ⟨fun _ => .int .i64 0⟩))])
  (sCond (sel 15)
    (sEx .normal)
    (sEx (.exit 0))))
 (sSeq (sBlock 1 (sRegion [iOp (put 18) (.v false (oEv (sel 7))),
     iOp (put 19) (.v false (oEv (sel 1))),
     iOp (put 20) (.v false (oEv (sel 8))),
     iOp (put 21) (.v false (oInt2 fMul ⟨fun _ => .int .i64 8⟩ (sel 20))),
     iOp (put 22) (.v false (oConvInt .u64 (sel 21))),
     iOp (put 23) (.v false (oSh fShr (sel 19) (sel 22))),
     iOp (put 24) (.v false (oConvInt .u8 (sel 23))),
     iOp (put 25) (.a (aBuildSlice 5 1 (rep 1 [.int .u8 0]) [(0, 1, (sel 24))])),
     iOp (put 26) (.e (eAppend 5 1 1 (sel 18) (sel 25))),
     iOp (put 7) (.v false (oEv (sel 26)))]))
  (sRegion [iOp (put 16) (.v false (oEv (sel 8))),
    iOp (put 17) (.v false (oInt2 fSub (sel 16) ⟨fun _ => .int .i64 1⟩)),
    iOp (put 8) (.v false (oEv (sel 17)))]))
/-- bollard/bollardref01.Put -/
noncomputable def c34 : CF := ⟨28, [.tmp (sel 6)],
  sSeq (sRegion [iOp (put 6) (.v false (oEv ⟨fun _ => .slice none 0 0⟩))])
  (sSeq (sRegion [iOp (put 7) (.v false (oEv ⟨fun _ => .slice none 0 0⟩))])
   (sSeq (sRegion [iOp (put 9) (.v false (oEv (sel 7))),
      iOp (put 10) (.v false (oEv (sel 0))),
      iOp (put 11) (.e (eAppend 5 1 1 (sel 9) (sel 10))),
      iOp (put 7) (.v false (oEv (sel 11)))])
    (sSeq (sSeq (sRegion [iOp (put 12) (.v false (oEv (sel 2))),
        iOp (put 13) (.v false (oInt2 fSub (sel 12) ⟨fun _ => .int .i64 1⟩)),
        iOp (put 8) (.v false (oEv (sel 13)))])
      (sBlock 0 (sLoop c34_0)))
     (sSeq (sRegion [iOp (put 27) (.v false (oEv (sel 7))),
        iOp (put 6) (.v false (oEv (sel 27)))])
      (sEx .ret)))))⟩
theorem d34 : denF Try.prog 34 = some c34 := denF_of (by kernel_rfl)
noncomputable def c43_0 : Vm.Sem := sSeq (sSeq (sRegion [iOp (put 7) (.v false (oEv (sel 4))),
    iOp (put 8) (.v false (oInt2 fLss (sel 7) ⟨fun _ => .int .i64 8⟩))])
  (sCond (sel 8)
    (sEx .normal)
    (sEx (.exit 0))))
 (sSeq (sBlock 1 (sRegion [iOp (put 11) (.v false (oEv (sel 3))),
     iOp (put 12) (.e (eCallF 65 [(sel 11)])),
     iOp (put 3) (.v false (oEv (sel 12)))]))
  (sRegion [iOp (put 9) (.v false (oEv (sel 4))),
    iOp (put 10) (.v false (oInt2 fAdd (sel 9) ⟨fun _ => .int .i64 1⟩)),
    iOp (put 4) (.v false (oEv (sel 10)))]))
/-- bollard/bollardref03.Entry -/
noncomputable def c43 : CF := ⟨14, [.tmp (sel 2)],
  sSeq (sRegion [iOp (put 2) (.v false (oEv ⟨fun _ => .int .u32 0⟩))])
  (sSeq (sRegion [iOp (put 5) (.v false (oEv (sel 0))),
     iOp (put 6) (.v false (oConvInt .u32 (sel 5))),
     iOp (put 3) (.v false (oEv (sel 6)))])
   (sSeq (sSeq (sRegion [iOp (put 4) (.v false (oEv ⟨fun _ => .int .i64 0⟩))])
     (sBlock 0 (sLoop c43_0)))
    (sSeq (sRegion [iOp (put 13) (.v false (oEv (sel 3))),
       iOp (put 2) (.v false (oEv (sel 13)))])
     (sEx .ret))))⟩
theorem d43 : denF Try.prog 43 = some c43 := denF_of (by kernel_rfl)
noncomputable def c44_0 : Vm.Sem := sSeq (sRegion [iOp (put 16) (.v false (oInt2 fLss (sel 15) ⟨fun _ => .int .i64 4⟩))])
 (sSeq (sCond (sel 16)
    (sEx .normal)
    (sEx (.exit 0)))
  (sSeq (sBlock 1 (sSeq (sRegion [iOp (put 17) (.v false (oEv (sel 15))),
       iOp (put 7) (.v false (oEv (sel 17)))])
     (sSeq (sRegion [iOp (put 18) (.v false (oEv (sel 1))),
        iOp (put 19) (.v false (oEv (sel 7))),
        iOp (put 20) (.v false (oInt2 fAdd ⟨fun _ => .int .i64 8⟩ (sel 19))),
        iOp (put 21) (.v false (oIndexAddrS 1 (sel 18) (sel 20))),
        iOp (put 22) (.v true (oLoad1 (sel 21))),
        iOp (put 23) (.v false (oEv (sel 6))),
        iOp (put 24) (.v false (oEv (sel 7))),
        iOp (put 25) (.v false (oInt2 fMul ⟨fun _ => .int .i64 8⟩ (sel 24))),
        iOp (put 26) (.v false (oSh fShr (sel 23) (sel 25))),
        iOp (put 27) (.v false (oConvInt .u8 (sel 26))),
        iOp (put 28) (.v false (oNe (.one 1) (sel 22) (sel 27)))])
      (sCond (sel 28)
        (sSeq (sRegion [iOp (put 4) (.v false (oEv ⟨fun _ => .bool false⟩))])
         (sEx .ret))
        (sEx .normal)))))
   (sRegion [iOp (put 29) (.v false (oInt2 fAdd (sel 15) ⟨fun _ => .int .i64 1⟩)),
     iOp (put 15) (.v false (oEv (sel 29)))])))
/-- bollard/packet.sound -/
noncomputable def c44 : CF := ⟨30, [.tmp (sel 4)],
  sSeq (sRegion [iOp (put 4) (.v false (oEv ⟨fun _ => .bool false⟩))])
  (sSeq (sRegion [iOp (put 8) (.v false (oEv (sel 1))),
     iOp (put 9) (.e (eCallF 66 [(sel 8)])),
     iOp (put 5) (.v false (oEv (sel 9)))])
   (sSeq (sRegion [iOp (put 10) (.v false (oEv (sel 5))),
      iOp (put 11) (.v false (oSlice 1 (sel 10) (some ⟨fun _ => .int .i64 8⟩) (some ⟨fun _ => .int .i64 12⟩) none)),
      iOp ⟨fun _ a => a⟩ (.e (eClearS [.int .u8 0] (sel 11)))])
    (sSeq (sRegion [iOp (put 12) (.v false (oEv (sel 0))),
       iOp (put 13) (.v false (oEv (sel 5))),
       iOp (put 14) (.e (eCallF 32 [(sel 12), (sel 13)])),
       iOp (put 6) (.v false (oEv (sel 14)))])
     (sSeq (sSeq (sRegion [iOp (put 15) (.v false (oEv ⟨fun _ => .int .i64 0⟩))])
       (sBlock 0 (sLoop c44_0)))
      (sSeq (sRegion [iOp (put 4) (.v false (oEv ⟨fun _ => .bool true⟩))])
       (sEx .ret))))))⟩
theorem d44 : denF Try.prog 44 = some c44 := denF_of (by kernel_rfl)
/-- bollard/octet.New -/
noncomputable def c46 : CF := ⟨7, [.tmp (sel 2)],
  sSeq (sRegion [iOp (put 2) (.v false (oEv ⟨fun _ => .pointer none⟩))])
  (sSeq (sRegion [iOp (put 3) (.v false (oEv (sel 0))),
     iOp (put 4) (.e (eCallF 66 [(sel 3)])),
     iOp (put 5) (.v false (oBuild [.slice none 0 0] [(0, 1, (sel 4))])),
     iOp (put 6) (.a (aBox 100 (sel 5))),
     iOp (put 2) (.v false (oEv (sel 6)))])
   (sEx .ret))⟩
theorem d46 : denF Try.prog 46 = some c46 := denF_of (by kernel_rfl)
/-- (*bollard/octet.Reader).Get16 -/
noncomputable def c47 : CF := ⟨24, [.tmp (sel 2), .tmp (sel 3)],
  sSeq (sRegion [iOp (put 2) (.v false (oEv ⟨fun _ => .int .u16 0⟩)),
    iOp (put 3) (.v false (oEv ⟨fun _ => .int .i64 0⟩))])
  (sSeq (sRegion [iOp (put 7) (.v false (oEv (sel 0))),
     iOp (put 8) (.e (eCallF 68 [(sel 7), ⟨fun _ => .int .i64 2⟩])),
     iOp (put 6) (.v false (oEv (sel 8))),
     iOp (put 9) (.v false (oExtract (sel 6) 0)),
     iOp (put 10) (.v false (oExtract (sel 6) 1)),
     iOp (put 4) (.v false (oEv (sel 9))),
     iOp (put 5) (.v false (oEv (sel 10)))])
   (sSeq (sSeq (sRegion [iOp (put 11) (.v false (oEv (sel 5))),
       iOp (put 12) (.v false (oNe (.one 1) (sel 11) ⟨fun _ => .int .i64 0⟩))])
     (sCond (sel 12)
       (sSeq (sRegion [iOp (put 13) (.v false (oEv (sel 5))),
          iOp (put 2) (.v false (oEv ⟨fun _ => .int .u16 0⟩)),
          iOp (put 3) (.v false (oEv (sel 13)))])
        (sEx .ret))
       (sEx .normal)))
    (sSeq (sRegion [iOp (put 14) (.v false (oEv (sel 4))),
       iOp (put 15) (.v false (oIndexAddrS 1 (sel 14) ⟨fun _ => .int .i64 0⟩)),
       iOp (put 16) (.v true (oLoad1 (sel 15))),
       iOp (put 17) (.v false (oConvInt .u16 (sel 16))),
       iOp (put 18) (.v false (oSh fShl (sel 17) ⟨fun _ => .int .u64 8⟩)),
       iOp (put 19) (.v false (oEv (sel 4))),
       iOp (put 20) (.v false (oIndexAddrS 1 (sel 19) ⟨fun _ => .int .i64 1⟩)),
       iOp (put 21) (.v true (oLoad1 (sel 20))),
       iOp (put 22) (.v false (oConvInt .u16 (sel 21))),
       iOp (put 23) (.v false (oInt2 fOr (sel 18) (sel 22))),
       iOp (put 2) (.v false (oEv (sel 23))),
       iOp (put 3) (.v false (oEv ⟨fun _ => .int .i64 0⟩))])
     (sEx .ret))))⟩
theorem d47 : denF Try.prog 47 = some c47 := denF_of (by kernel_rfl)
/-- (*bollard/octet.Reader).Get32 -/
noncomputable def c48 : CF := ⟨36, [.tmp (sel 2), .tmp (sel 3)],
  sSeq (sRegion [iOp (put 2) (.v false (oEv ⟨fun _ => .int .u32 0⟩)),
    iOp (put 3) (.v false (oEv ⟨fun _ => .int .i64 0⟩))])
  (sSeq (sRegion [iOp (put 7) (.v false (oEv (sel 0))),
     iOp (put 8) (.e (eCallF 68 [(sel 7), ⟨fun _ => .int .i64 4⟩])),
     iOp (put 6) (.v false (oEv (sel 8))),
     iOp (put 9) (.v false (oExtract (sel 6) 0)),
     iOp (put 10) (.v false (oExtract (sel 6) 1)),
     iOp (put 4) (.v false (oEv (sel 9))),
     iOp (put 5) (.v false (oEv (sel 10)))])
   (sSeq (sSeq (sRegion [iOp (put 11) (.v false (oEv (sel 5))),
       iOp (put 12) (.v false (oNe (.one 1) (sel 11) ⟨fun _ => .int .i64 0⟩))])
     (sCond (sel 12)
       (sSeq (sRegion [iOp (put 13) (.v false (oEv (sel 5))),
          iOp (put 2) (.v false (oEv ⟨fun _ => .int .u32 0⟩)),
          iOp (put 3) (.v false (oEv (sel 13)))])
        (sEx .ret))
       (sEx .normal)))
    (sSeq (sRegion [iOp (put 14) (.v false (oEv (sel 4))),
       iOp (put 15) (.v false (oIndexAddrS 1 (sel 14) ⟨fun _ => .int .i64 0⟩)),
       iOp (put 16) (.v true (oLoad1 (sel 15))),
       iOp (put 17) (.v false (oConvInt .u32 (sel 16))),
       iOp (put 18) (.v false (oSh fShl (sel 17) ⟨fun _ => .int .u64 24⟩)),
       iOp (put 19) (.v false (oEv (sel 4))),
       iOp (put 20) (.v false (oIndexAddrS 1 (sel 19) ⟨fun _ => .int .i64 1⟩)),
       iOp (put 21) (.v true (oLoad1 (sel 20))),
       iOp (put 22) (.v false (oConvInt .u32 (sel 21))),
       iOp (put 23) (.v false (oSh fShl (sel 22) ⟨fun _ => .int .u64 16⟩)),
       iOp (put 24) (.v false (oInt2 fOr (sel 18) (sel 23))),
       iOp (put 25) (.v false (oEv (sel 4))),
       iOp (put 26) (.v false (oIndexAddrS 1 (sel 25) ⟨fun _ => .int .i64 2⟩)),
       iOp (put 27) (.v true (oLoad1 (sel 26))),
       iOp (put 28) (.v false (oConvInt .u32 (sel 27))),
       iOp (put 29) (.v false (oSh fShl (sel 28) ⟨fun _ => .int .u64 8⟩)),
       iOp (put 30) (.v false (oInt2 fOr (sel 24) (sel 29))),
       iOp (put 31) (.v false (oEv (sel 4))),
       iOp (put 32) (.v false (oIndexAddrS 1 (sel 31) ⟨fun _ => .int .i64 3⟩)),
       iOp (put 33) (.v true (oLoad1 (sel 32))),
       iOp (put 34) (.v false (oConvInt .u32 (sel 33))),
       iOp (put 35) (.v false (oInt2 fOr (sel 30) (sel 34))),
       iOp (put 2) (.v false (oEv (sel 35))),
       iOp (put 3) (.v false (oEv ⟨fun _ => .int .i64 0⟩))])
     (sEx .ret))))⟩
theorem d48 : denF Try.prog 48 = some c48 := denF_of (by kernel_rfl)
/-- bollard/packet.mixed$1 -/
noncomputable def c49 : CF := ⟨6, [.tmp (sel 2)],
  sSeq (sRegion [iOp (put 1) (.a (aBox 33 (sel 0))),
    iOp (put 2) (.v false (oEv ⟨fun _ => .bool false⟩))])
  (sSeq (sRegion [iOp (put 3) (.v false (oFieldAddr 0 (sel 1))),
     iOp (put 4) (.v true (oLoad1 (sel 3))),
     iOp (put 5) (.e (eCallF 18 [(sel 4)])),
     iOp (put 2) (.v false (oEv (sel 5)))])
   (sEx .ret))⟩
theorem d49 : denF Try.prog 49 = some c49 := denF_of (by kernel_rfl)
noncomputable def c50_0 : Vm.Sem := sSeq (sRegion [iOp (put 9) (.v false (oInt2 fLss (sel 8) (sel 7)))])
 (sSeq (sCond (sel 9)
    (sEx .normal)
    (sEx (.exit 0)))
  (sSeq (sBlock 1 (sSeq (sRegion [iOp (put 10) (.v false (oEv (sel 8))),
       iOp (put 5) (.v false (oEv (sel 10)))])
     (sSeq (sRegion [iOp (put 11) (.v false (oEv (sel 1))),
        iOp (put 12) (.v false (oEv (sel 0))),
        iOp (put 13) (.v false (oEv (sel 5))),
        iOp (put 14) (.v false (oIndexAddrS 12 (sel 12) (sel 13))),
        iOp (put 15) (.v true (oLoadN 12 (sel 14))),
        iOp (put 16) (.e (eCall (sel 11) [(sel 15)]))])
      (sCond (sel 16)
        (sSeq (sRegion [iOp (put 17) (.v false (oEv (sel 5))),
           iOp (put 4) (.v false (oEv (sel 17)))])
         (sEx .ret))
        (sEx .normal)))))
   (sRegion [iOp (put 18) (.v false (oInt2 fAdd (sel 8) ⟨fun _ => .int .i64 1⟩)),
     iOp (put 8) (.v false (oEv (sel 18)))])))
/-- slices.IndexFunc[[]bollard/api.Chunk,bollard/api.Chunk] -/
noncomputable def c50 : CF := ⟨19, [.tmp (sel 4)],
  sSeq (sRegion [iOp (put 4) (.v false (oEv ⟨fun _ => .int .i64 0⟩))])
  (sSeq (sSeq (sRegion [iOp (put 6) (.v false (oEv (sel 0))),
      iOp (put 7) (.v false (oLenS (sel 6))),
      iOp (put 8) (.v false (oEv ⟨fun _ => .int .i64 0⟩))])
    (sBlock 0 (sLoop c50_0)))
   (sSeq (sRegion [iOp (put 4) (.v false (oEv ⟨fun _ => .int .i64 (-1)⟩))])
    (sEx .ret)))⟩
theorem d50 : denF Try.prog 50 = some c50 := denF_of (by kernel_rfl)
end Go.Proofs.Ytdcllpjoejkpnaa

