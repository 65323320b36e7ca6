/- Part of a proof by an abstract run of the program's code: UB. No condition. -/
import Derived.Test.YtdcllpjoejkpnaaUA
namespace Go.Proofs.Ytdcllpjoejkpnaa
open Go Vm
/-- bollard/chunk.Shaped -/
noncomputable def c51 : CF := ⟨55, [.tmp (sel 2)],
  sSeq (sRegion [iOp (put 1) (.a (aBox 33 (sel 0))),
    iOp (put 2) (.v false (oEv ⟨fun _ => .bool false⟩))])
  (sSeq (sRegion [iOp (put 6) (.v false (oFieldAddr 7 (sel 1))),
     iOp (put 7) (.v true (oLoad1 (sel 6))),
     iOp (put 8) (.v false (oLenS (sel 7))),
     iOp (put 9) (.v false (oInt2 fLeq (sel 8) ⟨fun _ => .int .i64 64⟩)),
     iOp (put 10) (.v false (oEv (sel 9))),
     iGuard (sel 10) true (put 11) (iOp (put 11) (.v false (oFieldAddr 8 (sel 1)))),
     iGuard (sel 10) true (put 12) (iOp (put 12) (.v true (oLoad1 (sel 11)))),
     iGuard (sel 10) true (put 13) (iOp (put 13) (.v false (oLenS (sel 12)))),
     iGuard (sel 10) true (put 14) (iOp (put 14) (.v false (oInt2 fLeq (sel 13) ⟨fun _ => .int .i64 64⟩))),
     iOp (put 15) (.v false (oPick (sel 10) (sel 14) ⟨fun _ => .bool false⟩)),
     iOp (put 16) (.v false (oEv (sel 15))),
     iGuard (sel 16) true (put 17) (iOp (put 17) (.v false (oFieldAddr 9 (sel 1)))),
     iGuard (sel 16) true (put 18) (iOp (put 18) (.v true (oLoad1 (sel 17)))),
     iGuard (sel 16) true (put 19) (iOp (put 19) (.v false (oLenS (sel 18)))),
     iGuard (sel 16) true (put 20) (iOp (put 20) (.v false (oInt2 fLeq (sel 19) ⟨fun _ => .int .i64 64⟩))),
     iOp (put 21) (.v false (oPick (sel 16) (sel 20) ⟨fun _ => .bool false⟩)),
     iOp (put 22) (.v false (oEv (sel 21))),
     iGuard (sel 22) true (put 23) (iOp (put 23) (.v false (oFieldAddr 11 (sel 1)))),
     iGuard (sel 22) true (put 24) (iOp (put 24) (.v true (oLoad1 (sel 23)))),
     iGuard (sel 22) true (put 25) (iOp (put 25) (.v false (oLenS (sel 24)))),
     iGuard (sel 22) true (put 26) (iOp (put 26) (.v false (oInt2 fLeq (sel 25) ⟨fun _ => .int .i64 1200⟩))),
     iOp (put 27) (.v false (oPick (sel 22) (sel 26) ⟨fun _ => .bool false⟩)),
     iOp (put 3) (.v false (oEv (sel 27)))])
   (sSeq (sSeq (sRegion [iOp (put 28) (.v false (oEv (sel 3))),
       iOp (put 29) (.v false (oNot (sel 28))),
       iOp (put 30) (.v false (oEv (sel 29))),
       iGuard (sel 30) false (put 31) (iOp (put 31) (.v false (oFieldAddr 0 (sel 1)))),
       iGuard (sel 30) false (put 32) (iOp (put 32) (.v true (oLoad1 (sel 31)))),
       iGuard (sel 30) false (put 33) (iOp (put 33) (.v false (oEq (.one 1) (sel 32) ⟨fun _ => .int .u8 0⟩))),
       iGuard (sel 30) false (put 34) (iOp (put 34) (.v false (oEv (sel 33)))),
       iGuard (sel 34) true (put 35) (iOp (put 35) (.v false (oFieldAddr 11 (sel 1)))),
       iGuard (sel 34) true (put 36) (iOp (put 36) (.v true (oLoad1 (sel 35)))),
       iGuard (sel 34) true (put 37) (iOp (put 37) (.v false (oLenS (sel 36)))),
       iGuard (sel 34) true (put 38) (iOp (put 38) (.v false (oEq (.one 1) (sel 37) ⟨fun _ => .int .i64 0⟩))),
       iGuard (sel 30) false (put 39) (iOp (put 39) (.v false (oPick (sel 34) (sel 38) ⟨fun _ => .bool false⟩))),
       iOp (put 40) (.v false (oPick (sel 30) ⟨fun _ => .bool true⟩ (sel 39)))])
     (sCond (sel 40)
       (sSeq (sRegion [iOp (put 2) (.v false (oEv ⟨fun _ => .bool false⟩))])
        (sEx .ret))
       (sEx .normal)))
    (sSeq (sRegion [iOp (put 42) (.v false (oFieldAddr 10 (sel 1))),
       iOp (put 43) (.v true (oLoad1 (sel 42))),
       iOp (put 44) (.e (eCallF 69 [(sel 43)])),
       iOp (put 41) (.v false (oEv (sel 44))),
       iOp (put 45) (.v false (oExtract (sel 41) 0)),
       iOp (put 46) (.v false (oExtract (sel 41) 1)),
       iOp (put 4) (.v false (oEv (sel 45))),
       iOp (put 5) (.v false (oEv (sel 46)))])
     (sSeq (sDr [iOp (put 47) (.v false (oEv (sel 5))),
        iOp (put 48) (.v false (oEq (.one 1) (sel 47) ⟨fun _ => .int .i64 0⟩)),
        iOp (put 49) (.v false (oEv (sel 48))),
        iGuard (sel 49) true (put 50) (iOp (put 50) (.v true (oLoadN 12 (sel 1)))),
        iGuard (sel 49) true (put 51) (iOp (put 51) (.v true (oLoadN 12 (sel 1)))),
        iGuard (sel 49) true (put 52) (iOp (put 52) (.e (eCallF 71 [(sel 51)]))),
        iGuard (sel 49) true (put 53) (iOp (put 53) (.e (eCallF 70 [(sel 50), (sel 52)]))),
        iOp (put 54) (.v false (oPick (sel 49) (sel 53) ⟨fun _ => .bool false⟩)),
        iOp (put 2) (.v false (oEv (sel 54)))]
        [(3, some ((sel 49), true), (oLoadN 12 (sel 1)), [0, 6])])
      (sEx .ret)))))⟩
theorem d51 : denF Try.prog 51 = some c51 := denF_of (by kernel_rfl)
/-- bollard/octet.with -/
noncomputable def c52 : CF := ⟨20, [.tmp (sel 4)],
  sSeq (sRegion [iOp (put 4) (.v false (oEv ⟨fun _ => .slice none 0 0⟩))])
  (sSeq (sRegion [iOp (put 6) (.v false (oEv (sel 0))),
     iOp (put 7) (.v false (oLenS (sel 6))),
     iOp (put 8) (.v false (oEv (sel 0))),
     iOp (put 9) (.v false (oLenS (sel 8))),
     iOp (put 10) (.v false (oEv (sel 1))),
     iOp (put 11) (.v false (oLenS (sel 10))),
     iOp (put 12) (.v false (oInt2 fAdd (sel 9) (sel 11))),
     iOp (put 13) (.a (aMakeSlice 5 1 [.int .u8 0] (sel 7) (sel 12))),
     iOp (put 5) (.v false (oEv (sel 13)))])
   (sSeq (sRegion [iOp (put 14) (.v false (oEv (sel 5))),
      iOp (put 15) (.v false (oEv (sel 0))),
      iOp (put 16) (.e (eCopy 1 (sel 14) (sel 15)))])
    (sSeq (sRegion [iOp (put 17) (.v false (oEv (sel 5))),
       iOp (put 18) (.v false (oEv (sel 1))),
       iOp (put 19) (.e (eAppend 5 1 1 (sel 17) (sel 18))),
       iOp (put 4) (.v false (oEv (sel 19)))])
     (sEx .ret))))⟩
theorem d52 : denF Try.prog 52 = some c52 := denF_of (by kernel_rfl)
noncomputable def c53_0 : Vm.Sem := sSeq (sRegion [iOp (put 80) (.v false (oInt2 fLss (sel 79) (sel 78)))])
 (sSeq (sCond (sel 80)
    (sEx .normal)
    (sEx (.exit 7)))
  (sSeq (sBlock 8 (sSeq (sRegion [iOp (put 81) (.v false (oIndexAddrS 2 (sel 77) (sel 79))),
       iOp (put 82) (.v true (oLoadN 2 (sel 81))),
       iOp (put 7) (.a (aAlloc 90 [.int .u16 0, .int .u16 0])),
       iOp ⟨fun _ a => a⟩ (.e (eStore 2 (sel 7) (sel 82)))])
     (sDr [iOp (put 83) (.v false (oEv (sel 3))),
       iOp (put 84) (.v false (oFieldAddr 0 (sel 7))),
       iOp (put 85) (.v true (oLoad1 (sel 84))),
       iOp (put 86) (.e (eCallF 30 [(sel 83), (sel 85)])),
       iOp (put 87) (.v false (oFieldAddr 1 (sel 7))),
       iOp (put 88) (.v true (oLoad1 (sel 87))),
       iOp (put 89) (.e (eCallF 30 [(sel 86), (sel 88)])),
       iOp (put 3) (.v false (oEv (sel 89)))]
       [(5, none, (oLoad1 (sel 87)), [0, 4])])))
   (sRegion [iOp (put 90) (.v false (oInt2 fAdd (sel 79) ⟨fun _ => .int .i64 1⟩)),
     iOp (put 79) (.v false (oEv (sel 90)))])))
/-- bollard/chunk.fields -/
noncomputable def c53 : CF := ⟨94, [.tmp (sel 2)],
  sSeq (sRegion [iOp (put 1) (.a (aBox 33 (sel 0))),
    iOp (put 2) (.v false (oEv ⟨fun _ => .slice none 0 0⟩))])
  (sSeq (sRegion [iOp (put 3) (.v false (oEv ⟨fun _ => .slice none 0 0⟩))])
   (sSeq (sSeq (sRegion [iOp (put 8) (.v false (oFieldAddr 0 (sel 1))),
       iOp (put 9) (.v true (oLoad1 (sel 8)))])
     (sBlock 0 (sSeq (sBlock 6 (sSeq (sBlock 5 (sSeq (sBlock 4 (sSeq (sBlock 3 (sSeq (sBlock 2 (sSeq (sBlock 1 (sSeq (sSeq (sSeq (sRegion [iOp (put 11) (.v false (oEq (.one 1) (sel 9) ⟨fun _ => .int .u8 0⟩)),
                       iOp (put 10) (.v false (oEv (sel 11)))])
                     (sCond (sel 10)
                       (sEx (.exit 1))
                       (sEx .normal)))
                    (sSeq (sSeq (sSeq (sRegion [iOp (put 13) (.v false (oEq (.one 1) (sel 9) ⟨fun _ => .int .u8 1⟩)),
                         iOp (put 12) (.v false (oEv (sel 13)))])
                       (sCond (sel 12)
                         (sEx .normal)
                         (sRegion [iOp (put 14) (.v false (oEq (.one 1) (sel 9) ⟨fun _ => .int .u8 2⟩)),
                           iOp (put 12) (.v false (oEv (sel 14)))])))
                      (sCond (sel 12)
                        (sEx (.exit 2))
                        (sEx .normal)))
                     (sSeq (sSeq (sSeq (sRegion [iOp (put 16) (.v false (oEq (.one 1) (sel 9) ⟨fun _ => .int .u8 4⟩)),
                          iOp (put 15) (.v false (oEv (sel 16)))])
                        (sCond (sel 15)
                          (sEx .normal)
                          (sSeq (sRegion [iOp (put 17) (.v false (oEq (.one 1) (sel 9) ⟨fun _ => .int .u8 5⟩)),
                             iOp (put 15) (.v false (oEv (sel 17)))])
                           (sCond (sel 15)
                             (sEx .normal)
                             (sSeq (sRegion [iOp (put 18) (.v false (oEq (.one 1) (sel 9) ⟨fun _ => .int .u8 6⟩)),
                                iOp (put 15) (.v false (oEv (sel 18)))])
                              (sCond (sel 15)
                                (sEx .normal)
                                (sSeq (sRegion [iOp (put 19) (.v false (oEq (.one 1) (sel 9) ⟨fun _ => .int .u8 9⟩)),
                                   iOp (put 15) (.v false (oEv (sel 19)))])
                                 (sCond (sel 15)
                                   (sEx .normal)
                                   (sRegion [iOp (put 20) (.v false (oEq (.one 1) (sel 9) ⟨fun _ => .int .u8 130⟩)),
                                     iOp (put 15) (.v false (oEv (sel 20)))])))))))))
                       (sCond (sel 15)
                         (sEx (.exit 3))
                         (sEx .normal)))
                      (sSeq (sSeq (sRegion [iOp (put 22) (.v false (oEq (.one 1) (sel 9) ⟨fun _ => .int .u8 3⟩)),
                          iOp (put 21) (.v false (oEv (sel 22)))])
                        (sCond (sel 21)
                          (sEx (.exit 4))
                          (sEx .normal)))
                       (sSeq (sSeq (sRegion [iOp (put 24) (.v false (oEq (.one 1) (sel 9) ⟨fun _ => .int .u8 7⟩)),
                           iOp (put 23) (.v false (oEv (sel 24)))])
                         (sCond (sel 23)
                           (sEx (.exit 5))
                           (sEx .normal)))
                        (sSeq (sRegion [iOp (put 26) (.v false (oEq (.one 1) (sel 9) ⟨fun _ => .int .u8 192⟩)),
                           iOp (put 25) (.v false (oEv (sel 26)))])
                         (sCond (sel 25)
                           (sEx (.exit 6))
                           (sEx .normal))))))))
                   (sEx (.exit 0))))
                 (sSeq (sSeq (sDr [iOp (put 27) (.v false (oFieldAddr 2 (sel 1))),
                     iOp (put 28) (.v true (oLoad1 (sel 27))),
                     iOp (put 29) (.e (eCallF 29 [⟨fun _ => .slice none 0 0⟩, (sel 28)])),
                     iOp (put 30) (.v false (oFieldAddr 4 (sel 1))),
                     iOp (put 31) (.v true (oLoad1 (sel 30))),
                     iOp (put 32) (.e (eCallF 30 [(sel 29), (sel 31)])),
                     iOp (put 33) (.v false (oFieldAddr 5 (sel 1))),
                     iOp (put 34) (.v true (oLoad1 (sel 33))),
                     iOp (put 35) (.e (eCallF 30 [(sel 32), (sel 34)])),
                     iOp (put 36) (.v false (oFieldAddr 6 (sel 1))),
                     iOp (put 37) (.v true (oLoad1 (sel 36))),
                     iOp (put 38) (.e (eCallF 29 [(sel 35), (sel 37)])),
                     iOp (put 3) (.v false (oEv (sel 38)))]
                     [(4, none, (oLoad1 (sel 30)), [0, 3]), (7, none, (oLoad1 (sel 33)), [0, 3, 6]), (10, none, (oLoad1 (sel 36)), [0, 3, 6, 9])])
                   (sSeq (sRegion [iOp (put 39) (.v false (oEv (sel 3))),
                      iOp (put 40) (.v false (oFieldAddr 11 (sel 1))),
                      iOp (put 41) (.v true (oLoad1 (sel 40))),
                      iOp (put 42) (.e (eAppend 5 1 1 (sel 39) (sel 41))),
                      iOp (put 2) (.v false (oEv (sel 42)))])
                    (sEx .ret)))
                  (sEx (.exit 0)))))
               (sSeq (sDr [iOp (put 43) (.v false (oFieldAddr 2 (sel 1))),
                  iOp (put 44) (.v true (oLoad1 (sel 43))),
                  iOp (put 45) (.e (eCallF 29 [⟨fun _ => .slice none 0 0⟩, (sel 44)])),
                  iOp (put 46) (.v false (oFieldAddr 3 (sel 1))),
                  iOp (put 47) (.v true (oLoad1 (sel 46))),
                  iOp (put 48) (.e (eCallF 29 [(sel 45), (sel 47)])),
                  iOp (put 49) (.v false (oFieldAddr 4 (sel 1))),
                  iOp (put 50) (.v true (oLoad1 (sel 49))),
                  iOp (put 51) (.e (eCallF 30 [(sel 48), (sel 50)])),
                  iOp (put 52) (.v false (oFieldAddr 5 (sel 1))),
                  iOp (put 53) (.v true (oLoad1 (sel 52))),
                  iOp (put 54) (.e (eCallF 30 [(sel 51), (sel 53)])),
                  iOp (put 3) (.v false (oEv (sel 54)))]
                  [(4, none, (oLoad1 (sel 46)), [0, 3]), (7, none, (oLoad1 (sel 49)), [0, 3, 6]), (10, none, (oLoad1 (sel 52)), [0, 3, 6, 9])])
                (sRegion [iOp (put 55) (.v false (oEv (sel 3))),
                  iOp (put 56) (.v false (oFieldAddr 6 (sel 1))),
                  iOp (put 57) (.v true (oLoad1 (sel 56))),
                  iOp (put 58) (.e (eCallF 29 [(sel 55), (sel 57)])),
                  iOp (put 3) (.v false (oEv (sel 58)))]))))
             (sSeq (sSeq (sRegion [iOp (put 60) (.v false (oFieldAddr 10 (sel 1))),
                 iOp (put 61) (.v true (oLoad1 (sel 60))),
                 iOp (put 62) (.e (eCallF 69 [(sel 61)])),
                 iOp (put 59) (.v false (oEv (sel 62))),
                 iOp (put 63) (.v false (oExtract (sel 59) 0)),
                 iOp (put 64) (.v false (oExtract (sel 59) 1)),
                 iOp (put 4) (.v false (oEv (sel 63))),
                 iOp (put 5) (.v false (oEv (sel 64)))])
               (sSeq (sRegion [iOp (put 65) (.v false (oEv (sel 3))),
                  iOp (put 66) (.v false (oEv (sel 4))),
                  iOp (put 67) (.e (eAppend 5 1 1 (sel 65) (sel 66))),
                  iOp (put 2) (.v false (oEv (sel 67)))])
                (sEx .ret)))
              (sEx (.exit 0)))))
           (sSeq (sSeq (sRegion [iOp (put 68) (.v true (oLoadN 12 (sel 1))),
               iOp (put 69) (.e (eCallF 72 [(sel 68)])),
               iOp (put 2) (.v false (oEv (sel 69)))])
             (sEx .ret))
            (sEx (.exit 0)))))
         (sSeq (sSeq (sRegion [iOp (put 70) (.v false (oFieldAddr 2 (sel 1))),
             iOp (put 71) (.v true (oLoad1 (sel 70))),
             iOp (put 72) (.e (eCallF 29 [⟨fun _ => .slice none 0 0⟩, (sel 71)])),
             iOp (put 2) (.v false (oEv (sel 72)))])
           (sEx .ret))
          (sEx (.exit 0)))))
       (sSeq (sSeq (sRegion [iOp (put 73) (.v false (oFieldAddr 2 (sel 1))),
           iOp (put 74) (.v true (oLoad1 (sel 73))),
           iOp (put 75) (.e (eCallF 29 [⟨fun _ => .slice none 0 0⟩, (sel 74)])),
           iOp (put 3) (.v false (oEv (sel 75)))])
         (sSeq (sSeq (sRegion [iOp (put 76) (.v false (oFieldAddr 9 (sel 1))),
             iOp (put 77) (.v true (oLoad1 (sel 76))),
             iOp (put 78) (.v false (oLenS (sel 77))),
             iOp (put 79) (.v false (oEv ⟨fun _ => .int .i64 0⟩))])
           (sBlock 7 (sLoop c53_0)))
          (sSeq (sRegion [iOp (put 91) (.v false (oEv (sel 3))),
             iOp (put 2) (.v false (oEv (sel 91)))])
           (sEx .ret))))
        (sEx (.exit 0))))))
    (sSeq (sRegion [iOp (put 92) (.v false (oFieldAddr 11 (sel 1))),
       iOp (put 93) (.v true (oLoad1 (sel 92))),
       iOp (put 2) (.v false (oEv (sel 93)))])
     (sEx .ret))))⟩
theorem d53 : denF Try.prog 53 = some c53 := denF_of (by kernel_rfl)
/-- bollard/octet.Pad -/
noncomputable def c54 : CF := ⟨9, [.tmp (sel 2)],
  sSeq (sRegion [iOp (put 2) (.v false (oEv ⟨fun _ => .slice none 0 0⟩))])
  (sSeq (sRegion [iOp (put 3) (.v false (oEv (sel 0))),
     iOp (put 4) (.v false (oEv (sel 0))),
     iOp (put 5) (.v false (oLenS (sel 4))),
     iOp (put 6) (.e (eCallF 73 [(sel 5)])),
     iOp (put 7) (.a (aMakeSlice 5 1 [.int .u8 0] (sel 6) (sel 6))),
     iOp (put 8) (.e (eCallF 52 [(sel 3), (sel 7)])),
     iOp (put 2) (.v false (oEv (sel 8)))])
   (sEx .ret))⟩
theorem d54 : denF Try.prog 54 = some c54 := denF_of (by kernel_rfl)
noncomputable def c55_0 : Vm.Sem := sSeq (sRegion [iOp (put 15) (.v false (oInt2 fLss (sel 14) (sel 13)))])
 (sSeq (sCond (sel 15)
    (sEx .normal)
    (sEx (.exit 0)))
  (sSeq (sBlock 1 (sSeq (sRegion [iOp (put 16) (.v false (oIndexAddrS 1 (sel 12) (sel 14))),
       iOp (put 17) (.v true (oLoad1 (sel 16))),
       iOp (put 8) (.v false (oEv (sel 17)))])
     (sRegion [iOp (put 18) (.v false (oEv (sel 1))),
       iOp (put 19) (.v false (oSh fShr (sel 18) ⟨fun _ => .int .u64 8⟩)),
       iOp (put 20) (.v false (oEv (sel 0))),
       iOp (put 21) (.v false (oEv (sel 1))),
       iOp (put 22) (.v false (oConvInt .u8 (sel 21))),
       iOp (put 23) (.v false (oEv (sel 8))),
       iOp (put 24) (.v false (oInt2 fXor (sel 22) (sel 23))),
       iOp (put 25) (.v false (oIndexAddrS 1 (sel 20) (sel 24))),
       iOp (put 26) (.v true (oLoad1 (sel 25))),
       iOp (put 27) (.v false (oInt2 fXor (sel 19) (sel 26))),
       iOp (put 1) (.v false (oEv (sel 27)))])))
   (sRegion [iOp (put 28) (.v false (oInt2 fAdd (sel 14) ⟨fun _ => .int .i64 1⟩)),
     iOp (put 14) (.v false (oEv (sel 28)))])))
/-- bollard/crc.Step -/
noncomputable def c55 : CF := ⟨30, [.tmp (sel 6)],
  sSeq (sRegion [iOp (put 6) (.v false (oEv ⟨fun _ => .int .u32 0⟩))])
  (sSeq (sSeq (sRegion [iOp (put 9) (.v false (oEv (sel 0))),
      iOp (put 10) (.v false (oLenS (sel 9))),
      iOp (put 11) (.v false (oNe (.one 1) (sel 10) ⟨fun _ => .int .i64 256⟩))])
    (sCond (sel 11)
      (sSeq (sRegion [iOp (put 6) (.v false (oEv ⟨fun _ => .int .u32 0⟩))])
       (sEx .ret))
      (sEx .normal)))
   (sSeq (sSeq (sRegion [iOp (put 12) (.v false (oEv (sel 2))),
       iOp (put 13) (.v false (oLenS (sel 12))),
       iOp (put 14) (.v false (oEv ⟨fun _ => .int .i64 0⟩))])
     (sBlock 0 (sLoop c55_0)))
    (sSeq (sRegion [iOp (put 29) (.v false (oEv (sel 1))),
       iOp (put 6) (.v false (oEv (sel 29)))])
     (sEx .ret))))⟩
theorem d55 : denF Try.prog 55 = some c55 := denF_of (by kernel_rfl)
noncomputable def c57_0 : Vm.Sem := sSeq (sSeq (sRegion [iOp (put 9) (.v false (oEv (sel 5))),
    iOp (put 10) (.v false (oEv (sel 0))),
    iOp (put 11) (.v false (oLenS (sel 10))),
    iOp (put 12) (.v false (oInt2 fLss (sel 9) (sel 11)))])
  (sCond (sel 12)
    (sEx .normal)
    (sEx (.exit 0))))
 (sSeq (sBlock 1 (sSeq (sSeq (sRegion [iOp (put 15) (.v false (oEv (sel 0))),
       iOp (put 16) (.v false (oEv (sel 5))),
       iOp (put 17) (.v false (oIndexAddrS 2 (sel 15) (sel 16))),
       iOp (put 18) (.v false (oFieldAddr 1 (sel 17))),
       iOp (put 19) (.v true (oLoad1 (sel 18))),
       iOp (put 20) (.v false (oLenS (sel 19))),
       iOp (put 21) (.v false (oInt2 fGtr (sel 20) ⟨fun _ => .int .i64 1200⟩))])
     (sCond (sel 21)
       (sSeq (sRegion [iOp (put 2) (.v false (oEv ⟨fun _ => .slice none 0 0⟩)),
          iOp (put 3) (.v false (oEv ⟨fun _ => .int .i64 10⟩))])
        (sEx .ret))
       (sEx .normal)))
    (sSeq (sDr [iOp (put 22) (.v false (oEv (sel 4))),
       iOp (put 23) (.v false (oEv (sel 0))),
       iOp (put 24) (.v false (oEv (sel 5))),
       iOp (put 25) (.v false (oIndexAddrS 2 (sel 23) (sel 24))),
       iOp (put 26) (.v false (oFieldAddr 0 (sel 25))),
       iOp (put 27) (.v true (oLoad1 (sel 26))),
       iOp (put 28) (.v false (oConvInt .u32 (sel 27))),
       iOp (put 29) (.e (eCallF 34 [(sel 22), (sel 28), ⟨fun _ => .int .i64 2⟩])),
       iOp (put 30) (.v false (oEv (sel 0))),
       iOp (put 31) (.v false (oEv (sel 5))),
       iOp (put 32) (.v false (oIndexAddrS 2 (sel 30) (sel 31))),
       iOp (put 33) (.v false (oFieldAddr 1 (sel 32))),
       iOp (put 34) (.v true (oLoad1 (sel 33))),
       iOp (put 35) (.v false (oLenS (sel 34))),
       iOp (put 36) (.v false (oInt2 fAdd ⟨fun _ => .int .i64 4⟩ (sel 35))),
       iOp (put 37) (.v false (oConvInt .u32 (sel 36))),
       iOp (put 38) (.e (eCallF 34 [(sel 29), (sel 37), ⟨fun _ => .int .i64 2⟩])),
       iOp (put 4) (.v false (oEv (sel 38)))]
       [(12, none, (oLoad1 (sel 33)), [0, 8])])
     (sSeq (sRegion [iOp (put 39) (.v false (oEv (sel 4))),
        iOp (put 40) (.v false (oEv (sel 0))),
        iOp (put 41) (.v false (oEv (sel 5))),
        iOp (put 42) (.v false (oIndexAddrS 2 (sel 40) (sel 41))),
        iOp (put 43) (.v false (oFieldAddr 1 (sel 42))),
        iOp (put 44) (.v true (oLoad1 (sel 43))),
        iOp (put 45) (.e (eAppend 5 1 1 (sel 39) (sel 44))),
        iOp (put 4) (.v false (oEv (sel 45)))])
      (sRegion [iOp (put 46) (.v false (oEv (sel 4))),
        iOp (put 47) (.e (eCallF 58 [(sel 46)])),
        iOp (put 4) (.v false (oEv (sel 47)))])))))
  (sRegion [iOp (put 13) (.v false (oEv (sel 5))),
    iOp (put 14) (.v false (oInt2 fAdd (sel 13) ⟨fun _ => .int .i64 1⟩)),
    iOp (put 5) (.v false (oEv (sel 14)))]))
/-- bollard/bollardref06.Encode -/
noncomputable def c57 : CF := ⟨49, [.tmp (sel 2), .tmp (sel 3)],
  sSeq (sRegion [iOp (put 2) (.v false (oEv ⟨fun _ => .slice none 0 0⟩)),
    iOp (put 3) (.v false (oEv ⟨fun _ => .int .i64 0⟩))])
  (sSeq (sSeq (sRegion [iOp (put 6) (.v false (oEv (sel 0))),
      iOp (put 7) (.v false (oLenS (sel 6))),
      iOp (put 8) (.v false (oInt2 fGtr (sel 7) ⟨fun _ => .int .i64 32⟩))])
    (sCond (sel 8)
      (sSeq (sRegion [iOp (put 2) (.v false (oEv ⟨fun _ => .slice none 0 0⟩)),
         iOp (put 3) (.v false (oEv ⟨fun _ => .int .i64 10⟩))])
       (sEx .ret))
      (sEx .normal)))
   (sSeq (sRegion [iOp (put 4) (.v false (oEv ⟨fun _ => .slice none 0 0⟩))])
    (sSeq (sSeq (sRegion [iOp (put 5) (.v false (oEv ⟨fun _ => .int .i64 0⟩))])
      (sBlock 0 (sLoop c57_0)))
     (sSeq (sRegion [iOp (put 48) (.v false (oEv (sel 4))),
        iOp (put 2) (.v false (oEv (sel 48))),
        iOp (put 3) (.v false (oEv ⟨fun _ => .int .i64 0⟩))])
      (sEx .ret)))))⟩
theorem d57 : denF Try.prog 57 = some c57 := denF_of (by kernel_rfl)
noncomputable def c58_0 : Vm.Sem := sSeq (sSeq (sRegion [iOp (put 7) (.v false (oEv (sel 3))),
    iOp (put 8) (.v false (oLenS (sel 7))),
    iOp (put 9) (.v false (oInt2 fRem (sel 8) ⟨fun _ => .int .i64 4⟩)),
    iOp (put 10) (.v false (oNe (.one 1) (sel 9) ⟨fun _ => .int .i64 0⟩))])
  (sCond (sel 10)
    (sEx .normal)
    (sEx (.exit 0))))
 (sBlock 1 (sRegion [iOp (put 11) (.v false (oEv (sel 3))),
    iOp (put 12) (.a (aBuildSlice 5 1 (rep 1 [.int .u8 0]) [(0, 1, ⟨fun _ => .int .u8 0⟩)])),
    iOp (put 13) (.e (eAppend 5 1 1 (sel 11) (sel 12))),
    iOp (put 3) (.v false (oEv (sel 13)))]))
/-- bollard/bollardref01.Pad -/
noncomputable def c58 : CF := ⟨15, [.tmp (sel 2)],
  sSeq (sRegion [iOp (put 2) (.v false (oEv ⟨fun _ => .slice none 0 0⟩))])
  (sSeq (sRegion [iOp (put 3) (.v false (oEv ⟨fun _ => .slice none 0 0⟩))])
   (sSeq (sRegion [iOp (put 4) (.v false (oEv (sel 3))),
      iOp (put 5) (.v false (oEv (sel 0))),
      iOp (put 6) (.e (eAppend 5 1 1 (sel 4) (sel 5))),
      iOp (put 3) (.v false (oEv (sel 6)))])
    (sSeq (sBlock 0 (sLoop c58_0))
     (sSeq (sRegion [iOp (put 14) (.v false (oEv (sel 3))),
        iOp (put 2) (.v false (oEv (sel 14)))])
      (sEx .ret)))))⟩
theorem d58 : denF Try.prog 58 = some c58 := denF_of (by kernel_rfl)
noncomputable def c64_0 : Vm.Sem := sSeq (sSeq (sRegion [iOp (put 11) (.v false (oEv (sel 5))),
    iOp (put 12) (.v false (oEv (sel 0))),
    iOp (put 13) (.v false (oLenS (sel 12))),
    iOp (put 14) (.v false (oInt2 fLss (sel 11) (sel 13)))])
  (sCond (sel 14)
    (sEx .normal)
    (sEx (.exit 0))))
 (sSeq (sBlock 1 (sSeq (sRegion [iOp (put 17) (.v false (oEv (sel 0))),
      iOp (put 18) (.v false (oEv (sel 5))),
      iOp (put 19) (.v false (oIndexAddrS 2 (sel 17) (sel 18))),
      iOp (put 20) (.v false (oFieldAddr 0 (sel 19))),
      iOp (put 21) (.v true (oLoad1 (sel 20))),
      iOp (put 22) (.v false (oEv (sel 1))),
      iOp (put 23) (.v false (oEv (sel 5))),
      iOp (put 24) (.v false (oIndexAddrS 2 (sel 22) (sel 23))),
      iOp (put 25) (.v false (oFieldAddr 0 (sel 24))),
      iOp (put 26) (.v true (oLoad1 (sel 25))),
      iOp (put 27) (.v false (oNe (.one 1) (sel 21) (sel 26))),
      iOp (put 28) (.v false (oEv (sel 27))),
      iGuard (sel 28) false (put 29) (iOp (put 29) (.v false (oEv (sel 0)))),
      iGuard (sel 28) false (put 30) (iOp (put 30) (.v false (oEv (sel 5)))),
      iGuard (sel 28) false (put 31) (iOp (put 31) (.v false (oIndexAddrS 2 (sel 29) (sel 30)))),
      iGuard (sel 28) false (put 32) (iOp (put 32) (.v false (oFieldAddr 1 (sel 31)))),
      iGuard (sel 28) false (put 33) (iOp (put 33) (.v true (oLoad1 (sel 32)))),
      iGuard (sel 28) false (put 34) (iOp (put 34) (.v true (oToString (sel 33)))),
      iGuard (sel 28) false (put 35) (iOp (put 35) (.v false (oEv (sel 1)))),
      iGuard (sel 28) false (put 36) (iOp (put 36) (.v false (oEv (sel 5)))),
      iGuard (sel 28) false (put 37) (iOp (put 37) (.v false (oIndexAddrS 2 (sel 35) (sel 36)))),
      iGuard (sel 28) false (put 38) (iOp (put 38) (.v false (oFieldAddr 1 (sel 37)))),
      iGuard (sel 28) false (put 39) (iOp (put 39) (.v true (oLoad1 (sel 38)))),
      iGuard (sel 28) false (put 40) (iOp (put 40) (.v true (oToString (sel 39)))),
      iGuard (sel 28) false (put 41) (iOp (put 41) (.v false (oNe (.one 2) (sel 34) (sel 40)))),
      iOp (put 42) (.v false (oPick (sel 28) ⟨fun _ => .bool true⟩ (sel 41)))])
    (sCond (sel 42)
      (sSeq (sRegion [iOp (put 4) (.v false (oEv ⟨fun _ => .bool false⟩))])
       (sEx .ret))
      (sEx .normal))))
  (sRegion [iOp (put 15) (.v false (oEv (sel 5))),
    iOp (put 16) (.v false (oInt2 fAdd (sel 15) ⟨fun _ => .int .i64 1⟩)),
    iOp (put 5) (.v false (oEv (sel 16)))]))
/-- bollard/bollardref06.Same -/
noncomputable def c64 : CF := ⟨43, [.tmp (sel 4)],
  sSeq (sRegion [iOp (put 4) (.v false (oEv ⟨fun _ => .bool false⟩))])
  (sSeq (sSeq (sRegion [iOp (put 6) (.v false (oEv (sel 0))),
      iOp (put 7) (.v false (oLenS (sel 6))),
      iOp (put 8) (.v false (oEv (sel 1))),
      iOp (put 9) (.v false (oLenS (sel 8))),
      iOp (put 10) (.v false (oNe (.one 1) (sel 7) (sel 9)))])
    (sCond (sel 10)
      (sSeq (sRegion [iOp (put 4) (.v false (oEv ⟨fun _ => .bool false⟩))])
       (sEx .ret))
      (sEx .normal)))
   (sSeq (sSeq (sRegion [iOp (put 5) (.v false (oEv ⟨fun _ => .int .i64 0⟩))])
     (sBlock 0 (sLoop c64_0)))
    (sSeq (sRegion [iOp (put 4) (.v false (oEv ⟨fun _ => .bool true⟩))])
     (sEx .ret))))⟩
theorem d64 : denF Try.prog 64 = some c64 := denF_of (by kernel_rfl)
/-- bollard/bollardref03.bit -/
noncomputable def c65 : CF := ⟨11, [.tmp (sel 2)],
  sSeq (sRegion [iOp (put 2) (.v false (oEv ⟨fun _ => .int .u32 0⟩))])
  (sSeq (sSeq (sRegion [iOp (put 3) (.v false (oEv (sel 0))),
      iOp (put 4) (.v false (oInt2 fRem (sel 3) ⟨fun _ => .int .u32 2⟩)),
      iOp (put 5) (.v false (oEq (.one 1) (sel 4) ⟨fun _ => .int .u32 1⟩))])
    (sCond (sel 5)
      (sSeq (sRegion [iOp (put 6) (.v false (oEv (sel 0))),
         iOp (put 7) (.v false (oInt2 fQuo (sel 6) ⟨fun _ => .int .u32 2⟩)),
         iOp (put 8) (.v false (oInt2 fXor (sel 7) ⟨fun _ => .int .u32 2197175160⟩)),
         iOp (put 2) (.v false (oEv (sel 8)))])
       (sEx .ret))
      (sEx .normal)))
   (sSeq (sRegion [iOp (put 9) (.v false (oEv (sel 0))),
      iOp (put 10) (.v false (oInt2 fQuo (sel 9) ⟨fun _ => .int .u32 2⟩)),
      iOp (put 2) (.v false (oEv (sel 10)))])
    (sEx .ret)))⟩
theorem d65 : denF Try.prog 65 = some c65 := denF_of (by kernel_rfl)
/-- slices.Clone[[]byte,byte] -/
noncomputable def c66 : CF := ⟨8, [.tmp (sel 2)],
  sSeq (sRegion [iOp (put 2) (.v false (oEv ⟨fun _ => .slice none 0 0⟩))])
  (sSeq (sSeq (sRegion [iOp (put 3) (.v false (oEv (sel 0))),
      iOp (put 4) (.v false (oEq (.one 4) (sel 3) ⟨fun _ => .slice none 0 0⟩))])
    (sCond (sel 4)
      (sSeq (sRegion [iOp (put 2) (.v false (oEv ⟨fun _ => .slice none 0 0⟩))])
       (sEx .ret))
      (sEx .normal)))
   (sSeq (sRegion [iOp (put 5) (.a (aBuildSlice 5 0 (rep 0 [.int .u8 0]) [])),
      iOp (put 6) (.v false (oEv (sel 0))),
      iOp (put 7) (.e (eAppend 5 1 1 (sel 5) (sel 6))),
      iOp (put 2) (.v false (oEv (sel 7)))])
    (sEx .ret)))⟩
theorem d66 : denF Try.prog 66 = some c66 := denF_of (by kernel_rfl)
/-- (*bollard/octet.Reader).take -/
noncomputable def c68 : CF := ⟨39, [.tmp (sel 4), .tmp (sel 5)],
  sSeq (sRegion [iOp (put 4) (.v false (oEv ⟨fun _ => .slice none 0 0⟩)),
    iOp (put 5) (.v false (oEv ⟨fun _ => .int .i64 0⟩))])
  (sSeq (sBlock 0 (sSeq (sRegion [iOp (put 8) (.v false (oEv (sel 0))),
       iOp (put 9) (.v false (oEq (.one 3) (sel 8) ⟨fun _ => .pointer none⟩)),
       iOp (put 10) (.v false (oEv (sel 9))),
       iGuard (sel 10) false (put 11) (iOp (put 11) (.v false (oEv (sel 1)))),
       iGuard (sel 10) false (put 12) (iOp (put 12) (.v false (oInt2 fLss (sel 11) ⟨fun _ => .int .i64 0⟩))),
       iOp (put 13) (.v false (oPick (sel 10) ⟨fun _ => .bool true⟩ (sel 12))),
       iOp (put 7) (.v false (oEv (sel 13)))])
     (sCond (sel 7)
       (sSeq (sRegion [iOp (put 4) (.v false (oEv ⟨fun _ => .slice none 0 0⟩)),
          iOp (put 5) (.v false (oEv ⟨fun _ => .int .i64 1⟩))])
        (sEx .ret))
       (sSeq (sRegion [iOp (put 15) (.v false (oEv (sel 1))),
          iOp (put 16) (.v false (oEv (sel 0))),
          iOp (put 17) (.v false (oNilCheck (sel 16))),
          iOp (put 18) (.v false (oFieldAddr 0 (sel 17))),
          iOp (put 19) (.v true (oLoad1 (sel 18))),
          iOp (put 20) (.v false (oLenS (sel 19))),
          iOp (put 21) (.v false (oInt2 fGtr (sel 15) (sel 20))),
          iOp (put 14) (.v false (oEv (sel 21)))])
        (sCond (sel 14)
          (sSeq (sRegion [iOp (put 4) (.v false (oEv ⟨fun _ => .slice none 0 0⟩)),
             iOp (put 5) (.v false (oEv ⟨fun _ => .int .i64 2⟩))])
           (sEx .ret))
          (sEx .normal))))))
   (sSeq (sRegion [iOp (put 22) (.v false (oEv (sel 0))),
      iOp (put 23) (.v false (oNilCheck (sel 22))),
      iOp (put 24) (.v false (oFieldAddr 0 (sel 23))),
      iOp (put 25) (.v true (oLoad1 (sel 24))),
      iOp (put 26) (.v false (oEv (sel 1))),
      iOp (put 27) (.v false (oEv (sel 1))),
      iOp (put 28) (.v false (oSlice 1 (sel 25) none (some (sel 26)) (some (sel 27)))),
      iOp (put 6) (.v false (oEv (sel 28)))])
    (sSeq (sRegion [iOp (put 29) (.v false (oEv (sel 0))),
       iOp (put 30) (.v false (oEv (sel 0))),
       iOp (put 31) (.v false (oNilCheck (sel 30))),
       iOp (put 32) (.v false (oFieldAddr 0 (sel 31))),
       iOp (put 33) (.v true (oLoad1 (sel 32))),
       iOp (put 34) (.v false (oEv (sel 1))),
       iOp (put 35) (.v false (oSlice 1 (sel 33) (some (sel 34)) none none)),
       iOp (put 36) (.v false (oNilCheck (sel 29))),
       iOp (put 37) (.v false (oFieldAddr 0 (sel 36))),
       iOp ⟨fun _ a => a⟩ (.e (eStore 1 (sel 37) (sel 35)))])
     (sSeq (sRegion [iOp (put 38) (.v false (oEv (sel 6))),
        iOp (put 4) (.v false (oEv (sel 38))),
        iOp (put 5) (.v false (oEv ⟨fun _ => .int .i64 0⟩))])
      (sEx .ret)))))⟩
theorem d68 : denF Try.prog 68 = some c68 := denF_of (by kernel_rfl)
noncomputable def c69_0 : Vm.Sem := sSeq (sRegion [iOp (put 18) (.v false (oInt2 fLss (sel 17) (sel 16)))])
 (sSeq (sCond (sel 18)
    (sEx .normal)
    (sEx (.exit 0)))
  (sSeq (sBlock 1 (sSeq (sRegion [iOp (put 19) (.v false (oIndexAddrS 2 (sel 15) (sel 17))),
       iOp (put 20) (.v true (oLoadN 2 (sel 19))),
       iOp (put 6) (.a (aAlloc 58 [.int .u16 0, .slice none 0 0])),
       iOp ⟨fun _ a => a⟩ (.e (eStore 2 (sel 6) (sel 20)))])
     (sSeq (sDr [iOp (put 21) (.v false (oFieldAddr 0 (sel 6))),
        iOp (put 22) (.v true (oLoad1 (sel 21))),
        iOp (put 23) (.e (eCallF 30 [⟨fun _ => .slice none 0 0⟩, (sel 22)])),
        iOp (put 24) (.v false (oFieldAddr 1 (sel 6))),
        iOp (put 25) (.v true (oLoad1 (sel 24))),
        iOp (put 26) (.v false (oLenS (sel 25))),
        iOp (put 27) (.v false (oInt2 fAdd ⟨fun _ => .int .i64 4⟩ (sel 26))),
        iOp (put 28) (.v false (oConvInt .u16 (sel 27))),
        iOp (put 29) (.e (eCallF 30 [(sel 23), (sel 28)])),
        iOp (put 7) (.v false (oEv (sel 29)))]
        [(4, none, (oLoad1 (sel 24)), [0, 3])])
      (sRegion [iOp (put 30) (.v false (oEv (sel 4))),
        iOp (put 31) (.v false (oEv (sel 7))),
        iOp (put 32) (.v false (oFieldAddr 1 (sel 6))),
        iOp (put 33) (.v true (oLoad1 (sel 32))),
        iOp (put 34) (.e (eAppend 5 1 1 (sel 31) (sel 33))),
        iOp (put 35) (.e (eCallF 54 [(sel 34)])),
        iOp (put 36) (.e (eAppend 5 1 1 (sel 30) (sel 35))),
        iOp (put 4) (.v false (oEv (sel 36)))]))))
   (sRegion [iOp (put 37) (.v false (oInt2 fAdd (sel 17) ⟨fun _ => .int .i64 1⟩)),
     iOp (put 17) (.v false (oEv (sel 37)))])))
/-- bollard/tlv.Encode -/
noncomputable def c69 : CF := ⟨39, [.tmp (sel 2), .tmp (sel 3)],
  sSeq (sRegion [iOp (put 2) (.v false (oEv ⟨fun _ => .slice none 0 0⟩)),
    iOp (put 3) (.v false (oEv ⟨fun _ => .int .i64 0⟩))])
  (sSeq (sSeq (sRegion [iOp (put 8) (.v false (oEv (sel 0))),
      iOp (put 9) (.v false (oLenS (sel 8))),
      iOp (put 10) (.v false (oInt2 fGtr (sel 9) ⟨fun _ => .int .i64 32⟩)),
      iOp (put 11) (.v false (oEv (sel 10))),
      iGuard (sel 11) false (put 12) (iOp (put 12) (.v false (oEv (sel 0)))),
      iGuard (sel 11) false (put 13) (iOp (put 13) (.e (eCallF 79 [(sel 12), ⟨fun _ => .func (.func 80) #[] #[]⟩]))),
      iOp (put 14) (.v false (oPick (sel 11) ⟨fun _ => .bool true⟩ (sel 13)))])
    (sCond (sel 14)
      (sSeq (sRegion [iOp (put 2) (.v false (oEv ⟨fun _ => .slice none 0 0⟩)),
         iOp (put 3) (.v false (oEv ⟨fun _ => .int .i64 10⟩))])
       (sEx .ret))
      (sEx .normal)))
   (sSeq (sRegion [iOp (put 4) (.v false (oEv ⟨fun _ => .slice none 0 0⟩))])
    (sSeq (sSeq (sRegion [iOp (put 15) (.v false (oEv (sel 0))),
        iOp (put 16) (.v false (oLenS (sel 15))),
        iOp (put 17) (.v false (oEv ⟨fun _ => .int .i64 0⟩))])
      (sBlock 0 (sLoop c69_0)))
     (sSeq (sRegion [iOp (put 38) (.v false (oEv (sel 4))),
        iOp (put 2) (.v false (oEv (sel 38))),
        iOp (put 3) (.v false (oEv ⟨fun _ => .int .i64 0⟩))])
      (sEx .ret)))))⟩
theorem d69 : denF Try.prog 69 = some c69 := denF_of (by kernel_rfl)
/-- bollard/chunk.Same -/
noncomputable def c70 : CF := ⟨91, [.tmp (sel 4)],
  sSeq (sRegion [iOp (put 2) (.a (aBox 33 (sel 0))),
    iOp (put 3) (.a (aBox 33 (sel 1))),
    iOp (put 4) (.v false (oEv ⟨fun _ => .bool false⟩))])
  (sSeq (sRegion [iOp (put 7) (.v false (oFieldAddr 0 (sel 2))),
     iOp (put 8) (.v true (oLoad1 (sel 7))),
     iOp (put 9) (.v false (oFieldAddr 0 (sel 3))),
     iOp (put 10) (.v true (oLoad1 (sel 9))),
     iOp (put 11) (.v false (oEq (.one 1) (sel 8) (sel 10))),
     iOp (put 12) (.v false (oEv (sel 11))),
     iGuard (sel 12) true (put 13) (iOp (put 13) (.v false (oFieldAddr 1 (sel 2)))),
     iGuard (sel 12) true (put 14) (iOp (put 14) (.v true (oLoad1 (sel 13)))),
     iGuard (sel 12) true (put 15) (iOp (put 15) (.v false (oFieldAddr 1 (sel 3)))),
     iGuard (sel 12) true (put 16) (iOp (put 16) (.v true (oLoad1 (sel 15)))),
     iGuard (sel 12) true (put 17) (iOp (put 17) (.v false (oEq (.one 1) (sel 14) (sel 16)))),
     iOp (put 18) (.v false (oPick (sel 12) (sel 17) ⟨fun _ => .bool false⟩)),
     iOp (put 19) (.v false (oEv (sel 18))),
     iGuard (sel 19) true (put 20) (iOp (put 20) (.v false (oFieldAddr 2 (sel 2)))),
     iGuard (sel 19) true (put 21) (iOp (put 21) (.v true (oLoad1 (sel 20)))),
     iGuard (sel 19) true (put 22) (iOp (put 22) (.v false (oFieldAddr 2 (sel 3)))),
     iGuard (sel 19) true (put 23) (iOp (put 23) (.v true (oLoad1 (sel 22)))),
     iGuard (sel 19) true (put 24) (iOp (put 24) (.v false (oEq (.one 1) (sel 21) (sel 23)))),
     iOp (put 25) (.v false (oPick (sel 19) (sel 24) ⟨fun _ => .bool false⟩)),
     iOp (put 26) (.v false (oEv (sel 25))),
     iGuard (sel 26) true (put 27) (iOp (put 27) (.v false (oFieldAddr 3 (sel 2)))),
     iGuard (sel 26) true (put 28) (iOp (put 28) (.v true (oLoad1 (sel 27)))),
     iGuard (sel 26) true (put 29) (iOp (put 29) (.v false (oFieldAddr 3 (sel 3)))),
     iGuard (sel 26) true (put 30) (iOp (put 30) (.v true (oLoad1 (sel 29)))),
     iGuard (sel 26) true (put 31) (iOp (put 31) (.v false (oEq (.one 1) (sel 28) (sel 30)))),
     iOp (put 32) (.v false (oPick (sel 26) (sel 31) ⟨fun _ => .bool false⟩)),
     iOp (put 33) (.v false (oEv (sel 32))),
     iGuard (sel 33) true (put 34) (iOp (put 34) (.v false (oFieldAddr 4 (sel 2)))),
     iGuard (sel 33) true (put 35) (iOp (put 35) (.v true (oLoad1 (sel 34)))),
     iGuard (sel 33) true (put 36) (iOp (put 36) (.v false (oFieldAddr 4 (sel 3)))),
     iGuard (sel 33) true (put 37) (iOp (put 37) (.v true (oLoad1 (sel 36)))),
     iGuard (sel 33) true (put 38) (iOp (put 38) (.v false (oEq (.one 1) (sel 35) (sel 37)))),
     iOp (put 39) (.v false (oPick (sel 33) (sel 38) ⟨fun _ => .bool false⟩)),
     iOp (put 40) (.v false (oEv (sel 39))),
     iGuard (sel 40) true (put 41) (iOp (put 41) (.v false (oFieldAddr 5 (sel 2)))),
     iGuard (sel 40) true (put 42) (iOp (put 42) (.v true (oLoad1 (sel 41)))),
     iGuard (sel 40) true (put 43) (iOp (put 43) (.v false (oFieldAddr 5 (sel 3)))),
     iGuard (sel 40) true (put 44) (iOp (put 44) (.v true (oLoad1 (sel 43)))),
     iGuard (sel 40) true (put 45) (iOp (put 45) (.v false (oEq (.one 1) (sel 42) (sel 44)))),
     iOp (put 46) (.v false (oPick (sel 40) (sel 45) ⟨fun _ => .bool false⟩)),
     iOp (put 47) (.v false (oEv (sel 46))),
     iGuard (sel 47) true (put 48) (iOp (put 48) (.v false (oFieldAddr 6 (sel 2)))),
     iGuard (sel 47) true (put 49) (iOp (put 49) (.v true (oLoad1 (sel 48)))),
     iGuard (sel 47) true (put 50) (iOp (put 50) (.v false (oFieldAddr 6 (sel 3)))),
     iGuard (sel 47) true (put 51) (iOp (put 51) (.v true (oLoad1 (sel 50)))),
     iGuard (sel 47) true (put 52) (iOp (put 52) (.v false (oEq (.one 1) (sel 49) (sel 51)))),
     iOp (put 53) (.v false (oPick (sel 47) (sel 52) ⟨fun _ => .bool false⟩)),
     iOp (put 5) (.v false (oEv (sel 53)))])
   (sSeq (sRegion [iOp (put 54) (.v false (oFieldAddr 7 (sel 2))),
      iOp (put 55) (.v true (oLoad1 (sel 54))),
      iOp (put 56) (.v false (oFieldAddr 7 (sel 3))),
      iOp (put 57) (.v true (oLoad1 (sel 56))),
      iOp (put 58) (.e (eCallF 81 [(sel 55), (sel 57)])),
      iOp (put 59) (.v false (oEv (sel 58))),
      iGuard (sel 59) true (put 60) (iOp (put 60) (.v false (oFieldAddr 8 (sel 2)))),
      iGuard (sel 59) true (put 61) (iOp (put 61) (.v true (oLoad1 (sel 60)))),
      iGuard (sel 59) true (put 62) (iOp (put 62) (.v false (oFieldAddr 8 (sel 3)))),
      iGuard (sel 59) true (put 63) (iOp (put 63) (.v true (oLoad1 (sel 62)))),
      iGuard (sel 59) true (put 64) (iOp (put 64) (.e (eCallF 82 [(sel 61), (sel 63)]))),
      iOp (put 65) (.v false (oPick (sel 59) (sel 64) ⟨fun _ => .bool false⟩)),
      iOp (put 66) (.v false (oEv (sel 65))),
      iGuard (sel 66) true (put 67) (iOp (put 67) (.v false (oFieldAddr 9 (sel 2)))),
      iGuard (sel 66) true (put 68) (iOp (put 68) (.v true (oLoad1 (sel 67)))),
      iGuard (sel 66) true (put 69) (iOp (put 69) (.v false (oFieldAddr 9 (sel 3)))),
      iGuard (sel 66) true (put 70) (iOp (put 70) (.v true (oLoad1 (sel 69)))),
      iGuard (sel 66) true (put 71) (iOp (put 71) (.e (eCallF 83 [(sel 68), (sel 70)]))),
      iOp (put 72) (.v false (oPick (sel 66) (sel 71) ⟨fun _ => .bool false⟩)),
      iOp (put 6) (.v false (oEv (sel 72)))])
    (sSeq (sRegion [iOp (put 73) (.v false (oEv (sel 5))),
       iOp (put 74) (.v false (oEv (sel 73))),
       iGuard (sel 74) true (put 75) (iOp (put 75) (.v false (oEv (sel 6)))),
       iOp (put 76) (.v false (oPick (sel 74) (sel 75) ⟨fun _ => .bool false⟩)),
       iOp (put 77) (.v false (oEv (sel 76))),
       iGuard (sel 77) true (put 78) (iOp (put 78) (.v false (oFieldAddr 11 (sel 2)))),
       iGuard (sel 77) true (put 79) (iOp (put 79) (.v true (oLoad1 (sel 78)))),
       iGuard (sel 77) true (put 80) (iOp (put 80) (.v false (oFieldAddr 11 (sel 3)))),
       iGuard (sel 77) true (put 81) (iOp (put 81) (.v true (oLoad1 (sel 80)))),
       iGuard (sel 77) true (put 82) (iOp (put 82) (.e (eCallF 84 [(sel 79), (sel 81)]))),
       iOp (put 83) (.v false (oPick (sel 77) (sel 82) ⟨fun _ => .bool false⟩)),
       iOp (put 84) (.v false (oEv (sel 83))),
       iGuard (sel 84) true (put 85) (iOp (put 85) (.v false (oFieldAddr 10 (sel 2)))),
       iGuard (sel 84) true (put 86) (iOp (put 86) (.v true (oLoad1 (sel 85)))),
       iGuard (sel 84) true (put 87) (iOp (put 87) (.v false (oFieldAddr 10 (sel 3)))),
       iGuard (sel 84) true (put 88) (iOp (put 88) (.v true (oLoad1 (sel 87)))),
       iGuard (sel 84) true (put 89) (iOp (put 89) (.e (eCallF 85 [(sel 86), (sel 88), ⟨fun _ => .func (.func 86) #[] #[]⟩]))),
       iOp (put 90) (.v false (oPick (sel 84) (sel 89) ⟨fun _ => .bool false⟩)),
       iOp (put 4) (.v false (oEv (sel 90)))])
     (sEx .ret))))⟩
theorem d70 : denF Try.prog 70 = some c70 := denF_of (by kernel_rfl)
/-- bollard/chunk.only -/
noncomputable def c71 : CF := ⟨90, [.agg (sel 2) 12],
  sSeq (sRegion [iOp (put 1) (.a (aBox 33 (sel 0))),
    iOp (put 2) (.a (aAlloc 33 [.int .u8 0, .int .u8 0, .int .u32 0, .int .u32 0, .int .u16 0, .int .u16 0, .int .u32 0, .slice none 0 0, .slice none 0 0, .slice none 0 0, .slice none 0 0, .slice none 0 0]))])
  (sSeq (sRegion [iOp (put 4) (.v false (oFieldAddr 0 (sel 1))),
     iOp (put 5) (.v true (oLoad1 (sel 4))),
     iOp (put 6) (.v false (oFieldAddr 1 (sel 1))),
     iOp (put 7) (.v true (oLoad1 (sel 6))),
     iOp (put 8) (.v false (oBuild [.int .u8 0, .int .u8 0, .int .u32 0, .int .u32 0, .int .u16 0, .int .u16 0, .int .u32 0, .slice none 0 0, .slice none 0 0, .slice none 0 0, .slice none 0 0, .slice none 0 0] [(0, 1, (sel 5)), (1, 1, (sel 7))])),
     iOp (put 3) (.a (aAlloc 33 [.int .u8 0, .int .u8 0, .int .u32 0, .int .u32 0, .int .u16 0, .int .u16 0, .int .u32 0, .slice none 0 0, .slice none 0 0, .slice none 0 0, .slice none 0 0, .slice none 0 0])),
     iOp ⟨fun _ a => a⟩ (.e (eStore 12 (sel 3) (sel 8)))])
   (sSeq (sSeq (sRegion [iOp (put 9) (.v false (oFieldAddr 0 (sel 1))),
       iOp (put 10) (.v true (oLoad1 (sel 9)))])
     (sBlock 0 (sSeq (sBlock 8 (sSeq (sBlock 7 (sSeq (sBlock 6 (sSeq (sBlock 5 (sSeq (sBlock 4 (sSeq (sBlock 3 (sSeq (sBlock 2 (sSeq (sBlock 1 (sSeq (sSeq (sSeq (sRegion [iOp (put 12) (.v false (oEq (.one 1) (sel 10) ⟨fun _ => .int .u8 0⟩)),
                           iOp (put 11) (.v false (oEv (sel 12)))])
                         (sCond (sel 11)
                           (sEx (.exit 1))
                           (sEx .normal)))
                        (sSeq (sSeq (sSeq (sRegion [iOp (put 14) (.v false (oEq (.one 1) (sel 10) ⟨fun _ => .int .u8 1⟩)),
                             iOp (put 13) (.v false (oEv (sel 14)))])
                           (sCond (sel 13)
                             (sEx .normal)
                             (sRegion [iOp (put 15) (.v false (oEq (.one 1) (sel 10) ⟨fun _ => .int .u8 2⟩)),
                               iOp (put 13) (.v false (oEv (sel 15)))])))
                          (sCond (sel 13)
                            (sEx (.exit 2))
                            (sEx .normal)))
                         (sSeq (sSeq (sSeq (sRegion [iOp (put 17) (.v false (oEq (.one 1) (sel 10) ⟨fun _ => .int .u8 4⟩)),
                              iOp (put 16) (.v false (oEv (sel 17)))])
                            (sCond (sel 16)
                              (sEx .normal)
                              (sSeq (sRegion [iOp (put 18) (.v false (oEq (.one 1) (sel 10) ⟨fun _ => .int .u8 5⟩)),
                                 iOp (put 16) (.v false (oEv (sel 18)))])
                               (sCond (sel 16)
                                 (sEx .normal)
                                 (sSeq (sRegion [iOp (put 19) (.v false (oEq (.one 1) (sel 10) ⟨fun _ => .int .u8 6⟩)),
                                    iOp (put 16) (.v false (oEv (sel 19)))])
                                  (sCond (sel 16)
                                    (sEx .normal)
                                    (sSeq (sRegion [iOp (put 20) (.v false (oEq (.one 1) (sel 10) ⟨fun _ => .int .u8 9⟩)),
                                       iOp (put 16) (.v false (oEv (sel 20)))])
                                     (sCond (sel 16)
                                       (sEx .normal)
                                       (sRegion [iOp (put 21) (.v false (oEq (.one 1) (sel 10) ⟨fun _ => .int .u8 130⟩)),
                                         iOp (put 16) (.v false (oEv (sel 21)))])))))))))
                           (sCond (sel 16)
                             (sEx (.exit 3))
                             (sEx .normal)))
                          (sSeq (sSeq (sRegion [iOp (put 23) (.v false (oEq (.one 1) (sel 10) ⟨fun _ => .int .u8 3⟩)),
                              iOp (put 22) (.v false (oEv (sel 23)))])
                            (sCond (sel 22)
                              (sEx (.exit 4))
                              (sEx .normal)))
                           (sSeq (sSeq (sRegion [iOp (put 25) (.v false (oEq (.one 1) (sel 10) ⟨fun _ => .int .u8 7⟩)),
                               iOp (put 24) (.v false (oEv (sel 25)))])
                             (sCond (sel 24)
                               (sEx (.exit 5))
                               (sEx .normal)))
                            (sSeq (sSeq (sSeq (sRegion [iOp (put 27) (.v false (oEq (.one 1) (sel 10) ⟨fun _ => .int .u8 8⟩)),
                                 iOp (put 26) (.v false (oEv (sel 27)))])
                               (sCond (sel 26)
                                 (sEx .normal)
                                 (sSeq (sRegion [iOp (put 28) (.v false (oEq (.one 1) (sel 10) ⟨fun _ => .int .u8 11⟩)),
                                    iOp (put 26) (.v false (oEv (sel 28)))])
                                  (sCond (sel 26)
                                    (sEx .normal)
                                    (sRegion [iOp (put 29) (.v false (oEq (.one 1) (sel 10) ⟨fun _ => .int .u8 14⟩)),
                                      iOp (put 26) (.v false (oEv (sel 29)))])))))
                              (sCond (sel 26)
                                (sEx (.exit 6))
                                (sEx .normal)))
                             (sSeq (sRegion [iOp (put 31) (.v false (oEq (.one 1) (sel 10) ⟨fun _ => .int .u8 192⟩)),
                                iOp (put 30) (.v false (oEv (sel 31)))])
                              (sCond (sel 30)
                                (sEx (.exit 7))
                                (sEx .normal)))))))))
                       (sEx (.exit 8))))
                     (sSeq (sDr [iOp (put 32) (.v false (oFieldAddr 2 (sel 1))),
                        iOp (put 33) (.v true (oLoad1 (sel 32))),
                        iOp (put 34) (.v false (oFieldAddr 4 (sel 1))),
                        iOp (put 35) (.v true (oLoad1 (sel 34))),
                        iOp (put 36) (.v false (oFieldAddr 5 (sel 1))),
                        iOp (put 37) (.v true (oLoad1 (sel 36))),
                        iOp (put 38) (.v false (oFieldAddr 6 (sel 1))),
                        iOp (put 39) (.v true (oLoad1 (sel 38))),
                        iOp (put 40) (.v false (oFieldAddr 11 (sel 1))),
                        iOp (put 41) (.v true (oLoad1 (sel 40))),
                        iOp (put 42) (.v false (oFieldAddr 2 (sel 3))),
                        iOp ⟨fun _ a => a⟩ (.e (eStore 1 (sel 42) (sel 33))),
                        iOp (put 43) (.v false (oFieldAddr 4 (sel 3))),
                        iOp ⟨fun _ a => a⟩ (.e (eStore 1 (sel 43) (sel 35))),
                        iOp (put 44) (.v false (oFieldAddr 5 (sel 3))),
                        iOp ⟨fun _ a => a⟩ (.e (eStore 1 (sel 44) (sel 37))),
                        iOp (put 45) (.v false (oFieldAddr 6 (sel 3))),
                        iOp ⟨fun _ a => a⟩ (.e (eStore 1 (sel 45) (sel 39))),
                        iOp (put 46) (.v false (oFieldAddr 11 (sel 3))),
                        iOp ⟨fun _ a => a⟩ (.e (eStore 1 (sel 46) (sel 41)))]
                        [(3, none, (oLoad1 (sel 34)), [0, 12]), (5, none, (oLoad1 (sel 36)), [0, 12, 14]), (7, none, (oLoad1 (sel 38)), [0, 12, 14, 16]), (9, none, (oLoad1 (sel 40)), [0, 12, 14, 16, 18])])
                      (sEx (.exit 0)))))
                   (sDr [iOp (put 47) (.v false (oFieldAddr 2 (sel 1))),
                     iOp (put 48) (.v true (oLoad1 (sel 47))),
                     iOp (put 49) (.v false (oFieldAddr 3 (sel 1))),
                     iOp (put 50) (.v true (oLoad1 (sel 49))),
                     iOp (put 51) (.v false (oFieldAddr 4 (sel 1))),
                     iOp (put 52) (.v true (oLoad1 (sel 51))),
                     iOp (put 53) (.v false (oFieldAddr 5 (sel 1))),
                     iOp (put 54) (.v true (oLoad1 (sel 53))),
                     iOp (put 55) (.v false (oFieldAddr 6 (sel 1))),
                     iOp (put 56) (.v true (oLoad1 (sel 55))),
                     iOp (put 57) (.v false (oFieldAddr 2 (sel 3))),
                     iOp ⟨fun _ a => a⟩ (.e (eStore 1 (sel 57) (sel 48))),
                     iOp (put 58) (.v false (oFieldAddr 3 (sel 3))),
                     iOp ⟨fun _ a => a⟩ (.e (eStore 1 (sel 58) (sel 50))),
                     iOp (put 59) (.v false (oFieldAddr 4 (sel 3))),
                     iOp ⟨fun _ a => a⟩ (.e (eStore 1 (sel 59) (sel 52))),
                     iOp (put 60) (.v false (oFieldAddr 5 (sel 3))),
                     iOp ⟨fun _ a => a⟩ (.e (eStore 1 (sel 60) (sel 54))),
                     iOp (put 61) (.v false (oFieldAddr 6 (sel 3))),
                     iOp ⟨fun _ a => a⟩ (.e (eStore 1 (sel 61) (sel 56)))]
                     [(3, none, (oLoad1 (sel 49)), [0, 12]), (5, none, (oLoad1 (sel 51)), [0, 12, 14]), (7, none, (oLoad1 (sel 53)), [0, 12, 14, 16]), (9, none, (oLoad1 (sel 55)), [0, 12, 14, 16, 18])])))
                 (sSeq (sRegion [iOp (put 62) (.v false (oFieldAddr 10 (sel 1))),
                    iOp (put 63) (.v true (oLoad1 (sel 62))),
                    iOp (put 64) (.v false (oFieldAddr 10 (sel 3))),
                    iOp ⟨fun _ a => a⟩ (.e (eStore 1 (sel 64) (sel 63)))])
                  (sEx (.exit 0)))))
               (sSeq (sDr [iOp (put 65) (.v false (oFieldAddr 2 (sel 1))),
                  iOp (put 66) (.v true (oLoad1 (sel 65))),
                  iOp (put 67) (.v false (oFieldAddr 3 (sel 1))),
                  iOp (put 68) (.v true (oLoad1 (sel 67))),
                  iOp (put 69) (.v false (oFieldAddr 7 (sel 1))),
                  iOp (put 70) (.v true (oLoad1 (sel 69))),
                  iOp (put 71) (.v false (oFieldAddr 8 (sel 1))),
                  iOp (put 72) (.v true (oLoad1 (sel 71))),
                  iOp (put 73) (.v false (oFieldAddr 2 (sel 3))),
                  iOp ⟨fun _ a => a⟩ (.e (eStore 1 (sel 73) (sel 66))),
                  iOp (put 74) (.v false (oFieldAddr 3 (sel 3))),
                  iOp ⟨fun _ a => a⟩ (.e (eStore 1 (sel 74) (sel 68))),
                  iOp (put 75) (.v false (oFieldAddr 7 (sel 3))),
                  iOp ⟨fun _ a => a⟩ (.e (eStore 1 (sel 75) (sel 70))),
                  iOp (put 76) (.v false (oFieldAddr 8 (sel 3))),
                  iOp ⟨fun _ a => a⟩ (.e (eStore 1 (sel 76) (sel 72)))]
                  [(3, none, (oLoad1 (sel 67)), [0, 10]), (5, none, (oLoad1 (sel 69)), [0, 10, 12]), (7, none, (oLoad1 (sel 71)), [0, 10, 12, 14])])
                (sEx (.exit 0)))))
             (sSeq (sRegion [iOp (put 77) (.v false (oFieldAddr 2 (sel 1))),
                iOp (put 78) (.v true (oLoad1 (sel 77))),
                iOp (put 79) (.v false (oFieldAddr 2 (sel 3))),
                iOp ⟨fun _ a => a⟩ (.e (eStore 1 (sel 79) (sel 78)))])
              (sEx (.exit 0)))))
           (sEx (.exit 0))))
         (sSeq (sDr [iOp (put 80) (.v false (oFieldAddr 2 (sel 1))),
            iOp (put 81) (.v true (oLoad1 (sel 80))),
            iOp (put 82) (.v false (oFieldAddr 9 (sel 1))),
            iOp (put 83) (.v true (oLoad1 (sel 82))),
            iOp (put 84) (.v false (oFieldAddr 2 (sel 3))),
            iOp ⟨fun _ a => a⟩ (.e (eStore 1 (sel 84) (sel 81))),
            iOp (put 85) (.v false (oFieldAddr 9 (sel 3))),
            iOp ⟨fun _ a => a⟩ (.e (eStore 1 (sel 85) (sel 83)))]
            [(3, none, (oLoad1 (sel 82)), [0, 6])])
          (sEx (.exit 0)))))
       (sSeq (sRegion [iOp (put 86) (.v false (oFieldAddr 11 (sel 1))),
          iOp (put 87) (.v true (oLoad1 (sel 86))),
          iOp (put 88) (.v false (oFieldAddr 11 (sel 3))),
          iOp ⟨fun _ a => a⟩ (.e (eStore 1 (sel 88) (sel 87)))])
        (sEx (.exit 0))))))
    (sSeq (sRegion [iOp (put 89) (.v true (oLoadN 12 (sel 3))),
       iOp ⟨fun _ a => a⟩ (.e (eStore 12 (sel 2) (sel 89)))])
     (sEx .ret))))⟩
theorem d71 : denF Try.prog 71 = some c71 := denF_of (by kernel_rfl)
noncomputable def c72_0 : Vm.Sem := sSeq (sRegion [iOp (put 29) (.v false (oInt2 fLss (sel 28) (sel 27)))])
 (sSeq (sCond (sel 29)
    (sEx .normal)
    (sEx (.exit 0)))
  (sSeq (sBlock 1 (sSeq (sRegion [iOp (put 30) (.v false (oIndexAddrS 2 (sel 26) (sel 28))),
       iOp (put 31) (.v true (oLoadN 2 (sel 30))),
       iOp (put 5) (.a (aAlloc 88 [.int .u16 0, .int .u16 0])),
       iOp ⟨fun _ a => a⟩ (.e (eStore 2 (sel 5) (sel 31)))])
     (sDr [iOp (put 32) (.v false (oEv (sel 3))),
       iOp (put 33) (.v false (oFieldAddr 0 (sel 5))),
       iOp (put 34) (.v true (oLoad1 (sel 33))),
       iOp (put 35) (.e (eCallF 30 [(sel 32), (sel 34)])),
       iOp (put 36) (.v false (oFieldAddr 1 (sel 5))),
       iOp (put 37) (.v true (oLoad1 (sel 36))),
       iOp (put 38) (.e (eCallF 30 [(sel 35), (sel 37)])),
       iOp (put 3) (.v false (oEv (sel 38)))]
       [(5, none, (oLoad1 (sel 36)), [0, 4])])))
   (sRegion [iOp (put 39) (.v false (oInt2 fAdd (sel 28) ⟨fun _ => .int .i64 1⟩)),
     iOp (put 28) (.v false (oEv (sel 39)))])))
noncomputable def c72_1 : Vm.Sem := sSeq (sRegion [iOp (put 44) (.v false (oInt2 fLss (sel 43) (sel 42)))])
 (sSeq (sCond (sel 44)
    (sEx .normal)
    (sEx (.exit 2)))
  (sSeq (sBlock 3 (sSeq (sRegion [iOp (put 45) (.v false (oIndexAddrS 1 (sel 41) (sel 43))),
       iOp (put 46) (.v true (oLoad1 (sel 45))),
       iOp (put 7) (.v false (oEv (sel 46)))])
     (sRegion [iOp (put 47) (.v false (oEv (sel 3))),
       iOp (put 48) (.v false (oEv (sel 7))),
       iOp (put 49) (.e (eCallF 29 [(sel 47), (sel 48)])),
       iOp (put 3) (.v false (oEv (sel 49)))])))
   (sRegion [iOp (put 50) (.v false (oInt2 fAdd (sel 43) ⟨fun _ => .int .i64 1⟩)),
     iOp (put 43) (.v false (oEv (sel 50)))])))
/-- bollard/chunk.sack -/
noncomputable def c72 : CF := ⟨52, [.tmp (sel 2)],
  sSeq (sRegion [iOp (put 1) (.a (aBox 33 (sel 0))),
    iOp (put 2) (.v false (oEv ⟨fun _ => .slice none 0 0⟩))])
  (sSeq (sDr [iOp (put 8) (.v false (oFieldAddr 2 (sel 1))),
     iOp (put 9) (.v true (oLoad1 (sel 8))),
     iOp (put 10) (.e (eCallF 29 [⟨fun _ => .slice none 0 0⟩, (sel 9)])),
     iOp (put 11) (.v false (oFieldAddr 3 (sel 1))),
     iOp (put 12) (.v true (oLoad1 (sel 11))),
     iOp (put 13) (.e (eCallF 29 [(sel 10), (sel 12)])),
     iOp (put 3) (.v false (oEv (sel 13)))]
     [(4, none, (oLoad1 (sel 11)), [0, 3])])
   (sSeq (sDr [iOp (put 14) (.v false (oEv (sel 3))),
      iOp (put 15) (.v false (oFieldAddr 7 (sel 1))),
      iOp (put 16) (.v true (oLoad1 (sel 15))),
      iOp (put 17) (.v false (oLenS (sel 16))),
      iOp (put 18) (.v false (oConvInt .u16 (sel 17))),
      iOp (put 19) (.e (eCallF 30 [(sel 14), (sel 18)])),
      iOp (put 20) (.v false (oFieldAddr 8 (sel 1))),
      iOp (put 21) (.v true (oLoad1 (sel 20))),
      iOp (put 22) (.v false (oLenS (sel 21))),
      iOp (put 23) (.v false (oConvInt .u16 (sel 22))),
      iOp (put 24) (.e (eCallF 30 [(sel 19), (sel 23)])),
      iOp (put 3) (.v false (oEv (sel 24)))]
      [(7, none, (oLoad1 (sel 20)), [0, 6])])
    (sSeq (sSeq (sRegion [iOp (put 25) (.v false (oFieldAddr 7 (sel 1))),
        iOp (put 26) (.v true (oLoad1 (sel 25))),
        iOp (put 27) (.v false (oLenS (sel 26))),
        iOp (put 28) (.v false (oEv ⟨fun _ => .int .i64 0⟩))])
      (sBlock 0 (sLoop c72_0)))
     (sSeq (sSeq (sRegion [iOp (put 40) (.v false (oFieldAddr 8 (sel 1))),
         iOp (put 41) (.v true (oLoad1 (sel 40))),
         iOp (put 42) (.v false (oLenS (sel 41))),
         iOp (put 43) (.v false (oEv ⟨fun _ => .int .i64 0⟩))])
       (sBlock 2 (sLoop c72_1)))
      (sSeq (sRegion [iOp (put 51) (.v false (oEv (sel 3))),
         iOp (put 2) (.v false (oEv (sel 51)))])
       (sEx .ret))))))⟩
theorem d72 : denF Try.prog 72 = some c72 := denF_of (by kernel_rfl)
/-- bollard/octet.gap -/
noncomputable def c73 : CF := ⟨6, [.tmp (sel 2)],
  sSeq (sRegion [iOp (put 2) (.v false (oEv ⟨fun _ => .int .i64 0⟩))])
  (sSeq (sRegion [iOp (put 3) (.v false (oEv (sel 0))),
     iOp (put 4) (.v false (oNeg (sel 3))),
     iOp (put 5) (.v false (oInt2 fAnd (sel 4) ⟨fun _ => .int .i64 3⟩)),
     iOp (put 2) (.v false (oEv (sel 5)))])
   (sEx .ret))⟩
theorem d73 : denF Try.prog 73 = some c73 := denF_of (by kernel_rfl)
/-- (*bollard/octet.Reader).Bytes -/
noncomputable def c75 : CF := ⟨17, [.tmp (sel 4), .tmp (sel 5)],
  sSeq (sRegion [iOp (put 4) (.v false (oEv ⟨fun _ => .slice none 0 0⟩)),
    iOp (put 5) (.v false (oEv ⟨fun _ => .int .i64 0⟩))])
  (sSeq (sRegion [iOp (put 9) (.v false (oEv (sel 0))),
     iOp (put 10) (.v false (oEv (sel 1))),
     iOp (put 11) (.e (eCallF 68 [(sel 9), (sel 10)])),
     iOp (put 8) (.v false (oEv (sel 11))),
     iOp (put 12) (.v false (oExtract (sel 8) 0)),
     iOp (put 13) (.v false (oExtract (sel 8) 1)),
     iOp (put 6) (.v false (oEv (sel 12))),
     iOp (put 7) (.v false (oEv (sel 13)))])
   (sSeq (sRegion [iOp (put 14) (.v false (oEv (sel 6))),
      iOp (put 15) (.e (eCallF 66 [(sel 14)])),
      iOp (put 16) (.v false (oEv (sel 7))),
      iOp (put 4) (.v false (oEv (sel 15))),
      iOp (put 5) (.v false (oEv (sel 16)))])
    (sEx .ret)))⟩
theorem d75 : denF Try.prog 75 = some c75 := denF_of (by kernel_rfl)
/-- (*bollard/octet.Reader).Pad -/
noncomputable def c77 : CF := ⟨37, [.tmp (sel 4)],
  sSeq (sRegion [iOp (put 4) (.v false (oEv ⟨fun _ => .int .i64 0⟩))])
  (sSeq (sSeq (sRegion [iOp (put 6) (.v false (oEv (sel 0))),
      iOp (put 7) (.v false (oEq (.one 3) (sel 6) ⟨fun _ => .pointer none⟩)),
      iOp (put 8) (.v false (oEv (sel 7))),
      iGuard (sel 8) false (put 9) (iOp (put 9) (.v false (oEv (sel 1)))),
      iGuard (sel 8) false (put 10) (iOp (put 10) (.v false (oInt2 fLss (sel 9) ⟨fun _ => .int .i64 0⟩))),
      iOp (put 11) (.v false (oPick (sel 8) ⟨fun _ => .bool true⟩ (sel 10)))])
    (sCond (sel 11)
      (sSeq (sRegion [iOp (put 4) (.v false (oEv ⟨fun _ => .int .i64 1⟩))])
       (sEx .ret))
      (sEx .normal)))
   (sSeq (sRegion [iOp (put 12) (.v false (oEv (sel 1))),
      iOp (put 13) (.e (eCallF 73 [(sel 12)])),
      iOp (put 5) (.v false (oEv (sel 13)))])
    (sSeq (sSeq (sRegion [iOp (put 14) (.v false (oEv (sel 5))),
        iOp (put 15) (.v false (oEv (sel 0))),
        iOp (put 16) (.v false (oNilCheck (sel 15))),
        iOp (put 17) (.v false (oFieldAddr 0 (sel 16))),
        iOp (put 18) (.v true (oLoad1 (sel 17))),
        iOp (put 19) (.v false (oLenS (sel 18))),
        iOp (put 20) (.v false (oInt2 fGtr (sel 14) (sel 19)))])
      (sCond (sel 20)
        (sSeq (sRegion [iOp (put 4) (.v false (oEv ⟨fun _ => .int .i64 2⟩))])
         (sEx .ret))
        (sEx .normal)))
     (sSeq (sSeq (sRegion [iOp (put 21) (.v false (oEv (sel 0))),
         iOp (put 22) (.v false (oNilCheck (sel 21))),
         iOp (put 23) (.v false (oFieldAddr 0 (sel 22))),
         iOp (put 24) (.v true (oLoad1 (sel 23))),
         iOp (put 25) (.v false (oEv (sel 5))),
         iOp (put 26) (.v false (oSlice 1 (sel 24) none (some (sel 25)) none)),
         iOp (put 27) (.e (eCallF 94 [(sel 26), ⟨fun _ => .func (.func 95) #[] #[]⟩]))])
       (sCond (sel 27)
         (sSeq (sRegion [iOp (put 4) (.v false (oEv ⟨fun _ => .int .i64 3⟩))])
          (sEx .ret))
         (sEx .normal)))
      (sSeq (sRegion [iOp (put 28) (.v false (oEv (sel 0))),
         iOp (put 29) (.v false (oEv (sel 0))),
         iOp (put 30) (.v false (oNilCheck (sel 29))),
         iOp (put 31) (.v false (oFieldAddr 0 (sel 30))),
         iOp (put 32) (.v true (oLoad1 (sel 31))),
         iOp (put 33) (.v false (oEv (sel 5))),
         iOp (put 34) (.v false (oSlice 1 (sel 32) (some (sel 33)) none none)),
         iOp (put 35) (.v false (oNilCheck (sel 28))),
         iOp (put 36) (.v false (oFieldAddr 0 (sel 35))),
         iOp ⟨fun _ a => a⟩ (.e (eStore 1 (sel 36) (sel 34)))])
       (sSeq (sRegion [iOp (put 4) (.v false (oEv ⟨fun _ => .int .i64 0⟩))])
        (sEx .ret)))))))⟩
theorem d77 : denF Try.prog 77 = some c77 := denF_of (by kernel_rfl)
/-- (*bollard/octet.Reader).Left -/
noncomputable def c78 : CF := ⟨10, [.tmp (sel 2)],
  sSeq (sRegion [iOp (put 2) (.v false (oEv ⟨fun _ => .int .i64 0⟩))])
  (sSeq (sSeq (sRegion [iOp (put 3) (.v false (oEv (sel 0))),
      iOp (put 4) (.v false (oEq (.one 3) (sel 3) ⟨fun _ => .pointer none⟩))])
    (sCond (sel 4)
      (sSeq (sRegion [iOp (put 2) (.v false (oEv ⟨fun _ => .int .i64 0⟩))])
       (sEx .ret))
      (sEx .normal)))
   (sSeq (sRegion [iOp (put 5) (.v false (oEv (sel 0))),
      iOp (put 6) (.v false (oNilCheck (sel 5))),
      iOp (put 7) (.v false (oFieldAddr 0 (sel 6))),
      iOp (put 8) (.v true (oLoad1 (sel 7))),
      iOp (put 9) (.v false (oLenS (sel 8))),
      iOp (put 2) (.v false (oEv (sel 9)))])
    (sEx .ret)))⟩
theorem d78 : denF Try.prog 78 = some c78 := denF_of (by kernel_rfl)
/-- slices.ContainsFunc[[]bollard/api.Param,bollard/api.Param] -/
noncomputable def c79 : CF := ⟨9, [.tmp (sel 4)],
  sSeq (sRegion [iOp (put 4) (.v false (oEv ⟨fun _ => .bool false⟩))])
  (sSeq (sRegion [iOp (put 5) (.v false (oEv (sel 0))),
     iOp (put 6) (.v false (oEv (sel 1))),
     iOp (put 7) (.e (eCallF 96 [(sel 5), (sel 6)])),
     iOp (put 8) (.v false (oInt2 fGeq (sel 7) ⟨fun _ => .int .i64 0⟩)),
     iOp (put 4) (.v false (oEv (sel 8)))])
   (sEx .ret))⟩
theorem d79 : denF Try.prog 79 = some c79 := denF_of (by kernel_rfl)
/-- bollard/tlv.Encode$1 -/
noncomputable def c80 : CF := ⟨7, [.tmp (sel 2)],
  sSeq (sRegion [iOp (put 1) (.a (aBox 58 (sel 0))),
    iOp (put 2) (.v false (oEv ⟨fun _ => .bool false⟩))])
  (sSeq (sRegion [iOp (put 3) (.v false (oFieldAddr 1 (sel 1))),
     iOp (put 4) (.v true (oLoad1 (sel 3))),
     iOp (put 5) (.v false (oLenS (sel 4))),
     iOp (put 6) (.v false (oInt2 fGtr (sel 5) ⟨fun _ => .int .i64 1200⟩)),
     iOp (put 2) (.v false (oEv (sel 6)))])
   (sEx .ret))⟩
theorem d80 : denF Try.prog 80 = some c80 := denF_of (by kernel_rfl)
noncomputable def c81_0 : Vm.Sem := sSeq (sRegion [iOp (put 14) (.v false (oInt2 fLss (sel 13) (sel 12)))])
 (sSeq (sCond (sel 14)
    (sEx .normal)
    (sEx (.exit 0)))
  (sSeq (sBlock 1 (sSeq (sRegion [iOp (put 15) (.v false (oEv (sel 13))),
       iOp (put 5) (.v false (oEv (sel 15)))])
     (sSeq (sRegion [iOp (put 16) (.v false (oEv (sel 0))),
        iOp (put 17) (.v false (oEv (sel 5))),
        iOp (put 18) (.v false (oIndexAddrS 2 (sel 16) (sel 17))),
        iOp (put 19) (.v true (oLoadN 2 (sel 18))),
        iOp (put 20) (.v false (oEv (sel 1))),
        iOp (put 21) (.v false (oEv (sel 5))),
        iOp (put 22) (.v false (oIndexAddrS 2 (sel 20) (sel 21))),
        iOp (put 23) (.v true (oLoadN 2 (sel 22))),
        iOp (put 24) (.v false (oNe (.agg [1, 1]) (sel 19) (sel 23)))])
      (sCond (sel 24)
        (sSeq (sRegion [iOp (put 4) (.v false (oEv ⟨fun _ => .bool false⟩))])
         (sEx .ret))
        (sEx .normal)))))
   (sRegion [iOp (put 25) (.v false (oInt2 fAdd (sel 13) ⟨fun _ => .int .i64 1⟩)),
     iOp (put 13) (.v false (oEv (sel 25)))])))
/-- slices.Equal[[]bollard/api.Block,bollard/api.Block] -/
noncomputable def c81 : CF := ⟨26, [.tmp (sel 4)],
  sSeq (sRegion [iOp (put 4) (.v false (oEv ⟨fun _ => .bool false⟩))])
  (sSeq (sSeq (sRegion [iOp (put 6) (.v false (oEv (sel 0))),
      iOp (put 7) (.v false (oLenS (sel 6))),
      iOp (put 8) (.v false (oEv (sel 1))),
      iOp (put 9) (.v false (oLenS (sel 8))),
      iOp (put 10) (.v false (oNe (.one 1) (sel 7) (sel 9)))])
    (sCond (sel 10)
      (sSeq (sRegion [iOp (put 4) (.v false (oEv ⟨fun _ => .bool false⟩))])
       (sEx .ret))
      (sEx .normal)))
   (sSeq (sSeq (sRegion [iOp (put 11) (.v false (oEv (sel 0))),
       iOp (put 12) (.v false (oLenS (sel 11))),
       iOp (put 13) (.v false (oEv ⟨fun _ => .int .i64 0⟩))])
     (sBlock 0 (sLoop c81_0)))
    (sSeq (sRegion [iOp (put 4) (.v false (oEv ⟨fun _ => .bool true⟩))])
     (sEx .ret))))⟩
theorem d81 : denF Try.prog 81 = some c81 := denF_of (by kernel_rfl)
noncomputable def c82_0 : Vm.Sem := sSeq (sRegion [iOp (put 14) (.v false (oInt2 fLss (sel 13) (sel 12)))])
 (sSeq (sCond (sel 14)
    (sEx .normal)
    (sEx (.exit 0)))
  (sSeq (sBlock 1 (sSeq (sRegion [iOp (put 15) (.v false (oEv (sel 13))),
       iOp (put 5) (.v false (oEv (sel 15)))])
     (sSeq (sRegion [iOp (put 16) (.v false (oEv (sel 0))),
        iOp (put 17) (.v false (oEv (sel 5))),
        iOp (put 18) (.v false (oIndexAddrS 1 (sel 16) (sel 17))),
        iOp (put 19) (.v true (oLoad1 (sel 18))),
        iOp (put 20) (.v false (oEv (sel 1))),
        iOp (put 21) (.v false (oEv (sel 5))),
        iOp (put 22) (.v false (oIndexAddrS 1 (sel 20) (sel 21))),
        iOp (put 23) (.v true (oLoad1 (sel 22))),
        iOp (put 24) (.v false (oNe (.one 1) (sel 19) (sel 23)))])
      (sCond (sel 24)
        (sSeq (sRegion [iOp (put 4) (.v false (oEv ⟨fun _ => .bool false⟩))])
         (sEx .ret))
        (sEx .normal)))))
   (sRegion [iOp (put 25) (.v false (oInt2 fAdd (sel 13) ⟨fun _ => .int .i64 1⟩)),
     iOp (put 13) (.v false (oEv (sel 25)))])))
/-- slices.Equal[[]uint32,uint32] -/
noncomputable def c82 : CF := ⟨26, [.tmp (sel 4)],
  sSeq (sRegion [iOp (put 4) (.v false (oEv ⟨fun _ => .bool false⟩))])
  (sSeq (sSeq (sRegion [iOp (put 6) (.v false (oEv (sel 0))),
      iOp (put 7) (.v false (oLenS (sel 6))),
      iOp (put 8) (.v false (oEv (sel 1))),
      iOp (put 9) (.v false (oLenS (sel 8))),
      iOp (put 10) (.v false (oNe (.one 1) (sel 7) (sel 9)))])
    (sCond (sel 10)
      (sSeq (sRegion [iOp (put 4) (.v false (oEv ⟨fun _ => .bool false⟩))])
       (sEx .ret))
      (sEx .normal)))
   (sSeq (sSeq (sRegion [iOp (put 11) (.v false (oEv (sel 0))),
       iOp (put 12) (.v false (oLenS (sel 11))),
       iOp (put 13) (.v false (oEv ⟨fun _ => .int .i64 0⟩))])
     (sBlock 0 (sLoop c82_0)))
    (sSeq (sRegion [iOp (put 4) (.v false (oEv ⟨fun _ => .bool true⟩))])
     (sEx .ret))))⟩
theorem d82 : denF Try.prog 82 = some c82 := denF_of (by kernel_rfl)
noncomputable def c83_0 : Vm.Sem := sSeq (sRegion [iOp (put 14) (.v false (oInt2 fLss (sel 13) (sel 12)))])
 (sSeq (sCond (sel 14)
    (sEx .normal)
    (sEx (.exit 0)))
  (sSeq (sBlock 1 (sSeq (sRegion [iOp (put 15) (.v false (oEv (sel 13))),
       iOp (put 5) (.v false (oEv (sel 15)))])
     (sSeq (sRegion [iOp (put 16) (.v false (oEv (sel 0))),
        iOp (put 17) (.v false (oEv (sel 5))),
        iOp (put 18) (.v false (oIndexAddrS 2 (sel 16) (sel 17))),
        iOp (put 19) (.v true (oLoadN 2 (sel 18))),
        iOp (put 20) (.v false (oEv (sel 1))),
        iOp (put 21) (.v false (oEv (sel 5))),
        iOp (put 22) (.v false (oIndexAddrS 2 (sel 20) (sel 21))),
        iOp (put 23) (.v true (oLoadN 2 (sel 22))),
        iOp (put 24) (.v false (oNe (.agg [1, 1]) (sel 19) (sel 23)))])
      (sCond (sel 24)
        (sSeq (sRegion [iOp (put 4) (.v false (oEv ⟨fun _ => .bool false⟩))])
         (sEx .ret))
        (sEx .normal)))))
   (sRegion [iOp (put 25) (.v false (oInt2 fAdd (sel 13) ⟨fun _ => .int .i64 1⟩)),
     iOp (put 13) (.v false (oEv (sel 25)))])))
/-- slices.Equal[[]bollard/api.Skip,bollard/api.Skip] -/
noncomputable def c83 : CF := ⟨26, [.tmp (sel 4)],
  sSeq (sRegion [iOp (put 4) (.v false (oEv ⟨fun _ => .bool false⟩))])
  (sSeq (sSeq (sRegion [iOp (put 6) (.v false (oEv (sel 0))),
      iOp (put 7) (.v false (oLenS (sel 6))),
      iOp (put 8) (.v false (oEv (sel 1))),
      iOp (put 9) (.v false (oLenS (sel 8))),
      iOp (put 10) (.v false (oNe (.one 1) (sel 7) (sel 9)))])
    (sCond (sel 10)
      (sSeq (sRegion [iOp (put 4) (.v false (oEv ⟨fun _ => .bool false⟩))])
       (sEx .ret))
      (sEx .normal)))
   (sSeq (sSeq (sRegion [iOp (put 11) (.v false (oEv (sel 0))),
       iOp (put 12) (.v false (oLenS (sel 11))),
       iOp (put 13) (.v false (oEv ⟨fun _ => .int .i64 0⟩))])
     (sBlock 0 (sLoop c83_0)))
    (sSeq (sRegion [iOp (put 4) (.v false (oEv ⟨fun _ => .bool true⟩))])
     (sEx .ret))))⟩
theorem d83 : denF Try.prog 83 = some c83 := denF_of (by kernel_rfl)
noncomputable def c84_0 : Vm.Sem := sSeq (sRegion [iOp (put 14) (.v false (oInt2 fLss (sel 13) (sel 12)))])
 (sSeq (sCond (sel 14)
    (sEx .normal)
    (sEx (.exit 0)))
  (sSeq (sBlock 1 (sSeq (sRegion [iOp (put 15) (.v false (oEv (sel 13))),
       iOp (put 5) (.v false (oEv (sel 15)))])
     (sSeq (sRegion [iOp (put 16) (.v false (oEv (sel 0))),
        iOp (put 17) (.v false (oEv (sel 5))),
        iOp (put 18) (.v false (oIndexAddrS 1 (sel 16) (sel 17))),
        iOp (put 19) (.v true (oLoad1 (sel 18))),
        iOp (put 20) (.v false (oEv (sel 1))),
        iOp (put 21) (.v false (oEv (sel 5))),
        iOp (put 22) (.v false (oIndexAddrS 1 (sel 20) (sel 21))),
        iOp (put 23) (.v true (oLoad1 (sel 22))),
        iOp (put 24) (.v false (oNe (.one 1) (sel 19) (sel 23)))])
      (sCond (sel 24)
        (sSeq (sRegion [iOp (put 4) (.v false (oEv ⟨fun _ => .bool false⟩))])
         (sEx .ret))
        (sEx .normal)))))
   (sRegion [iOp (put 25) (.v false (oInt2 fAdd (sel 13) ⟨fun _ => .int .i64 1⟩)),
     iOp (put 13) (.v false (oEv (sel 25)))])))
/-- slices.Equal[[]byte,byte] -/
noncomputable def c84 : CF := ⟨26, [.tmp (sel 4)],
  sSeq (sRegion [iOp (put 4) (.v false (oEv ⟨fun _ => .bool false⟩))])
  (sSeq (sSeq (sRegion [iOp (put 6) (.v false (oEv (sel 0))),
      iOp (put 7) (.v false (oLenS (sel 6))),
      iOp (put 8) (.v false (oEv (sel 1))),
      iOp (put 9) (.v false (oLenS (sel 8))),
      iOp (put 10) (.v false (oNe (.one 1) (sel 7) (sel 9)))])
    (sCond (sel 10)
      (sSeq (sRegion [iOp (put 4) (.v false (oEv ⟨fun _ => .bool false⟩))])
       (sEx .ret))
      (sEx .normal)))
   (sSeq (sSeq (sRegion [iOp (put 11) (.v false (oEv (sel 0))),
       iOp (put 12) (.v false (oLenS (sel 11))),
       iOp (put 13) (.v false (oEv ⟨fun _ => .int .i64 0⟩))])
     (sBlock 0 (sLoop c84_0)))
    (sSeq (sRegion [iOp (put 4) (.v false (oEv ⟨fun _ => .bool true⟩))])
     (sEx .ret))))⟩
theorem d84 : denF Try.prog 84 = some c84 := denF_of (by kernel_rfl)
noncomputable def c85_0 : Vm.Sem := sSeq (sRegion [iOp (put 18) (.v false (oInt2 fLss (sel 17) (sel 16)))])
 (sSeq (sCond (sel 18)
    (sEx .normal)
    (sEx (.exit 0)))
  (sSeq (sBlock 1 (sSeq (sRegion [iOp (put 19) (.v false (oEv (sel 17))),
       iOp (put 20) (.v false (oIndexAddrS 2 (sel 15) (sel 17))),
       iOp (put 21) (.v true (oLoadN 2 (sel 20))),
       iOp (put 8) (.a (aAlloc 58 [.int .u16 0, .slice none 0 0])),
       iOp (put 7) (.v false (oEv (sel 19))),
       iOp ⟨fun _ a => a⟩ (.e (eStore 2 (sel 8) (sel 21)))])
     (sSeq (sRegion [iOp (put 22) (.v false (oEv (sel 1))),
        iOp (put 23) (.v false (oEv (sel 7))),
        iOp (put 24) (.v false (oIndexAddrS 2 (sel 22) (sel 23))),
        iOp (put 25) (.v true (oLoadN 2 (sel 24))),
        iOp (put 9) (.a (aAlloc 58 [.int .u16 0, .slice none 0 0])),
        iOp ⟨fun _ a => a⟩ (.e (eStore 2 (sel 9) (sel 25)))])
      (sSeq (sRegion [iOp (put 26) (.v false (oEv (sel 2))),
         iOp (put 27) (.v true (oLoadN 2 (sel 8))),
         iOp (put 28) (.v true (oLoadN 2 (sel 9))),
         iOp (put 29) (.e (eCall (sel 26) [(sel 27), (sel 28)])),
         iOp (put 30) (.v false (oNot (sel 29)))])
       (sCond (sel 30)
         (sSeq (sRegion [iOp (put 6) (.v false (oEv ⟨fun _ => .bool false⟩))])
          (sEx .ret))
         (sEx .normal))))))
   (sRegion [iOp (put 31) (.v false (oInt2 fAdd (sel 17) ⟨fun _ => .int .i64 1⟩)),
     iOp (put 17) (.v false (oEv (sel 31)))])))
/-- slices.EqualFunc[[]bollard/api.Param,[]bollard/api.Param,bollard/api.Param,bollard/api.Param] -/
noncomputable def c85 : CF := ⟨32, [.tmp (sel 6)],
  sSeq (sRegion [iOp (put 6) (.v false (oEv ⟨fun _ => .bool false⟩))])
  (sSeq (sSeq (sRegion [iOp (put 10) (.v false (oEv (sel 0))),
      iOp (put 11) (.v false (oLenS (sel 10))),
      iOp (put 12) (.v false (oEv (sel 1))),
      iOp (put 13) (.v false (oLenS (sel 12))),
      iOp (put 14) (.v false (oNe (.one 1) (sel 11) (sel 13)))])
    (sCond (sel 14)
      (sSeq (sRegion [iOp (put 6) (.v false (oEv ⟨fun _ => .bool false⟩))])
       (sEx .ret))
      (sEx .normal)))
   (sSeq (sSeq (sRegion [iOp (put 15) (.v false (oEv (sel 0))),
       iOp (put 16) (.v false (oLenS (sel 15))),
       iOp (put 17) (.v false (oEv ⟨fun _ => .int .i64 0⟩))])
     (sBlock 0 (sLoop c85_0)))
    (sSeq (sRegion [iOp (put 6) (.v false (oEv ⟨fun _ => .bool true⟩))])
     (sEx .ret))))⟩
theorem d85 : denF Try.prog 85 = some c85 := denF_of (by kernel_rfl)
/-- bollard/chunk.sameParam -/
noncomputable def c86 : CF := ⟨17, [.tmp (sel 4)],
  sSeq (sRegion [iOp (put 2) (.a (aBox 58 (sel 0))),
    iOp (put 3) (.a (aBox 58 (sel 1))),
    iOp (put 4) (.v false (oEv ⟨fun _ => .bool false⟩))])
  (sSeq (sRegion [iOp (put 5) (.v false (oFieldAddr 0 (sel 2))),
     iOp (put 6) (.v true (oLoad1 (sel 5))),
     iOp (put 7) (.v false (oFieldAddr 0 (sel 3))),
     iOp (put 8) (.v true (oLoad1 (sel 7))),
     iOp (put 9) (.v false (oEq (.one 1) (sel 6) (sel 8))),
     iOp (put 10) (.v false (oEv (sel 9))),
     iGuard (sel 10) true (put 11) (iOp (put 11) (.v false (oFieldAddr 1 (sel 2)))),
     iGuard (sel 10) true (put 12) (iOp (put 12) (.v true (oLoad1 (sel 11)))),
     iGuard (sel 10) true (put 13) (iOp (put 13) (.v false (oFieldAddr 1 (sel 3)))),
     iGuard (sel 10) true (put 14) (iOp (put 14) (.v true (oLoad1 (sel 13)))),
     iGuard (sel 10) true (put 15) (iOp (put 15) (.e (eCallF 84 [(sel 12), (sel 14)]))),
     iOp (put 16) (.v false (oPick (sel 10) (sel 15) ⟨fun _ => .bool false⟩)),
     iOp (put 4) (.v false (oEv (sel 16)))])
   (sEx .ret))⟩
theorem d86 : denF Try.prog 86 = some c86 := denF_of (by kernel_rfl)
/-- slices.ContainsFunc[[]byte,byte] -/
noncomputable def c94 : CF := ⟨9, [.tmp (sel 4)],
  sSeq (sRegion [iOp (put 4) (.v false (oEv ⟨fun _ => .bool false⟩))])
  (sSeq (sRegion [iOp (put 5) (.v false (oEv (sel 0))),
     iOp (put 6) (.v false (oEv (sel 1))),
     iOp (put 7) (.e (eCallF 100 [(sel 5), (sel 6)])),
     iOp (put 8) (.v false (oInt2 fGeq (sel 7) ⟨fun _ => .int .i64 0⟩)),
     iOp (put 4) (.v false (oEv (sel 8)))])
   (sEx .ret))⟩
theorem d94 : denF Try.prog 94 = some c94 := denF_of (by kernel_rfl)
/-- (*bollard/octet.Reader).Pad$1 -/
noncomputable def c95 : CF := ⟨5, [.tmp (sel 2)],
  sSeq (sRegion [iOp (put 2) (.v false (oEv ⟨fun _ => .bool false⟩))])
  (sSeq (sRegion [iOp (put 3) (.v false (oEv (sel 0))),
     iOp (put 4) (.v false (oNe (.one 1) (sel 3) ⟨fun _ => .int .u8 0⟩)),
     iOp (put 2) (.v false (oEv (sel 4)))])
   (sEx .ret))⟩
theorem d95 : denF Try.prog 95 = some c95 := denF_of (by kernel_rfl)
noncomputable def c96_0 : Vm.Sem := sSeq (sRegion [iOp (put 9) (.v false (oInt2 fLss (sel 8) (sel 7)))])
 (sSeq (sCond (sel 9)
    (sEx .normal)
    (sEx (.exit 0)))
  (sSeq (sBlock 1 (sSeq (sRegion [iOp (put 10) (.v false (oEv (sel 8))),
       iOp (put 5) (.v false (oEv (sel 10)))])
     (sSeq (sRegion [iOp (put 11) (.v false (oEv (sel 1))),
        iOp (put 12) (.v false (oEv (sel 0))),
        iOp (put 13) (.v false (oEv (sel 5))),
        iOp (put 14) (.v false (oIndexAddrS 2 (sel 12) (sel 13))),
        iOp (put 15) (.v true (oLoadN 2 (sel 14))),
        iOp (put 16) (.e (eCall (sel 11) [(sel 15)]))])
      (sCond (sel 16)
        (sSeq (sRegion [iOp (put 17) (.v false (oEv (sel 5))),
           iOp (put 4) (.v false (oEv (sel 17)))])
         (sEx .ret))
        (sEx .normal)))))
   (sRegion [iOp (put 18) (.v false (oInt2 fAdd (sel 8) ⟨fun _ => .int .i64 1⟩)),
     iOp (put 8) (.v false (oEv (sel 18)))])))
/-- slices.IndexFunc[[]bollard/api.Param,bollard/api.Param] -/
noncomputable def c96 : CF := ⟨19, [.tmp (sel 4)],
  sSeq (sRegion [iOp (put 4) (.v false (oEv ⟨fun _ => .int .i64 0⟩))])
  (sSeq (sSeq (sRegion [iOp (put 6) (.v false (oEv (sel 0))),
      iOp (put 7) (.v false (oLenS (sel 6))),
      iOp (put 8) (.v false (oEv ⟨fun _ => .int .i64 0⟩))])
    (sBlock 0 (sLoop c96_0)))
   (sSeq (sRegion [iOp (put 4) (.v false (oEv ⟨fun _ => .int .i64 (-1)⟩))])
    (sEx .ret)))⟩
theorem d96 : denF Try.prog 96 = some c96 := denF_of (by kernel_rfl)
noncomputable def k99_0 : Code × Code := pickR (bodyOf Try.prog 99) 0
noncomputable def a99_0 : Vm.Sem := sSeq (sRegion [iOp (put 5) (.a (aAlloc 58 [.int .u16 0, .slice none 0 0])),
   iOp ⟨fun _ a => a⟩ (.e (eStore 2 (sel 5) (sel 10)))])
 (sRegion [iOp (put 6) (.v false (oEv (sel 11)))])
noncomputable def b99_0 : Vm.Sem := sBlock 1 (sSeq (sSeq (sRegion [iOp (put 12) (.v false (oEv (sel 6))),
     iOp (put 13) (.v false (oNe (.one 1) (sel 12) ⟨fun _ => .int .i64 0⟩))])
   (sCond (sel 13)
     (sSeq (sRegion [iOp (put 14) (.v false (oEv (sel 6))),
        iOp ⟨fun _ a => a⟩ (.e (eStore 1 (sel 2) ⟨fun _ => .slice none 0 0⟩)),
        iOp ⟨fun _ a => a⟩ (.e (eStore 1 (sel 3) (sel 14)))])
      (sEx .ret))
     (sEx .normal)))
  (sRegion [iOp (put 15) (.v true (oLoad1 (sel 4))),
    iOp (put 16) (.v true (oLoadN 2 (sel 5))),
    iOp (put 17) (.a (aBuildSlice 58 1 (rep 1 [.int .u16 0, .slice none 0 0]) [(0, 2, (sel 16))])),
    iOp (put 18) (.e (eAppend 58 2 32 (sel 15) (sel 17))),
    iOp ⟨fun _ a => a⟩ (.e (eStore 1 (sel 4) (sel 18)))]))
theorem ea99_0 : den0 Try.prog 20 true k99_0.1 = a99_0 := den0_of (by kernel_rfl)
theorem eb99_0 : den0 Try.prog 20 true k99_0.2 = b99_0 := den0_of (by kernel_rfl)
/-- bollard/tlv.Decode -/
noncomputable def c99 : CF := ⟨20, [.one (sel 2), .one (sel 3)],
  sSeq (sRegion [iOp (put 2) (.a (aAlloc 30 [.slice none 0 0])),
    iOp (put 3) (.a (aAlloc 37 [.int .i64 0]))])
  (sSeq (sRegion [iOp (put 4) (.a (aAlloc 30 [.slice none 0 0]))])
   (sSeq (sSeq (sRegion [iOp (put 7) (.v false (oEv (sel 0))),
       iOp (put 8) (.e (eCallF 46 [(sel 7)])),
       iOp (put 9) (.e (eCallF 101 [(sel 8)]))])
     (sBlock 0 (sRangeFunc 20 (sel 9) [10, 11] k99_0.1 k99_0.2)))
    (sSeq (sRegion [iOp (put 19) (.v true (oLoad1 (sel 4))),
       iOp ⟨fun _ a => a⟩ (.e (eStore 1 (sel 2) (sel 19))),
       iOp ⟨fun _ a => a⟩ (.e (eStore 1 (sel 3) ⟨fun _ => .int .i64 0⟩))])
     (sEx .ret))))⟩
theorem d99 : denF Try.prog 99 = some c99 := denF_of (by kernel_rfl)
noncomputable def c100_0 : Vm.Sem := sSeq (sRegion [iOp (put 9) (.v false (oInt2 fLss (sel 8) (sel 7)))])
 (sSeq (sCond (sel 9)
    (sEx .normal)
    (sEx (.exit 0)))
  (sSeq (sBlock 1 (sSeq (sRegion [iOp (put 10) (.v false (oEv (sel 8))),
       iOp (put 5) (.v false (oEv (sel 10)))])
     (sSeq (sRegion [iOp (put 11) (.v false (oEv (sel 1))),
        iOp (put 12) (.v false (oEv (sel 0))),
        iOp (put 13) (.v false (oEv (sel 5))),
        iOp (put 14) (.v false (oIndexAddrS 1 (sel 12) (sel 13))),
        iOp (put 15) (.v true (oLoad1 (sel 14))),
        iOp (put 16) (.e (eCall (sel 11) [(sel 15)]))])
      (sCond (sel 16)
        (sSeq (sRegion [iOp (put 17) (.v false (oEv (sel 5))),
           iOp (put 4) (.v false (oEv (sel 17)))])
         (sEx .ret))
        (sEx .normal)))))
   (sRegion [iOp (put 18) (.v false (oInt2 fAdd (sel 8) ⟨fun _ => .int .i64 1⟩)),
     iOp (put 8) (.v false (oEv (sel 18)))])))
/-- slices.IndexFunc[[]byte,byte] -/
noncomputable def c100 : CF := ⟨19, [.tmp (sel 4)],
  sSeq (sRegion [iOp (put 4) (.v false (oEv ⟨fun _ => .int .i64 0⟩))])
  (sSeq (sSeq (sRegion [iOp (put 6) (.v false (oEv (sel 0))),
      iOp (put 7) (.v false (oLenS (sel 6))),
      iOp (put 8) (.v false (oEv ⟨fun _ => .int .i64 0⟩))])
    (sBlock 0 (sLoop c100_0)))
   (sSeq (sRegion [iOp (put 4) (.v false (oEv ⟨fun _ => .int .i64 (-1)⟩))])
    (sEx .ret)))⟩
theorem d100 : denF Try.prog 100 = some c100 := denF_of (by kernel_rfl)
/-- bollard/tlv.all -/
noncomputable def c101 : CF := ⟨4, [.tmp (sel 2)],
  sSeq (sRegion [iOp (put 1) (.a (aBox 75 (sel 0))),
    iOp (put 2) (.v false (oEv ⟨fun _ => .nilFunc⟩))])
  (sSeq (sRegion [iOp (put 3) (.v false (oFunc (.func 102) [] [(sel 1)])),
     iOp (put 2) (.v false (oEv (sel 3)))])
   (sEx .ret))⟩
theorem d101 : denF Try.prog 101 = some c101 := denF_of (by kernel_rfl)
noncomputable def c102_0 : Vm.Sem := sSeq (sSeq (sRegion [iOp (put 4) (.v true (oLoad1 (sel 1))),
    iOp (put 5) (.e (eCallF 78 [(sel 4)])),
    iOp (put 6) (.v false (oInt2 fGtr (sel 5) ⟨fun _ => .int .i64 0⟩))])
  (sCond (sel 6)
    (sEx .normal)
    (sEx (.exit 0))))
 (sSeq (sBlock 1 (sSeq (sSeq (sRegion [iOp (put 9) (.v false (oEv (sel 3))),
       iOp (put 10) (.v false (oEq (.one 1) (sel 9) ⟨fun _ => .int .i64 32⟩))])
     (sCond (sel 10)
       (sSeq (sRegion [iOp (put 11) (.v false (oEv (sel 0))),
          iOp (put 12) (.v false (oBuild [.int .u16 0, .slice none 0 0] [])),
          iOp (put 13) (.e (eCall (sel 11) [(sel 12), ⟨fun _ => .int .i64 10⟩]))])
        (sEx .ret))
       (sEx .normal)))
    (sSeq (sRegion [iOp (put 14) (.v false (oEv (sel 0))),
       iOp (put 15) (.v true (oLoad1 (sel 1))),
       iOp (put 16) (.e (eCallF 103 [(sel 15)])),
       iOp (put 17) (.v false (oExtract (sel 16) 0)),
       iOp (put 18) (.v false (oExtract (sel 16) 1)),
       iOp (put 19) (.e (eCall (sel 14) [(sel 17), (sel 18)])),
       iOp (put 20) (.v false (oNot (sel 19)))])
     (sCond (sel 20)
       (sEx .ret)
       (sEx .normal)))))
  (sRegion [iOp (put 7) (.v false (oEv (sel 3))),
    iOp (put 8) (.v false (oInt2 fAdd (sel 7) ⟨fun _ => .int .i64 1⟩)),
    iOp (put 3) (.v false (oEv (sel 8)))]))
/-- bollard/tlv.all$1 -/
noncomputable def c102 : CF := ⟨21, [],
  sSeq (sRegion [iOp (put 3) (.v false (oEv ⟨fun _ => .int .i64 0⟩))])
  (sBlock 0 (sLoop c102_0))⟩
theorem d102 : denF Try.prog 102 = some c102 := denF_of (by kernel_rfl)
/-- bollard/tlv.one -/
noncomputable def c103 : CF := ⟨37, [.agg (sel 2) 2, .tmp (sel 3)],
  sSeq (sRegion [iOp (put 2) (.a (aAlloc 58 [.int .u16 0, .slice none 0 0])),
    iOp (put 3) (.v false (oEv ⟨fun _ => .int .i64 0⟩))])
  (sSeq (sRegion [iOp (put 9) (.v false (oEv (sel 0))),
     iOp (put 10) (.e (eCallF 47 [(sel 9)])),
     iOp (put 8) (.v false (oEv (sel 10))),
     iOp (put 11) (.v false (oExtract (sel 8) 0)),
     iOp (put 12) (.v false (oExtract (sel 8) 1)),
     iOp (put 4) (.v false (oEv (sel 11))),
     iOp (put 5) (.v false (oEv (sel 12)))])
   (sSeq (sSeq (sRegion [iOp (put 13) (.v false (oEv (sel 5))),
       iOp (put 14) (.v false (oNe (.one 1) (sel 13) ⟨fun _ => .int .i64 0⟩))])
     (sCond (sel 14)
       (sSeq (sRegion [iOp (put 15) (.v false (oBuild [.int .u16 0, .slice none 0 0] [])),
          iOp (put 16) (.v false (oEv (sel 5))),
          iOp ⟨fun _ a => a⟩ (.e (eStore 2 (sel 2) (sel 15))),
          iOp (put 3) (.v false (oEv (sel 16)))])
        (sEx .ret))
       (sEx .normal)))
    (sSeq (sRegion [iOp (put 18) (.v false (oEv (sel 0))),
       iOp (put 19) (.e (eCallF 47 [(sel 18)])),
       iOp (put 17) (.v false (oEv (sel 19))),
       iOp (put 20) (.v false (oExtract (sel 17) 0)),
       iOp (put 21) (.v false (oExtract (sel 17) 1)),
       iOp (put 6) (.v false (oEv (sel 20))),
       iOp (put 5) (.v false (oEv (sel 21)))])
     (sSeq (sSeq (sRegion [iOp (put 22) (.v false (oEv (sel 5))),
         iOp (put 23) (.v false (oNe (.one 1) (sel 22) ⟨fun _ => .int .i64 0⟩))])
       (sCond (sel 23)
         (sSeq (sRegion [iOp (put 24) (.v false (oBuild [.int .u16 0, .slice none 0 0] [])),
            iOp (put 25) (.v false (oEv (sel 5))),
            iOp ⟨fun _ a => a⟩ (.e (eStore 2 (sel 2) (sel 24))),
            iOp (put 3) (.v false (oEv (sel 25)))])
          (sEx .ret))
         (sEx .normal)))
      (sSeq (sRegion [iOp (put 27) (.v false (oEv (sel 0))),
         iOp (put 28) (.v false (oEv (sel 6))),
         iOp (put 29) (.v false (oConvInt .i64 (sel 28))),
         iOp (put 30) (.e (eCallF 104 [(sel 27), (sel 29)])),
         iOp (put 26) (.v false (oEv (sel 30))),
         iOp (put 31) (.v false (oExtract (sel 26) 0)),
         iOp (put 32) (.v false (oExtract (sel 26) 1)),
         iOp (put 7) (.v false (oEv (sel 31))),
         iOp (put 5) (.v false (oEv (sel 32)))])
       (sSeq (sRegion [iOp (put 33) (.v false (oEv (sel 4))),
          iOp (put 34) (.v false (oEv (sel 7))),
          iOp (put 35) (.v false (oBuild [.int .u16 0, .slice none 0 0] [(0, 1, (sel 33)), (1, 1, (sel 34))])),
          iOp (put 36) (.v false (oEv (sel 5))),
          iOp ⟨fun _ a => a⟩ (.e (eStore 2 (sel 2) (sel 35))),
          iOp (put 3) (.v false (oEv (sel 36)))])
        (sEx .ret)))))))⟩
theorem d103 : denF Try.prog 103 = some c103 := denF_of (by kernel_rfl)
/-- bollard/tlv.value -/
noncomputable def c104 : CF := ⟨28, [.tmp (sel 4), .tmp (sel 5)],
  sSeq (sRegion [iOp (put 4) (.v false (oEv ⟨fun _ => .slice none 0 0⟩)),
    iOp (put 5) (.v false (oEv ⟨fun _ => .int .i64 0⟩))])
  (sSeq (sBlock 0 (sSeq (sRegion [iOp (put 9) (.v false (oEv (sel 1))),
       iOp (put 10) (.v false (oInt2 fLss (sel 9) ⟨fun _ => .int .i64 4⟩)),
       iOp (put 8) (.v false (oEv (sel 10)))])
     (sCond (sel 8)
       (sSeq (sRegion [iOp (put 4) (.v false (oEv ⟨fun _ => .slice none 0 0⟩)),
          iOp (put 5) (.v false (oEv ⟨fun _ => .int .i64 3⟩))])
        (sEx .ret))
       (sSeq (sRegion [iOp (put 12) (.v false (oEv (sel 1))),
          iOp (put 13) (.v false (oInt2 fGtr (sel 12) ⟨fun _ => .int .i64 1204⟩)),
          iOp (put 11) (.v false (oEv (sel 13)))])
        (sCond (sel 11)
          (sSeq (sRegion [iOp (put 4) (.v false (oEv ⟨fun _ => .slice none 0 0⟩)),
             iOp (put 5) (.v false (oEv ⟨fun _ => .int .i64 10⟩))])
           (sEx .ret))
          (sEx .normal))))))
   (sSeq (sRegion [iOp (put 15) (.v false (oEv (sel 0))),
      iOp (put 16) (.v false (oEv (sel 1))),
      iOp (put 17) (.v false (oInt2 fSub (sel 16) ⟨fun _ => .int .i64 4⟩)),
      iOp (put 18) (.e (eCallF 75 [(sel 15), (sel 17)])),
      iOp (put 14) (.v false (oEv (sel 18))),
      iOp (put 19) (.v false (oExtract (sel 14) 0)),
      iOp (put 20) (.v false (oExtract (sel 14) 1)),
      iOp (put 6) (.v false (oEv (sel 19))),
      iOp (put 7) (.v false (oEv (sel 20)))])
    (sSeq (sSeq (sRegion [iOp (put 21) (.v false (oEv (sel 7))),
        iOp (put 22) (.v false (oNe (.one 1) (sel 21) ⟨fun _ => .int .i64 0⟩))])
      (sCond (sel 22)
        (sSeq (sRegion [iOp (put 23) (.v false (oEv (sel 7))),
           iOp (put 4) (.v false (oEv ⟨fun _ => .slice none 0 0⟩)),
           iOp (put 5) (.v false (oEv (sel 23)))])
         (sEx .ret))
        (sEx .normal)))
     (sSeq (sRegion [iOp (put 24) (.v false (oEv (sel 6))),
        iOp (put 25) (.v false (oEv (sel 0))),
        iOp (put 26) (.v false (oEv (sel 1))),
        iOp (put 27) (.e (eCallF 77 [(sel 25), (sel 26)])),
        iOp (put 4) (.v false (oEv (sel 24))),
        iOp (put 5) (.v false (oEv (sel 27)))])
      (sEx .ret)))))⟩
theorem d104 : denF Try.prog 104 = some c104 := denF_of (by kernel_rfl)
end Go.Proofs.Ytdcllpjoejkpnaa

