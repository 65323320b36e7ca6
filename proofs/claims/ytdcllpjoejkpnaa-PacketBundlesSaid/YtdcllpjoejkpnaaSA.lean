/- Part of a proof by an abstract run of the program's code: SA. No condition. -/
import Derived.Test.YtdcllpjoejkpnaaChecked
import Derived.Test.YtdcllpjoejkpnaaVmD
namespace Go.Proofs.Ytdcllpjoejkpnaa
open Go Vm
/-- bollard/bollardlaw08.PacketEncodes -/
noncomputable def c3 : CF := ⟨67, [.tmp (sel 6)],
  sSeq (sRegion [iOp (put 4) (.a (aBox 27 (sel 1))),
    iOp (put 5) (.a (aBox 33 (sel 2))),
    iOp (put 6) (.v false (oEv ⟨fun _ => .bool false⟩))])
  (sSeq (sRegion [iOp (put 12) (.e (eCallF 10 [])),
     iOp (put 7) (.v false (oEv (sel 12)))])
   (sSeq (sSeq (sRegion [iOp (put 13) (.v false (oFieldAddr 3 (sel 4))),
       iOp (put 14) (.v true (oLoad1 (sel 13))),
       iOp (put 15) (.e (eCallF 11 [(sel 14)])),
       iOp (put 16) (.v false (oNot (sel 15))),
       iOp (put 17) (.v false (oEv (sel 16))),
       iGuard (sel 17) false (put 18) (iOp (put 18) (.v true (oLoadN 12 (sel 5)))),
       iGuard (sel 17) false (put 19) (iOp (put 19) (.e (eCallF 12 [(sel 18)]))),
       iGuard (sel 17) false (put 20) (iOp (put 20) (.v false (oNot (sel 19)))),
       iOp (put 21) (.v false (oPick (sel 17) ⟨fun _ => .bool true⟩ (sel 20))),
       iOp (put 22) (.v false (oEv (sel 21))),
       iGuard (sel 22) false (put 23) (iOp (put 23) (.v false (oEv (sel 0)))),
       iGuard (sel 22) false (put 24) (iOp (put 24) (.v false (oLenS (sel 23)))),
       iGuard (sel 22) false (put 25) (iOp (put 25) (.v false (oInt2 fGtr (sel 24) ⟨fun _ => .int .i64 1000⟩))),
       iOp (put 26) (.v false (oPick (sel 22) ⟨fun _ => .bool true⟩ (sel 25)))])
     (sCond (sel 26)
       (sSeq (sRegion [iOp (put 27) (.v false (oEv (sel 7))),
          iOp (put 6) (.v false (oEv (sel 27)))])
        (sEx .ret))
       (sEx .normal)))
    (sSeq (sRegion [iOp (put 29) (.v false (oEv (sel 0))),
       iOp (put 30) (.v true (oLoadN 4 (sel 4))),
       iOp (put 31) (.e (eCallF 13 [(sel 29), (sel 30)])),
       iOp (put 28) (.v false (oEv (sel 31))),
       iOp (put 32) (.v false (oExtract (sel 28) 0)),
       iOp (put 33) (.v false (oExtract (sel 28) 1)),
       iOp (put 8) (.v false (oEv (sel 32))),
       iOp (put 9) (.v false (oEv (sel 33)))])
     (sSeq (sRegion [iOp (put 35) (.v false (oEv (sel 0))),
        iOp (put 36) (.v true (oLoadN 4 (sel 4))),
        iOp (put 37) (.e (eCallF 14 [(sel 35), (sel 36)])),
        iOp (put 34) (.v false (oEv (sel 37))),
        iOp (put 38) (.v false (oExtract (sel 34) 0)),
        iOp (put 39) (.v false (oExtract (sel 34) 1)),
        iOp (put 10) (.v false (oEv (sel 38))),
        iOp (put 11) (.v false (oEv (sel 39)))])
      (sSeq (sDr [iOp (put 40) (.v false (oEv (sel 7))),
         iOp (put 41) (.v false (oEv (sel 40))),
         iGuard (sel 41) true (put 42) (iOp (put 42) (.v false (oEv (sel 9)))),
         iGuard (sel 41) true (put 43) (iOp (put 43) (.v false (oEv (sel 11)))),
         iGuard (sel 41) true (put 44) (iOp (put 44) (.v false (oEq (.one 1) (sel 42) (sel 43)))),
         iOp (put 45) (.v false (oPick (sel 41) (sel 44) ⟨fun _ => .bool false⟩)),
         iOp (put 46) (.v false (oEv (sel 45))),
         iGuard (sel 46) true (put 47) (iOp (put 47) (.v false (oEv (sel 8)))),
         iGuard (sel 46) true (put 48) (iOp (put 48) (.v false (oEv (sel 10)))),
         iGuard (sel 46) true (put 49) (iOp (put 49) (.e (eCallF 15 [(sel 47), (sel 48)]))),
         iOp (put 50) (.v false (oPick (sel 46) (sel 49) ⟨fun _ => .bool false⟩)),
         iOp (put 51) (.v false (oEv (sel 50))),
         iGuard (sel 51) true (put 52) (iOp (put 52) (.v true (oLoadN 12 (sel 5)))),
         iGuard (sel 51) true (put 53) (iOp (put 53) (.e (eCallF 16 [(sel 52)]))),
         iGuard (sel 51) true (put 54) (iOp (put 54) (.v true (oLoadN 12 (sel 5)))),
         iGuard (sel 51) true (put 55) (iOp (put 55) (.e (eCallF 17 [(sel 54)]))),
         iGuard (sel 51) true (put 56) (iOp (put 56) (.v false (oEq (.one 1) (sel 53) (sel 55)))),
         iOp (put 57) (.v false (oPick (sel 51) (sel 56) ⟨fun _ => .bool false⟩)),
         iOp (put 58) (.v false (oEv (sel 57))),
         iGuard (sel 58) true (put 59) (iOp (put 59) (.v false (oFieldAddr 0 (sel 5)))),
         iGuard (sel 58) true (put 60) (iOp (put 60) (.v true (oLoad1 (sel 59)))),
         iGuard (sel 58) true (put 61) (iOp (put 61) (.e (eCallF 18 [(sel 60)]))),
         iGuard (sel 58) true (put 62) (iOp (put 62) (.v false (oFieldAddr 0 (sel 5)))),
         iGuard (sel 58) true (put 63) (iOp (put 63) (.v true (oLoad1 (sel 62)))),
         iGuard (sel 58) true (put 64) (iOp (put 64) (.e (eCallF 19 [(sel 63)]))),
         iGuard (sel 58) true (put 65) (iOp (put 65) (.v false (oEq (.one 0) (sel 61) (sel 64)))),
         iOp (put 66) (.v false (oPick (sel 58) (sel 65) ⟨fun _ => .bool false⟩)),
         iOp (put 6) (.v false (oEv (sel 66)))]
         [(14, some ((sel 51), true), (oLoadN 12 (sel 5)), [10, 14]), (23, some ((sel 58), true), (oLoad1 (sel 62)), [16, 22])])
       (sEx .ret))))))⟩
theorem d3 : denF Try.prog 3 = some c3 := denF_of (by kernel_rfl)
noncomputable def c4_0 : Vm.Sem := sSeq (sSeq (sRegion [iOp (put 34) (.v false (oEv (sel 8))),
    iOp (put 35) (.v false (oEv (sel 4))),
    iOp (put 36) (.v false (oLenS (sel 35))),
    iOp (put 37) (.v false (oInt2 fLss (sel 34) (sel 36)))])
  (sCond (sel 37)
    (sEx .normal)
    (sEx (.exit 0))))
 (sSeq (sBlock 1 (sSeq (sRegion [iOp (put 40) (.v false (oEv (sel 4))),
      iOp (put 41) (.v false (oEv (sel 8))),
      iOp (put 42) (.v false (oIndexAddrS 1 (sel 40) (sel 41))),
      iOp (put 43) (.v true (oLoad1 (sel 42))),
      iOp (put 44) (.v false (oEv (sel 6))),
      iOp (put 45) (.v false (oEv (sel 8))),
      iOp (put 46) (.v false (oIndexAddrS 1 (sel 44) (sel 45))),
      iOp (put 47) (.v true (oLoad1 (sel 46))),
      iOp (put 48) (.e (eCallF 22 [(sel 43), (sel 47)])),
      iOp (put 49) (.v false (oNot (sel 48)))])
    (sCond (sel 49)
      (sSeq (sRegion [iOp (put 2) (.v false (oEv ⟨fun _ => .bool false⟩))])
       (sEx .ret))
      (sEx .normal))))
  (sRegion [iOp (put 38) (.v false (oEv (sel 8))),
    iOp (put 39) (.v false (oInt2 fAdd (sel 38) ⟨fun _ => .int .i64 1⟩)),
    iOp (put 8) (.v false (oEv (sel 39)))]))
/-- bollard/bollardlaw08.PacketBundles -/
noncomputable def c4 : CF := ⟨51, [.tmp (sel 2)],
  sSeq (sRegion [iOp (put 2) (.v false (oEv ⟨fun _ => .bool false⟩))])
  (sSeq (sRegion [iOp (put 9) (.e (eCallF 10 [])),
     iOp (put 3) (.v false (oEv (sel 9)))])
   (sSeq (sSeq (sRegion [iOp (put 10) (.v false (oEv (sel 0))),
       iOp (put 11) (.e (eCallF 11 [(sel 10)])),
       iOp (put 12) (.v false (oNot (sel 11)))])
     (sCond (sel 12)
       (sSeq (sRegion [iOp (put 13) (.v false (oEv (sel 3))),
          iOp (put 2) (.v false (oEv (sel 13)))])
        (sEx .ret))
       (sEx .normal)))
    (sSeq (sRegion [iOp (put 15) (.v false (oEv (sel 0))),
       iOp (put 16) (.e (eCallF 20 [(sel 15)])),
       iOp (put 14) (.v false (oEv (sel 16))),
       iOp (put 17) (.v false (oExtract (sel 14) 0)),
       iOp (put 18) (.v false (oExtract (sel 14) 1)),
       iOp (put 4) (.v false (oEv (sel 17))),
       iOp (put 5) (.v false (oEv (sel 18)))])
     (sSeq (sRegion [iOp (put 20) (.v false (oEv (sel 0))),
        iOp (put 21) (.e (eCallF 21 [(sel 20)])),
        iOp (put 19) (.v false (oEv (sel 21))),
        iOp (put 22) (.v false (oExtract (sel 19) 0)),
        iOp (put 23) (.v false (oExtract (sel 19) 1)),
        iOp (put 6) (.v false (oEv (sel 22))),
        iOp (put 7) (.v false (oEv (sel 23)))])
      (sSeq (sSeq (sRegion [iOp (put 24) (.v false (oEv (sel 5))),
          iOp (put 25) (.v false (oEv (sel 7))),
          iOp (put 26) (.v false (oNe (.one 1) (sel 24) (sel 25))),
          iOp (put 27) (.v false (oEv (sel 26))),
          iGuard (sel 27) false (put 28) (iOp (put 28) (.v false (oEv (sel 4)))),
          iGuard (sel 27) false (put 29) (iOp (put 29) (.v false (oLenS (sel 28)))),
          iGuard (sel 27) false (put 30) (iOp (put 30) (.v false (oEv (sel 6)))),
          iGuard (sel 27) false (put 31) (iOp (put 31) (.v false (oLenS (sel 30)))),
          iGuard (sel 27) false (put 32) (iOp (put 32) (.v false (oNe (.one 1) (sel 29) (sel 31)))),
          iOp (put 33) (.v false (oPick (sel 27) ⟨fun _ => .bool true⟩ (sel 32)))])
        (sCond (sel 33)
          (sSeq (sRegion [iOp (put 2) (.v false (oEv ⟨fun _ => .bool false⟩))])
           (sEx .ret))
          (sEx .normal)))
       (sSeq (sSeq (sRegion [iOp (put 8) (.v false (oEv ⟨fun _ => .int .i64 0⟩))])
         (sBlock 0 (sLoop c4_0)))
        (sSeq (sRegion [iOp (put 50) (.v false (oEv (sel 3))),
           iOp (put 2) (.v false (oEv (sel 50)))])
         (sEx .ret))))))))⟩
theorem d4 : denF Try.prog 4 = some c4 := denF_of (by kernel_rfl)
noncomputable def c11_0 : Vm.Sem := sSeq (sSeq (sRegion [iOp (put 7) (.v false (oEv (sel 3))),
    iOp (put 8) (.v false (oEv (sel 0))),
    iOp (put 9) (.v false (oLenS (sel 8))),
    iOp (put 10) (.v false (oInt2 fLss (sel 7) (sel 9)))])
  (sCond (sel 10)
    (sEx .normal)
    (sEx (.exit 0))))
 (sSeq (sBlock 1 (sSeq (sRegion [iOp (put 13) (.v false (oEv (sel 0))),
      iOp (put 14) (.v false (oEv (sel 3))),
      iOp (put 15) (.v false (oIndexAddrS 12 (sel 13) (sel 14))),
      iOp (put 16) (.v true (oLoadN 12 (sel 15))),
      iOp (put 17) (.e (eCallF 12 [(sel 16)])),
      iOp (put 18) (.v false (oNot (sel 17)))])
    (sCond (sel 18)
      (sSeq (sRegion [iOp (put 2) (.v false (oEv ⟨fun _ => .bool false⟩))])
       (sEx .ret))
      (sEx .normal))))
  (sRegion [iOp (put 11) (.v false (oEv (sel 3))),
    iOp (put 12) (.v false (oInt2 fAdd (sel 11) ⟨fun _ => .int .i64 1⟩)),
    iOp (put 3) (.v false (oEv (sel 12)))]))
/-- bollard/bollardlaw08.few -/
noncomputable def c11 : CF := ⟨19, [.tmp (sel 2)],
  sSeq (sRegion [iOp (put 2) (.v false (oEv ⟨fun _ => .bool false⟩))])
  (sSeq (sSeq (sRegion [iOp (put 4) (.v false (oEv (sel 0))),
      iOp (put 5) (.v false (oLenS (sel 4))),
      iOp (put 6) (.v false (oInt2 fGtr (sel 5) ⟨fun _ => .int .i64 80⟩))])
    (sCond (sel 6)
      (sSeq (sRegion [iOp (put 2) (.v false (oEv ⟨fun _ => .bool false⟩))])
       (sEx .ret))
      (sEx .normal)))
   (sSeq (sSeq (sRegion [iOp (put 3) (.v false (oEv ⟨fun _ => .int .i64 0⟩))])
     (sBlock 0 (sLoop c11_0)))
    (sSeq (sRegion [iOp (put 2) (.v false (oEv ⟨fun _ => .bool true⟩))])
     (sEx .ret))))⟩
theorem d11 : denF Try.prog 11 = some c11 := denF_of (by kernel_rfl)
noncomputable def c12_0 : Vm.Sem := sSeq (sSeq (sRegion [iOp (put 32) (.v false (oEv (sel 3))),
    iOp (put 33) (.v false (oFieldAddr 10 (sel 1))),
    iOp (put 34) (.v true (oLoad1 (sel 33))),
    iOp (put 35) (.v false (oLenS (sel 34))),
    iOp (put 36) (.v false (oInt2 fLss (sel 32) (sel 35)))])
  (sCond (sel 36)
    (sEx .normal)
    (sEx (.exit 0))))
 (sSeq (sBlock 1 (sSeq (sRegion [iOp (put 39) (.v false (oFieldAddr 10 (sel 1))),
      iOp (put 40) (.v true (oLoad1 (sel 39))),
      iOp (put 41) (.v false (oEv (sel 3))),
      iOp (put 42) (.v false (oIndexAddrS 2 (sel 40) (sel 41))),
      iOp (put 43) (.v false (oFieldAddr 1 (sel 42))),
      iOp (put 44) (.v true (oLoad1 (sel 43))),
      iOp (put 45) (.v false (oLenS (sel 44))),
      iOp (put 46) (.v false (oInt2 fGtr (sel 45) ⟨fun _ => .int .i64 1300⟩))])
    (sCond (sel 46)
      (sSeq (sRegion [iOp (put 2) (.v false (oEv ⟨fun _ => .bool false⟩))])
       (sEx .ret))
      (sEx .normal))))
  (sRegion [iOp (put 37) (.v false (oEv (sel 3))),
    iOp (put 38) (.v false (oInt2 fAdd (sel 37) ⟨fun _ => .int .i64 1⟩)),
    iOp (put 3) (.v false (oEv (sel 38)))]))
/-- bollard/bollardref07.Few -/
noncomputable def c12 : CF := ⟨47, [.tmp (sel 2)],
  sSeq (sRegion [iOp (put 1) (.a (aBox 33 (sel 0))),
    iOp (put 2) (.v false (oEv ⟨fun _ => .bool false⟩))])
  (sSeq (sSeq (sRegion [iOp (put 4) (.v false (oFieldAddr 7 (sel 1))),
      iOp (put 5) (.v true (oLoad1 (sel 4))),
      iOp (put 6) (.v false (oLenS (sel 5))),
      iOp (put 7) (.v false (oInt2 fGtr (sel 6) ⟨fun _ => .int .i64 100⟩)),
      iOp (put 8) (.v false (oEv (sel 7))),
      iGuard (sel 8) false (put 9) (iOp (put 9) (.v false (oFieldAddr 8 (sel 1)))),
      iGuard (sel 8) false (put 10) (iOp (put 10) (.v true (oLoad1 (sel 9)))),
      iGuard (sel 8) false (put 11) (iOp (put 11) (.v false (oLenS (sel 10)))),
      iGuard (sel 8) false (put 12) (iOp (put 12) (.v false (oInt2 fGtr (sel 11) ⟨fun _ => .int .i64 100⟩))),
      iOp (put 13) (.v false (oPick (sel 8) ⟨fun _ => .bool true⟩ (sel 12))),
      iOp (put 14) (.v false (oEv (sel 13))),
      iGuard (sel 14) false (put 15) (iOp (put 15) (.v false (oFieldAddr 9 (sel 1)))),
      iGuard (sel 14) false (put 16) (iOp (put 16) (.v true (oLoad1 (sel 15)))),
      iGuard (sel 14) false (put 17) (iOp (put 17) (.v false (oLenS (sel 16)))),
      iGuard (sel 14) false (put 18) (iOp (put 18) (.v false (oInt2 fGtr (sel 17) ⟨fun _ => .int .i64 100⟩))),
      iOp (put 19) (.v false (oPick (sel 14) ⟨fun _ => .bool true⟩ (sel 18))),
      iOp (put 20) (.v false (oEv (sel 19))),
      iGuard (sel 20) false (put 21) (iOp (put 21) (.v false (oFieldAddr 10 (sel 1)))),
      iGuard (sel 20) false (put 22) (iOp (put 22) (.v true (oLoad1 (sel 21)))),
      iGuard (sel 20) false (put 23) (iOp (put 23) (.v false (oLenS (sel 22)))),
      iGuard (sel 20) false (put 24) (iOp (put 24) (.v false (oInt2 fGtr (sel 23) ⟨fun _ => .int .i64 40⟩))),
      iOp (put 25) (.v false (oPick (sel 20) ⟨fun _ => .bool true⟩ (sel 24))),
      iOp (put 26) (.v false (oEv (sel 25))),
      iGuard (sel 26) false (put 27) (iOp (put 27) (.v false (oFieldAddr 11 (sel 1)))),
      iGuard (sel 26) false (put 28) (iOp (put 28) (.v true (oLoad1 (sel 27)))),
      iGuard (sel 26) false (put 29) (iOp (put 29) (.v false (oLenS (sel 28)))),
      iGuard (sel 26) false (put 30) (iOp (put 30) (.v false (oInt2 fGtr (sel 29) ⟨fun _ => .int .i64 2000⟩))),
      iOp (put 31) (.v false (oPick (sel 26) ⟨fun _ => .bool true⟩ (sel 30)))])
    (sCond (sel 31)
      (sSeq (sRegion [iOp (put 2) (.v false (oEv ⟨fun _ => .bool false⟩))])
       (sEx .ret))
      (sEx .normal)))
   (sSeq (sSeq (sRegion [iOp (put 3) (.v false (oEv ⟨fun _ => .int .i64 0⟩))])
     (sBlock 0 (sLoop c12_0)))
    (sSeq (sRegion [iOp (put 2) (.v false (oEv ⟨fun _ => .bool true⟩))])
     (sEx .ret))))⟩
theorem d12 : denF Try.prog 12 = some c12 := denF_of (by kernel_rfl)
noncomputable def c13_0 : Vm.Sem := sSeq (sRegion [iOp (put 46) (.v false (oInt2 fLss (sel 45) (sel 44)))])
 (sSeq (sCond (sel 46)
    (sEx .normal)
    (sEx (.exit 0)))
  (sSeq (sBlock 1 (sSeq (sRegion [iOp (put 47) (.v false (oIndexAddrS 12 (sel 43) (sel 45))),
       iOp (put 48) (.v true (oLoadN 12 (sel 47))),
       iOp (put 8) (.a (aAlloc 33 [.int .u8 0, .int .u8 0, .int .u32 0, .int .u32 0, .int .u16 0, .int .u16 0, .int .u32 0, .slice none 0 0, .slice none 0 0, .slice none 0 0, .slice none 0 0, .slice none 0 0])),
       iOp ⟨fun _ a => a⟩ (.e (eStore 12 (sel 8) (sel 48)))])
     (sSeq (sRegion [iOp (put 50) (.v true (oLoadN 12 (sel 8))),
        iOp (put 51) (.e (eCallF 31 [(sel 50)])),
        iOp (put 49) (.v false (oEv (sel 51))),
        iOp (put 52) (.v false (oExtract (sel 49) 0)),
        iOp (put 53) (.v false (oExtract (sel 49) 1)),
        iOp (put 9) (.v false (oEv (sel 52))),
        iOp (put 10) (.v false (oEv (sel 53)))])
      (sRegion [iOp (put 54) (.v false (oEv (sel 6))),
        iOp (put 55) (.v false (oEv (sel 9))),
        iOp (put 56) (.e (eAppend 5 1 1 (sel 54) (sel 55))),
        iOp (put 6) (.v false (oEv (sel 56)))]))))
   (sRegion [iOp (put 57) (.v false (oInt2 fAdd (sel 45) ⟨fun _ => .int .i64 1⟩)),
     iOp (put 45) (.v false (oEv (sel 57)))])))
noncomputable def c13_1 : Vm.Sem := sSeq (sRegion [iOp (put 71) (.v false (oInt2 fLss (sel 70) ⟨fun _ => .int .i64 4⟩))])
 (sSeq (sCond (sel 71)
    (sEx .normal)
    (sEx (.exit 2)))
  (sSeq (sBlock 3 (sSeq (sRegion [iOp (put 72) (.v false (oEv (sel 70))),
       iOp (put 12) (.v false (oEv (sel 72)))])
     (sRegion [iOp (put 73) (.v false (oEv (sel 6))),
       iOp (put 74) (.v false (oEv (sel 12))),
       iOp (put 75) (.v false (oInt2 fAdd ⟨fun _ => .int .i64 8⟩ (sel 74))),
       iOp (put 76) (.v false (oEv (sel 11))),
       iOp (put 77) (.v false (oEv (sel 12))),
       iOp (put 78) (.v false (oInt2 fMul ⟨fun _ => .int .i64 8⟩ (sel 77))),
       iOp (put 79) (.v false (oSh fShr (sel 76) (sel 78))),
       iOp (put 80) (.v false (oConvInt .u8 (sel 79))),
       iOp (put 81) (.v false (oIndexAddrS 1 (sel 73) (sel 75))),
       iOp ⟨fun _ a => a⟩ (.e (eStore 1 (sel 81) (sel 80)))])))
   (sRegion [iOp (put 82) (.v false (oInt2 fAdd (sel 70) ⟨fun _ => .int .i64 1⟩)),
     iOp (put 70) (.v false (oEv (sel 82)))])))
/-- bollard/packet.Encode -/
noncomputable def c13 : CF := ⟨84, [.tmp (sel 4), .tmp (sel 5)],
  sSeq (sRegion [iOp (put 3) (.a (aBox 27 (sel 1))),
    iOp (put 4) (.v false (oEv ⟨fun _ => .slice none 0 0⟩)),
    iOp (put 5) (.v false (oEv ⟨fun _ => .int .i64 0⟩))])
  (sSeq (sSeq (sRegion [iOp (put 13) (.v false (oEv (sel 0))),
      iOp (put 14) (.v false (oLenS (sel 13))),
      iOp (put 15) (.v false (oNe (.one 1) (sel 14) ⟨fun _ => .int .i64 256⟩)),
      iOp (put 16) (.v false (oEv (sel 15))),
      iGuard (sel 16) false (put 17) (iOp (put 17) (.v false (oFieldAddr 3 (sel 3)))),
      iGuard (sel 16) false (put 18) (iOp (put 18) (.v true (oLoad1 (sel 17)))),
      iGuard (sel 16) false (put 19) (iOp (put 19) (.v false (oLenS (sel 18)))),
      iGuard (sel 16) false (put 20) (iOp (put 20) (.v false (oEq (.one 1) (sel 19) ⟨fun _ => .int .i64 0⟩))),
      iOp (put 21) (.v false (oPick (sel 16) ⟨fun _ => .bool true⟩ (sel 20))),
      iOp (put 22) (.v false (oEv (sel 21))),
      iGuard (sel 22) false (put 23) (iOp (put 23) (.v false (oFieldAddr 3 (sel 3)))),
      iGuard (sel 22) false (put 24) (iOp (put 24) (.v true (oLoad1 (sel 23)))),
      iGuard (sel 22) false (put 25) (iOp (put 25) (.e (eCallF 26 [(sel 24)]))),
      iOp (put 26) (.v false (oPick (sel 22) ⟨fun _ => .bool true⟩ (sel 25))),
      iOp (put 27) (.v false (oEv (sel 26))),
      iGuard (sel 27) false (put 28) (iOp (put 28) (.v false (oFieldAddr 3 (sel 3)))),
      iGuard (sel 27) false (put 29) (iOp (put 29) (.v true (oLoad1 (sel 28)))),
      iGuard (sel 27) false (put 30) (iOp (put 30) (.e (eCallF 27 [(sel 29), ⟨fun _ => .func (.func 28) #[] #[]⟩]))),
      iOp (put 31) (.v false (oPick (sel 27) ⟨fun _ => .bool true⟩ (sel 30)))])
    (sCond (sel 31)
      (sSeq (sRegion [iOp (put 4) (.v false (oEv ⟨fun _ => .slice none 0 0⟩)),
         iOp (put 5) (.v false (oEv ⟨fun _ => .int .i64 1⟩))])
       (sEx .ret))
      (sEx .normal)))
   (sSeq (sDr [iOp (put 32) (.v false (oFieldAddr 0 (sel 3))),
      iOp (put 33) (.v true (oLoad1 (sel 32))),
      iOp (put 34) (.e (eCallF 30 [⟨fun _ => .slice none 0 0⟩, (sel 33)])),
      iOp (put 35) (.v false (oFieldAddr 1 (sel 3))),
      iOp (put 36) (.v true (oLoad1 (sel 35))),
      iOp (put 37) (.e (eCallF 30 [(sel 34), (sel 36)])),
      iOp (put 38) (.v false (oFieldAddr 2 (sel 3))),
      iOp (put 39) (.v true (oLoad1 (sel 38))),
      iOp (put 40) (.e (eCallF 29 [(sel 37), (sel 39)])),
      iOp (put 41) (.e (eCallF 29 [(sel 40), ⟨fun _ => .int .u32 0⟩])),
      iOp (put 6) (.v false (oEv (sel 41)))]
      [(4, none, (oLoad1 (sel 35)), [0, 3]), (7, none, (oLoad1 (sel 38)), [0, 3, 6])])
    (sSeq (sSeq (sRegion [iOp (put 42) (.v false (oFieldAddr 3 (sel 3))),
        iOp (put 43) (.v true (oLoad1 (sel 42))),
        iOp (put 44) (.v false (oLenS (sel 43))),
        iOp (put 45) (.v false (oEv ⟨fun _ => .int .i64 0⟩))])
      (sBlock 0 (sLoop c13_0)))
     (sSeq (sSeq (sRegion [iOp (put 58) (.v false (oFieldAddr 3 (sel 3))),
         iOp (put 59) (.v true (oLoad1 (sel 58))),
         iOp (put 60) (.v false (oLenS (sel 59))),
         iOp (put 61) (.v false (oInt2 fGtr (sel 60) ⟨fun _ => .int .i64 64⟩)),
         iOp (put 62) (.v false (oEv (sel 61))),
         iGuard (sel 62) false (put 63) (iOp (put 63) (.v false (oEv (sel 6)))),
         iGuard (sel 62) false (put 64) (iOp (put 64) (.v false (oLenS (sel 63)))),
         iGuard (sel 62) false (put 65) (iOp (put 65) (.v false (oInt2 fGtr (sel 64) ⟨fun _ => .int .i64 1200⟩))),
         iOp (put 66) (.v false (oPick (sel 62) ⟨fun _ => .bool true⟩ (sel 65)))])
       (sCond (sel 66)
         (sSeq (sRegion [iOp (put 4) (.v false (oEv ⟨fun _ => .slice none 0 0⟩)),
            iOp (put 5) (.v false (oEv ⟨fun _ => .int .i64 10⟩))])
          (sEx .ret))
         (sEx .normal)))
      (sSeq (sRegion [iOp (put 67) (.v false (oEv (sel 0))),
         iOp (put 68) (.v false (oEv (sel 6))),
         iOp (put 69) (.e (eCallF 32 [(sel 67), (sel 68)])),
         iOp (put 11) (.v false (oEv (sel 69)))])
       (sSeq (sSeq (sRegion [iOp (put 70) (.v false (oEv ⟨fun _ => .int .i64 0⟩))])
         (sBlock 2 (sLoop c13_1)))
        (sSeq (sRegion [iOp (put 83) (.v false (oEv (sel 6))),
           iOp (put 4) (.v false (oEv (sel 83))),
           iOp (put 5) (.v false (oEv ⟨fun _ => .int .i64 0⟩))])
         (sEx .ret))))))))⟩
theorem d13 : denF Try.prog 13 = some c13 := denF_of (by kernel_rfl)
noncomputable def c14_0 : Vm.Sem := sSeq (sSeq (sRegion [iOp (put 38) (.v false (oEv (sel 8))),
    iOp (put 39) (.v false (oFieldAddr 3 (sel 3))),
    iOp (put 40) (.v true (oLoad1 (sel 39))),
    iOp (put 41) (.v false (oLenS (sel 40))),
    iOp (put 42) (.v false (oInt2 fLss (sel 38) (sel 41)))])
  (sCond (sel 42)
    (sEx .normal)
    (sEx (.exit 0))))
 (sSeq (sBlock 1 (sSeq (sRegion [iOp (put 46) (.v false (oFieldAddr 3 (sel 3))),
      iOp (put 47) (.v true (oLoad1 (sel 46))),
      iOp (put 48) (.v false (oEv (sel 8))),
      iOp (put 49) (.v false (oIndexAddrS 12 (sel 47) (sel 48))),
      iOp (put 50) (.v true (oLoadN 12 (sel 49))),
      iOp (put 51) (.e (eCallF 35 [(sel 50)])),
      iOp (put 45) (.v false (oEv (sel 51))),
      iOp (put 52) (.v false (oExtract (sel 45) 0)),
      iOp (put 53) (.v false (oExtract (sel 45) 1)),
      iOp (put 9) (.v false (oEv (sel 52))),
      iOp (put 10) (.v false (oEv (sel 53)))])
    (sSeq (sSeq (sRegion [iOp (put 54) (.v false (oEv (sel 10))),
        iOp (put 55) (.v false (oNe (.one 1) (sel 54) ⟨fun _ => .int .i64 0⟩))])
      (sCond (sel 55)
        (sSeq (sRegion [iOp (put 4) (.v false (oEv ⟨fun _ => .slice none 0 0⟩)),
           iOp (put 5) (.v false (oEv ⟨fun _ => .int .i64 1⟩))])
         (sEx .ret))
        (sEx .normal)))
     (sRegion [iOp (put 56) (.v false (oEv (sel 7))),
       iOp (put 57) (.v false (oEv (sel 9))),
       iOp (put 58) (.e (eAppend 5 1 1 (sel 56) (sel 57))),
       iOp (put 7) (.v false (oEv (sel 58)))]))))
  (sRegion [iOp (put 43) (.v false (oEv (sel 8))),
    iOp (put 44) (.v false (oInt2 fAdd (sel 43) ⟨fun _ => .int .i64 1⟩)),
    iOp (put 8) (.v false (oEv (sel 44)))]))
/-- bollard/bollardref08.Encode -/
noncomputable def c14 : CF := ⟨85, [.tmp (sel 4), .tmp (sel 5)],
  sSeq (sRegion [iOp (put 3) (.a (aBox 27 (sel 1))),
    iOp (put 4) (.v false (oEv ⟨fun _ => .slice none 0 0⟩)),
    iOp (put 5) (.v false (oEv ⟨fun _ => .int .i64 0⟩))])
  (sSeq (sSeq (sRegion [iOp (put 12) (.v false (oEv (sel 0))),
      iOp (put 13) (.v false (oLenS (sel 12))),
      iOp (put 14) (.v false (oNe (.one 1) (sel 13) ⟨fun _ => .int .i64 256⟩)),
      iOp (put 15) (.v false (oEv (sel 14))),
      iGuard (sel 15) false (put 16) (iOp (put 16) (.v false (oFieldAddr 3 (sel 3)))),
      iGuard (sel 15) false (put 17) (iOp (put 17) (.v true (oLoad1 (sel 16)))),
      iGuard (sel 15) false (put 18) (iOp (put 18) (.v false (oLenS (sel 17)))),
      iGuard (sel 15) false (put 19) (iOp (put 19) (.v false (oEq (.one 1) (sel 18) ⟨fun _ => .int .i64 0⟩))),
      iOp (put 20) (.v false (oPick (sel 15) ⟨fun _ => .bool true⟩ (sel 19))),
      iOp (put 21) (.v false (oEv (sel 20))),
      iGuard (sel 21) false (put 22) (iOp (put 22) (.v false (oFieldAddr 3 (sel 3)))),
      iGuard (sel 21) false (put 23) (iOp (put 23) (.v true (oLoad1 (sel 22)))),
      iGuard (sel 21) false (put 24) (iOp (put 24) (.e (eCallF 33 [(sel 23)]))),
      iGuard (sel 21) false (put 25) (iOp (put 25) (.v false (oNot (sel 24)))),
      iOp (put 26) (.v false (oPick (sel 21) ⟨fun _ => .bool true⟩ (sel 25)))])
    (sCond (sel 26)
      (sSeq (sRegion [iOp (put 4) (.v false (oEv ⟨fun _ => .slice none 0 0⟩)),
         iOp (put 5) (.v false (oEv ⟨fun _ => .int .i64 1⟩))])
       (sEx .ret))
      (sEx .normal)))
   (sSeq (sDr [iOp (put 27) (.v false (oFieldAddr 0 (sel 3))),
      iOp (put 28) (.v true (oLoad1 (sel 27))),
      iOp (put 29) (.v false (oConvInt .u32 (sel 28))),
      iOp (put 30) (.e (eCallF 34 [⟨fun _ => .slice none 0 0⟩, (sel 29), ⟨fun _ => .int .i64 2⟩])),
      iOp (put 31) (.v false (oFieldAddr 1 (sel 3))),
      iOp (put 32) (.v true (oLoad1 (sel 31))),
      iOp (put 33) (.v false (oConvInt .u32 (sel 32))),
      iOp (put 34) (.e (eCallF 34 [(sel 30), (sel 33), ⟨fun _ => .int .i64 2⟩])),
      iOp (put 35) (.v false (oFieldAddr 2 (sel 3))),
      iOp (put 36) (.v true (oLoad1 (sel 35))),
      iOp (put 37) (.e (eCallF 34 [(sel 34), (sel 36), ⟨fun _ => .int .i64 4⟩])),
      iOp (put 6) (.v false (oEv (sel 37)))]
      [(5, none, (oLoad1 (sel 31)), [0, 4]), (9, none, (oLoad1 (sel 35)), [0, 4, 8])])
    (sSeq (sRegion [iOp (put 7) (.v false (oEv ⟨fun _ => .slice none 0 0⟩))])
     (sSeq (sSeq (sRegion [iOp (put 8) (.v false (oEv ⟨fun _ => .int .i64 0⟩))])
       (sBlock 0 (sLoop c14_0)))
      (sSeq (sSeq (sRegion [iOp (put 59) (.v false (oFieldAddr 3 (sel 3))),
          iOp (put 60) (.v true (oLoad1 (sel 59))),
          iOp (put 61) (.v false (oLenS (sel 60))),
          iOp (put 62) (.v false (oInt2 fGtr (sel 61) ⟨fun _ => .int .i64 64⟩)),
          iOp (put 63) (.v false (oEv (sel 62))),
          iGuard (sel 63) false (put 64) (iOp (put 64) (.v false (oEv (sel 7)))),
          iGuard (sel 63) false (put 65) (iOp (put 65) (.v false (oLenS (sel 64)))),
          iGuard (sel 63) false (put 66) (iOp (put 66) (.v false (oInt2 fAdd ⟨fun _ => .int .i64 12⟩ (sel 65)))),
          iGuard (sel 63) false (put 67) (iOp (put 67) (.v false (oInt2 fGtr (sel 66) ⟨fun _ => .int .i64 1200⟩))),
          iOp (put 68) (.v false (oPick (sel 63) ⟨fun _ => .bool true⟩ (sel 67)))])
        (sCond (sel 68)
          (sSeq (sRegion [iOp (put 4) (.v false (oEv ⟨fun _ => .slice none 0 0⟩)),
             iOp (put 5) (.v false (oEv ⟨fun _ => .int .i64 10⟩))])
           (sEx .ret))
          (sEx .normal)))
       (sSeq (sRegion [iOp (put 69) (.v false (oEv (sel 0))),
          iOp (put 70) (.a (aBuildSlice 5 0 (rep 0 [.int .u8 0]) [])),
          iOp (put 71) (.v false (oEv (sel 6))),
          iOp (put 72) (.e (eAppend 5 1 1 (sel 70) (sel 71))),
          iOp (put 73) (.a (aBuildSlice 5 4 (rep 4 [.int .u8 0]) [(0, 1, ⟨fun _ => .int .u8 0⟩), (1, 1, ⟨fun _ => .int .u8 0⟩), (2, 1, ⟨fun _ => .int .u8 0⟩), (3, 1, ⟨fun _ => .int .u8 0⟩)])),
          iOp (put 74) (.e (eAppend 5 1 1 (sel 72) (sel 73))),
          iOp (put 75) (.v false (oEv (sel 7))),
          iOp (put 76) (.e (eAppend 5 1 1 (sel 74) (sel 75))),
          iOp (put 77) (.e (eCallF 36 [(sel 69), (sel 76)])),
          iOp (put 11) (.v false (oEv (sel 77)))])
        (sSeq (sRegion [iOp (put 78) (.v false (oEv (sel 6))),
           iOp (put 79) (.v false (oEv (sel 11))),
           iOp (put 80) (.e (eCallF 37 [(sel 79)])),
           iOp (put 81) (.e (eAppend 5 1 1 (sel 78) (sel 80))),
           iOp (put 6) (.v false (oEv (sel 81)))])
         (sSeq (sRegion [iOp (put 82) (.v false (oEv (sel 6))),
            iOp (put 83) (.v false (oEv (sel 7))),
            iOp (put 84) (.e (eAppend 5 1 1 (sel 82) (sel 83))),
            iOp (put 4) (.v false (oEv (sel 84))),
            iOp (put 5) (.v false (oEv ⟨fun _ => .int .i64 0⟩))])
          (sEx .ret)))))))))⟩
theorem d14 : denF Try.prog 14 = some c14 := denF_of (by kernel_rfl)
/-- bollard/bollardlaw08.same -/
noncomputable def c15 : CF := ⟨10, [.tmp (sel 4)],
  sSeq (sRegion [iOp (put 4) (.v false (oEv ⟨fun _ => .bool false⟩))])
  (sSeq (sRegion [iOp (put 5) (.v false (oEv (sel 0))),
     iOp (put 6) (.v true (oToString (sel 5))),
     iOp (put 7) (.v false (oEv (sel 1))),
     iOp (put 8) (.v true (oToString (sel 7))),
     iOp (put 9) (.v false (oEq (.one 2) (sel 6) (sel 8))),
     iOp (put 4) (.v false (oEv (sel 9)))])
   (sEx .ret))⟩
theorem d15 : denF Try.prog 15 = some c15 := denF_of (by kernel_rfl)
/-- bollard/packet.Size -/
noncomputable def c16 : CF := ⟨12, [.tmp (sel 2)],
  sSeq (sRegion [iOp (put 1) (.a (aBox 33 (sel 0))),
    iOp (put 2) (.v false (oEv ⟨fun _ => .int .i64 0⟩))])
  (sSeq (sRegion [iOp (put 6) (.v true (oLoadN 12 (sel 1))),
     iOp (put 7) (.e (eCallF 31 [(sel 6)])),
     iOp (put 5) (.v false (oEv (sel 7))),
     iOp (put 8) (.v false (oExtract (sel 5) 0)),
     iOp (put 9) (.v false (oExtract (sel 5) 1)),
     iOp (put 3) (.v false (oEv (sel 8))),
     iOp (put 4) (.v false (oEv (sel 9)))])
   (sSeq (sRegion [iOp (put 10) (.v false (oEv (sel 3))),
      iOp (put 11) (.v false (oLenS (sel 10))),
      iOp (put 2) (.v false (oEv (sel 11)))])
    (sEx .ret)))⟩
theorem d16 : denF Try.prog 16 = some c16 := denF_of (by kernel_rfl)
/-- bollard/bollardref08.Size -/
noncomputable def c17 : CF := ⟨12, [.tmp (sel 2)],
  sSeq (sRegion [iOp (put 1) (.a (aBox 33 (sel 0))),
    iOp (put 2) (.v false (oEv ⟨fun _ => .int .i64 0⟩))])
  (sSeq (sRegion [iOp (put 6) (.v true (oLoadN 12 (sel 1))),
     iOp (put 7) (.e (eCallF 35 [(sel 6)])),
     iOp (put 5) (.v false (oEv (sel 7))),
     iOp (put 8) (.v false (oExtract (sel 5) 0)),
     iOp (put 9) (.v false (oExtract (sel 5) 1)),
     iOp (put 3) (.v false (oEv (sel 8))),
     iOp (put 4) (.v false (oEv (sel 9)))])
   (sSeq (sRegion [iOp (put 10) (.v false (oEv (sel 3))),
      iOp (put 11) (.v false (oLenS (sel 10))),
      iOp (put 2) (.v false (oEv (sel 11)))])
    (sEx .ret)))⟩
theorem d17 : denF Try.prog 17 = some c17 := denF_of (by kernel_rfl)
/-- bollard/packet.Alone -/
noncomputable def c18 : CF := ⟨8, [.tmp (sel 2)],
  sSeq (sRegion [iOp (put 2) (.v false (oEv ⟨fun _ => .bool false⟩))])
  (sSeq (sSeq (sRegion [iOp (put 3) (.v false (oEv (sel 0)))])
    (sBlock 0 (sSeq (sSeq (sRegion [iOp (put 5) (.v false (oEq (.one 1) (sel 3) ⟨fun _ => .int .u8 1⟩)),
         iOp (put 4) (.v false (oEv (sel 5)))])
       (sCond (sel 4)
         (sEx .normal)
         (sSeq (sRegion [iOp (put 6) (.v false (oEq (.one 1) (sel 3) ⟨fun _ => .int .u8 2⟩)),
            iOp (put 4) (.v false (oEv (sel 6)))])
          (sCond (sel 4)
            (sEx .normal)
            (sRegion [iOp (put 7) (.v false (oEq (.one 1) (sel 3) ⟨fun _ => .int .u8 14⟩)),
              iOp (put 4) (.v false (oEv (sel 7)))])))))
      (sCond (sel 4)
        (sSeq (sRegion [iOp (put 2) (.v false (oEv ⟨fun _ => .bool true⟩))])
         (sEx .ret))
        (sEx .normal)))))
   (sSeq (sRegion [iOp (put 2) (.v false (oEv ⟨fun _ => .bool false⟩))])
    (sEx .ret)))⟩
theorem d18 : denF Try.prog 18 = some c18 := denF_of (by kernel_rfl)
/-- bollard/bollardref08.Alone -/
noncomputable def c19 : CF := ⟨13, [.tmp (sel 2)],
  sSeq (sRegion [iOp (put 2) (.v false (oEv ⟨fun _ => .bool false⟩))])
  (sSeq (sRegion [iOp (put 3) (.v false (oEv (sel 0))),
     iOp (put 4) (.v false (oEq (.one 1) (sel 3) ⟨fun _ => .int .u8 1⟩)),
     iOp (put 5) (.v false (oEv (sel 4))),
     iGuard (sel 5) false (put 6) (iOp (put 6) (.v false (oEv (sel 0)))),
     iGuard (sel 5) false (put 7) (iOp (put 7) (.v false (oEq (.one 1) (sel 6) ⟨fun _ => .int .u8 2⟩))),
     iOp (put 8) (.v false (oPick (sel 5) ⟨fun _ => .bool true⟩ (sel 7))),
     iOp (put 9) (.v false (oEv (sel 8))),
     iGuard (sel 9) false (put 10) (iOp (put 10) (.v false (oEv (sel 0)))),
     iGuard (sel 9) false (put 11) (iOp (put 11) (.v false (oEq (.one 1) (sel 10) ⟨fun _ => .int .u8 14⟩))),
     iOp (put 12) (.v false (oPick (sel 9) ⟨fun _ => .bool true⟩ (sel 11))),
     iOp (put 2) (.v false (oEv (sel 12)))])
   (sEx .ret))⟩
theorem d19 : denF Try.prog 19 = some c19 := denF_of (by kernel_rfl)
/-- bollard/packet.Bundle -/
noncomputable def c20 : CF := ⟨13, [.tmp (sel 2), .tmp (sel 3)],
  sSeq (sRegion [iOp (put 2) (.v false (oEv ⟨fun _ => .slice none 0 0⟩)),
    iOp (put 3) (.v false (oEv ⟨fun _ => .int .i64 0⟩))])
  (sSeq (sBlock 0 (sSeq (sRegion [iOp (put 5) (.v false (oEv (sel 0))),
       iOp (put 6) (.e (eCallF 27 [(sel 5), ⟨fun _ => .func (.func 28) #[] #[]⟩])),
       iOp (put 4) (.v false (oEv (sel 6)))])
     (sCond (sel 4)
       (sSeq (sRegion [iOp (put 2) (.v false (oEv ⟨fun _ => .slice none 0 0⟩)),
          iOp (put 3) (.v false (oEv ⟨fun _ => .int .i64 1⟩))])
        (sEx .ret))
       (sSeq (sRegion [iOp (put 8) (.v false (oEv (sel 0))),
          iOp (put 9) (.e (eCallF 27 [(sel 8), ⟨fun _ => .func (.func 38) #[] #[]⟩])),
          iOp (put 7) (.v false (oEv (sel 9)))])
        (sCond (sel 7)
          (sSeq (sRegion [iOp (put 2) (.v false (oEv ⟨fun _ => .slice none 0 0⟩)),
             iOp (put 3) (.v false (oEv ⟨fun _ => .int .i64 10⟩))])
           (sEx .ret))
          (sEx .normal))))))
   (sSeq (sRegion [iOp (put 10) (.v false (oEv (sel 0))),
      iOp (put 11) (.e (eCallF 40 [(sel 10)])),
      iOp (put 12) (.e (eCallF 39 [(sel 11)])),
      iOp (put 2) (.v false (oEv (sel 12))),
      iOp (put 3) (.v false (oEv ⟨fun _ => .int .i64 0⟩))])
    (sEx .ret)))⟩
theorem d20 : denF Try.prog 20 = some c20 := denF_of (by kernel_rfl)
noncomputable def c21_0 : Vm.Sem := sSeq (sSeq (sRegion [iOp (put 12) (.v false (oEv (sel 4))),
    iOp (put 13) (.v false (oEv (sel 0))),
    iOp (put 14) (.v false (oLenS (sel 13))),
    iOp (put 15) (.v false (oInt2 fLss (sel 12) (sel 14)))])
  (sCond (sel 15)
    (sEx .normal)
    (sEx (.exit 0))))
 (sSeq (sBlock 1 (sSeq (sRegion [iOp (put 18) (.v false (oEv (sel 0))),
      iOp (put 19) (.v false (oEv (sel 4))),
      iOp (put 20) (.v false (oIndexAddrS 12 (sel 18) (sel 19))),
      iOp (put 21) (.v true (oLoadN 12 (sel 20))),
      iOp (put 22) (.e (eCallF 41 [(sel 21)])),
      iOp (put 23) (.v false (oNot (sel 22)))])
    (sCond (sel 23)
      (sSeq (sRegion [iOp (put 2) (.v false (oEv ⟨fun _ => .slice none 0 0⟩)),
         iOp (put 3) (.v false (oEv ⟨fun _ => .int .i64 1⟩))])
       (sEx .ret))
      (sEx .normal))))
  (sRegion [iOp (put 16) (.v false (oEv (sel 4))),
    iOp (put 17) (.v false (oInt2 fAdd (sel 16) ⟨fun _ => .int .i64 1⟩)),
    iOp (put 4) (.v false (oEv (sel 17)))]))
noncomputable def c21_1 : Vm.Sem := sSeq (sSeq (sRegion [iOp (put 24) (.v false (oEv (sel 5))),
    iOp (put 25) (.v false (oEv (sel 0))),
    iOp (put 26) (.v false (oLenS (sel 25))),
    iOp (put 27) (.v false (oInt2 fLss (sel 24) (sel 26)))])
  (sCond (sel 27)
    (sEx .normal)
    (sEx (.exit 2))))
 (sSeq (sBlock 3 (sSeq (sRegion [iOp (put 30) (.v false (oEv (sel 0))),
      iOp (put 31) (.v false (oEv (sel 5))),
      iOp (put 32) (.v false (oIndexAddrS 12 (sel 30) (sel 31))),
      iOp (put 33) (.v true (oLoadN 12 (sel 32))),
      iOp (put 34) (.e (eCallF 17 [(sel 33)])),
      iOp (put 35) (.v false (oInt2 fGtr (sel 34) ⟨fun _ => .int .i64 1188⟩))])
    (sCond (sel 35)
      (sSeq (sRegion [iOp (put 2) (.v false (oEv ⟨fun _ => .slice none 0 0⟩)),
         iOp (put 3) (.v false (oEv ⟨fun _ => .int .i64 10⟩))])
       (sEx .ret))
      (sEx .normal))))
  (sRegion [iOp (put 28) (.v false (oEv (sel 5))),
    iOp (put 29) (.v false (oInt2 fAdd (sel 28) ⟨fun _ => .int .i64 1⟩)),
    iOp (put 5) (.v false (oEv (sel 29)))]))
noncomputable def c21_2 : Vm.Sem := sSeq (sSeq (sRegion [iOp (put 36) (.v false (oEv (sel 9))),
    iOp (put 37) (.v false (oEv (sel 0))),
    iOp (put 38) (.v false (oLenS (sel 37))),
    iOp (put 39) (.v false (oInt2 fLss (sel 36) (sel 38)))])
  (sCond (sel 39)
    (sEx .normal)
    (sEx (.exit 4))))
 (sSeq (sBlock 5 (sSeq (sDr [iOp (put 42) (.a (aBuildSlice 33 0 (rep 0 [.int .u8 0, .int .u8 0, .int .u32 0, .int .u32 0, .int .u16 0, .int .u16 0, .int .u32 0, .slice none 0 0, .slice none 0 0, .slice none 0 0, .slice none 0 0, .slice none 0 0]) [])),
      iOp (put 43) (.v false (oEv (sel 7))),
      iOp (put 44) (.e (eAppend 33 12 144 (sel 42) (sel 43))),
      iOp (put 45) (.v false (oEv (sel 0))),
      iOp (put 46) (.v false (oEv (sel 9))),
      iOp (put 47) (.v false (oIndexAddrS 12 (sel 45) (sel 46))),
      iOp (put 48) (.v true (oLoadN 12 (sel 47))),
      iOp (put 49) (.a (aBuildSlice 33 1 (rep 1 [.int .u8 0, .int .u8 0, .int .u32 0, .int .u32 0, .int .u16 0, .int .u16 0, .int .u32 0, .slice none 0 0, .slice none 0 0, .slice none 0 0, .slice none 0 0, .slice none 0 0]) [(0, 12, (sel 48))])),
      iOp (put 50) (.e (eAppend 33 12 144 (sel 44) (sel 49))),
      iOp (put 10) (.v false (oEv (sel 50)))]
      [(6, none, (oLoadN 12 (sel 47)), [0, 3])])
    (sSeq (sRegion [iOp (put 51) (.v false (oEv (sel 0))),
       iOp (put 52) (.v false (oEv (sel 9))),
       iOp (put 53) (.v false (oIndexAddrS 12 (sel 51) (sel 52))),
       iOp (put 54) (.v true (oLoadN 12 (sel 53))),
       iOp (put 55) (.e (eCallF 17 [(sel 54)])),
       iOp (put 11) (.v false (oEv (sel 55)))])
     (sSeq (sSeq (sRegion [iOp (put 56) (.v false (oEv (sel 7))),
         iOp (put 57) (.v false (oLenS (sel 56))),
         iOp (put 58) (.v false (oInt2 fGtr (sel 57) ⟨fun _ => .int .i64 0⟩)),
         iOp (put 59) (.v false (oEv (sel 58))),
         iGuard (sel 59) true (put 60) (iOp (put 60) (.v false (oEv (sel 8)))),
         iGuard (sel 59) true (put 61) (iOp (put 61) (.v false (oEv (sel 11)))),
         iGuard (sel 59) true (put 62) (iOp (put 62) (.v false (oInt2 fAdd (sel 60) (sel 61)))),
         iGuard (sel 59) true (put 63) (iOp (put 63) (.v false (oInt2 fGtr (sel 62) ⟨fun _ => .int .i64 1188⟩))),
         iGuard (sel 59) true (put 64) (iOp (put 64) (.v false (oEv (sel 63)))),
         iGuard (sel 64) false (put 65) (iOp (put 65) (.v false (oEv (sel 10)))),
         iGuard (sel 64) false (put 66) (iOp (put 66) (.v false (oLenS (sel 65)))),
         iGuard (sel 64) false (put 67) (iOp (put 67) (.v false (oInt2 fGtr (sel 66) ⟨fun _ => .int .i64 64⟩))),
         iGuard (sel 59) true (put 68) (iOp (put 68) (.v false (oPick (sel 64) ⟨fun _ => .bool true⟩ (sel 67)))),
         iGuard (sel 59) true (put 69) (iOp (put 69) (.v false (oEv (sel 68)))),
         iGuard (sel 69) false (put 70) (iOp (put 70) (.v false (oEv (sel 10)))),
         iGuard (sel 69) false (put 71) (iOp (put 71) (.e (eCallF 33 [(sel 70)]))),
         iGuard (sel 69) false (put 72) (iOp (put 72) (.v false (oNot (sel 71)))),
         iGuard (sel 59) true (put 73) (iOp (put 73) (.v false (oPick (sel 69) ⟨fun _ => .bool true⟩ (sel 72)))),
         iOp (put 74) (.v false (oPick (sel 59) (sel 73) ⟨fun _ => .bool false⟩))])
       (sCond (sel 74)
         (sSeq (sRegion [iOp (put 75) (.v false (oEv (sel 6))),
            iOp (put 76) (.v false (oEv (sel 7))),
            iOp (put 77) (.a (aBuildSlice 25 1 (rep 1 [.slice none 0 0]) [(0, 1, (sel 76))])),
            iOp (put 78) (.e (eAppend 25 1 24 (sel 75) (sel 77))),
            iOp (put 6) (.v false (oEv (sel 78)))])
          (sSeq (sRegion [iOp (put 79) (.v false (oEv (sel 0))),
             iOp (put 80) (.v false (oEv (sel 9))),
             iOp (put 81) (.v false (oIndexAddrS 12 (sel 79) (sel 80))),
             iOp (put 82) (.v true (oLoadN 12 (sel 81))),
             iOp (put 83) (.a (aBuildSlice 33 1 (rep 1 [.int .u8 0, .int .u8 0, .int .u32 0, .int .u32 0, .int .u16 0, .int .u16 0, .int .u32 0, .slice none 0 0, .slice none 0 0, .slice none 0 0, .slice none 0 0, .slice none 0 0]) [(0, 12, (sel 82))])),
             iOp (put 10) (.v false (oEv (sel 83)))])
           (sRegion [iOp (put 8) (.v false (oEv ⟨fun _ => .int .i64 0⟩))])))
         (sEx .normal)))
      (sSeq (sRegion [iOp (put 84) (.v false (oEv (sel 10))),
         iOp (put 7) (.v false (oEv (sel 84)))])
       (sRegion [iOp (put 85) (.v false (oEv (sel 8))),
         iOp (put 86) (.v false (oEv (sel 11))),
         iOp (put 87) (.v false (oInt2 fAdd (sel 85) (sel 86))),
         iOp (put 8) (.v false (oEv (sel 87)))]))))))
  (sRegion [iOp (put 40) (.v false (oEv (sel 9))),
    iOp (put 41) (.v false (oInt2 fAdd (sel 40) ⟨fun _ => .int .i64 1⟩)),
    iOp (put 9) (.v false (oEv (sel 41)))]))
/-- bollard/bollardref08.Bundle -/
noncomputable def c21 : CF := ⟨96, [.tmp (sel 2), .tmp (sel 3)],
  sSeq (sRegion [iOp (put 2) (.v false (oEv ⟨fun _ => .slice none 0 0⟩)),
    iOp (put 3) (.v false (oEv ⟨fun _ => .int .i64 0⟩))])
  (sSeq (sSeq (sRegion [iOp (put 4) (.v false (oEv ⟨fun _ => .int .i64 0⟩))])
    (sBlock 0 (sLoop c21_0)))
   (sSeq (sSeq (sRegion [iOp (put 5) (.v false (oEv ⟨fun _ => .int .i64 0⟩))])
     (sBlock 2 (sLoop c21_1)))
    (sSeq (sRegion [iOp (put 6) (.v false (oEv ⟨fun _ => .slice none 0 0⟩))])
     (sSeq (sRegion [iOp (put 7) (.v false (oEv ⟨fun _ => .slice none 0 0⟩))])
      (sSeq (sRegion [iOp (put 8) (.v false (oEv ⟨fun _ => .int .i64 0⟩))])
       (sSeq (sSeq (sRegion [iOp (put 9) (.v false (oEv ⟨fun _ => .int .i64 0⟩))])
         (sBlock 4 (sLoop c21_2)))
        (sSeq (sSeq (sRegion [iOp (put 88) (.v false (oEv (sel 7))),
            iOp (put 89) (.v false (oLenS (sel 88))),
            iOp (put 90) (.v false (oInt2 fGtr (sel 89) ⟨fun _ => .int .i64 0⟩))])
          (sCond (sel 90)
            (sRegion [iOp (put 91) (.v false (oEv (sel 6))),
              iOp (put 92) (.v false (oEv (sel 7))),
              iOp (put 93) (.a (aBuildSlice 25 1 (rep 1 [.slice none 0 0]) [(0, 1, (sel 92))])),
              iOp (put 94) (.e (eAppend 25 1 24 (sel 91) (sel 93))),
              iOp (put 6) (.v false (oEv (sel 94)))])
            (sEx .normal)))
         (sSeq (sRegion [iOp (put 95) (.v false (oEv (sel 6))),
            iOp (put 2) (.v false (oEv (sel 95))),
            iOp (put 3) (.v false (oEv ⟨fun _ => .int .i64 0⟩))])
          (sEx .ret)))))))))⟩
theorem d21 : denF Try.prog 21 = some c21 := denF_of (by kernel_rfl)
noncomputable def c22_0 : Vm.Sem := sSeq (sSeq (sRegion [iOp (put 11) (.v false (oEv (sel 5))),
    iOp (put 12) (.v false (oEv (sel 0))),
    iOp (put 13) (.v false (oLenS (sel 12))),
    iOp (put 14) (.v false (oInt2 fLss (sel 11) (sel 13)))])
  (sCond (sel 14)
    (sEx .normal)
    (sEx (.exit 0))))
 (sSeq (sBlock 1 (sSeq (sRegion [iOp (put 17) (.v false (oEv (sel 0))),
      iOp (put 18) (.v false (oEv (sel 5))),
      iOp (put 19) (.v false (oIndexAddrS 12 (sel 17) (sel 18))),
      iOp (put 20) (.v true (oLoadN 12 (sel 19))),
      iOp (put 21) (.v false (oEv (sel 1))),
      iOp (put 22) (.v false (oEv (sel 5))),
      iOp (put 23) (.v false (oIndexAddrS 12 (sel 21) (sel 22))),
      iOp (put 24) (.v true (oLoadN 12 (sel 23))),
      iOp (put 25) (.e (eCallF 42 [(sel 20), (sel 24)])),
      iOp (put 26) (.v false (oNot (sel 25)))])
    (sCond (sel 26)
      (sSeq (sRegion [iOp (put 4) (.v false (oEv ⟨fun _ => .bool false⟩))])
       (sEx .ret))
      (sEx .normal))))
  (sRegion [iOp (put 15) (.v false (oEv (sel 5))),
    iOp (put 16) (.v false (oInt2 fAdd (sel 15) ⟨fun _ => .int .i64 1⟩)),
    iOp (put 5) (.v false (oEv (sel 16)))]))
/-- bollard/bollardref08.SameChunks -/
noncomputable def c22 : CF := ⟨27, [.tmp (sel 4)],
  sSeq (sRegion [iOp (put 4) (.v false (oEv ⟨fun _ => .bool false⟩))])
  (sSeq (sSeq (sRegion [iOp (put 6) (.v false (oEv (sel 0))),
      iOp (put 7) (.v false (oLenS (sel 6))),
      iOp (put 8) (.v false (oEv (sel 1))),
      iOp (put 9) (.v false (oLenS (sel 8))),
      iOp (put 10) (.v false (oNe (.one 1) (sel 7) (sel 9)))])
    (sCond (sel 10)
      (sSeq (sRegion [iOp (put 4) (.v false (oEv ⟨fun _ => .bool false⟩))])
       (sEx .ret))
      (sEx .normal)))
   (sSeq (sSeq (sRegion [iOp (put 5) (.v false (oEv ⟨fun _ => .int .i64 0⟩))])
     (sBlock 0 (sLoop c22_0)))
    (sSeq (sRegion [iOp (put 4) (.v false (oEv ⟨fun _ => .bool true⟩))])
     (sEx .ret))))⟩
theorem d22 : denF Try.prog 22 = some c22 := denF_of (by kernel_rfl)
/-- bollard/bollardref08.Same -/
noncomputable def c25 : CF := ⟨31, [.tmp (sel 4)],
  sSeq (sRegion [iOp (put 2) (.a (aBox 27 (sel 0))),
    iOp (put 3) (.a (aBox 27 (sel 1))),
    iOp (put 4) (.v false (oEv ⟨fun _ => .bool false⟩))])
  (sSeq (sRegion [iOp (put 5) (.v false (oFieldAddr 0 (sel 2))),
     iOp (put 6) (.v true (oLoad1 (sel 5))),
     iOp (put 7) (.v false (oFieldAddr 0 (sel 3))),
     iOp (put 8) (.v true (oLoad1 (sel 7))),
     iOp (put 9) (.v false (oEq (.one 1) (sel 6) (sel 8))),
     iOp (put 10) (.v false (oEv (sel 9))),
     iGuard (sel 10) true (put 11) (iOp (put 11) (.v false (oFieldAddr 1 (sel 2)))),
     iGuard (sel 10) true (put 12) (iOp (put 12) (.v true (oLoad1 (sel 11)))),
     iGuard (sel 10) true (put 13) (iOp (put 13) (.v false (oFieldAddr 1 (sel 3)))),
     iGuard (sel 10) true (put 14) (iOp (put 14) (.v true (oLoad1 (sel 13)))),
     iGuard (sel 10) true (put 15) (iOp (put 15) (.v false (oEq (.one 1) (sel 12) (sel 14)))),
     iOp (put 16) (.v false (oPick (sel 10) (sel 15) ⟨fun _ => .bool false⟩)),
     iOp (put 17) (.v false (oEv (sel 16))),
     iGuard (sel 17) true (put 18) (iOp (put 18) (.v false (oFieldAddr 2 (sel 2)))),
     iGuard (sel 17) true (put 19) (iOp (put 19) (.v true (oLoad1 (sel 18)))),
     iGuard (sel 17) true (put 20) (iOp (put 20) (.v false (oFieldAddr 2 (sel 3)))),
     iGuard (sel 17) true (put 21) (iOp (put 21) (.v true (oLoad1 (sel 20)))),
     iGuard (sel 17) true (put 22) (iOp (put 22) (.v false (oEq (.one 1) (sel 19) (sel 21)))),
     iOp (put 23) (.v false (oPick (sel 17) (sel 22) ⟨fun _ => .bool false⟩)),
     iOp (put 24) (.v false (oEv (sel 23))),
     iGuard (sel 24) true (put 25) (iOp (put 25) (.v false (oFieldAddr 3 (sel 2)))),
     iGuard (sel 24) true (put 26) (iOp (put 26) (.v true (oLoad1 (sel 25)))),
     iGuard (sel 24) true (put 27) (iOp (put 27) (.v false (oFieldAddr 3 (sel 3)))),
     iGuard (sel 24) true (put 28) (iOp (put 28) (.v true (oLoad1 (sel 27)))),
     iGuard (sel 24) true (put 29) (iOp (put 29) (.e (eCallF 22 [(sel 26), (sel 28)]))),
     iOp (put 30) (.v false (oPick (sel 24) (sel 29) ⟨fun _ => .bool false⟩)),
     iOp (put 4) (.v false (oEv (sel 30)))])
   (sEx .ret))⟩
theorem d25 : denF Try.prog 25 = some c25 := denF_of (by kernel_rfl)
/-- bollard/packet.mixed -/
noncomputable def c26 : CF := ⟨10, [.tmp (sel 2)],
  sSeq (sRegion [iOp (put 2) (.v false (oEv ⟨fun _ => .bool false⟩))])
  (sSeq (sRegion [iOp (put 3) (.v false (oEv (sel 0))),
     iOp (put 4) (.v false (oLenS (sel 3))),
     iOp (put 5) (.v false (oInt2 fGtr (sel 4) ⟨fun _ => .int .i64 1⟩)),
     iOp (put 6) (.v false (oEv (sel 5))),
     iGuard (sel 6) true (put 7) (iOp (put 7) (.v false (oEv (sel 0)))),
     iGuard (sel 6) true (put 8) (iOp (put 8) (.e (eCallF 27 [(sel 7), ⟨fun _ => .func (.func 49) #[] #[]⟩]))),
     iOp (put 9) (.v false (oPick (sel 6) (sel 8) ⟨fun _ => .bool false⟩)),
     iOp (put 2) (.v false (oEv (sel 9)))])
   (sEx .ret))⟩
theorem d26 : denF Try.prog 26 = some c26 := denF_of (by kernel_rfl)
/-- slices.ContainsFunc[[]bollard/api.Chunk,bollard/api.Chunk] -/
noncomputable def c27 : CF := ⟨9, [.tmp (sel 4)],
  sSeq (sRegion [iOp (put 4) (.v false (oEv ⟨fun _ => .bool false⟩))])
  (sSeq (sRegion [iOp (put 5) (.v false (oEv (sel 0))),
     iOp (put 6) (.v false (oEv (sel 1))),
     iOp (put 7) (.e (eCallF 50 [(sel 5), (sel 6)])),
     iOp (put 8) (.v false (oInt2 fGeq (sel 7) ⟨fun _ => .int .i64 0⟩)),
     iOp (put 4) (.v false (oEv (sel 8)))])
   (sEx .ret))⟩
theorem d27 : denF Try.prog 27 = some c27 := denF_of (by kernel_rfl)
/-- bollard/packet.unshaped -/
noncomputable def c28 : CF := ⟨6, [.tmp (sel 2)],
  sSeq (sRegion [iOp (put 1) (.a (aBox 33 (sel 0))),
    iOp (put 2) (.v false (oEv ⟨fun _ => .bool false⟩))])
  (sSeq (sRegion [iOp (put 3) (.v true (oLoadN 12 (sel 1))),
     iOp (put 4) (.e (eCallF 51 [(sel 3)])),
     iOp (put 5) (.v false (oNot (sel 4))),
     iOp (put 2) (.v false (oEv (sel 5)))])
   (sEx .ret))⟩
theorem d28 : denF Try.prog 28 = some c28 := denF_of (by kernel_rfl)
/-- bollard/octet.Put32 -/
noncomputable def c29 : CF := ⟨19, [.tmp (sel 4)],
  sSeq (sRegion [iOp (put 4) (.v false (oEv ⟨fun _ => .slice none 0 0⟩))])
  (sSeq (sRegion [iOp (put 5) (.v false (oEv (sel 0))),
     iOp (put 6) (.v false (oEv (sel 1))),
     iOp (put 7) (.v false (oSh fShr (sel 6) ⟨fun _ => .int .u64 24⟩)),
     iOp (put 8) (.v false (oConvInt .u8 (sel 7))),
     iOp (put 9) (.v false (oEv (sel 1))),
     iOp (put 10) (.v false (oSh fShr (sel 9) ⟨fun _ => .int .u64 16⟩)),
     iOp (put 11) (.v false (oConvInt .u8 (sel 10))),
     iOp (put 12) (.v false (oEv (sel 1))),
     iOp (put 13) (.v false (oSh fShr (sel 12) ⟨fun _ => .int .u64 8⟩)),
     iOp (put 14) (.v false (oConvInt .u8 (sel 13))),
     iOp (put 15) (.v false (oEv (sel 1))),
     iOp (put 16) (.v false (oConvInt .u8 (sel 15))),
     iOp (put 17) (.a (aBuildSlice 5 4 (rep 4 [.int .u8 0]) [(0, 1, (sel 8)), (1, 1, (sel 11)), (2, 1, (sel 14)), (3, 1, (sel 16))])),
     iOp (put 18) (.e (eCallF 52 [(sel 5), (sel 17)])),
     iOp (put 4) (.v false (oEv (sel 18)))])
   (sEx .ret))⟩
theorem d29 : denF Try.prog 29 = some c29 := denF_of (by kernel_rfl)
/-- bollard/octet.Put16 -/
noncomputable def c30 : CF := ⟨13, [.tmp (sel 4)],
  sSeq (sRegion [iOp (put 4) (.v false (oEv ⟨fun _ => .slice none 0 0⟩))])
  (sSeq (sRegion [iOp (put 5) (.v false (oEv (sel 0))),
     iOp (put 6) (.v false (oEv (sel 1))),
     iOp (put 7) (.v false (oSh fShr (sel 6) ⟨fun _ => .int .u64 8⟩)),
     iOp (put 8) (.v false (oConvInt .u8 (sel 7))),
     iOp (put 9) (.v false (oEv (sel 1))),
     iOp (put 10) (.v false (oConvInt .u8 (sel 9))),
     iOp (put 11) (.a (aBuildSlice 5 2 (rep 2 [.int .u8 0]) [(0, 1, (sel 8)), (1, 1, (sel 10))])),
     iOp (put 12) (.e (eCallF 52 [(sel 5), (sel 11)])),
     iOp (put 4) (.v false (oEv (sel 12)))])
   (sEx .ret))⟩
theorem d30 : denF Try.prog 30 = some c30 := denF_of (by kernel_rfl)
/-- bollard/chunk.Encode -/
noncomputable def c31 : CF := ⟨29, [.tmp (sel 2), .tmp (sel 3)],
  sSeq (sRegion [iOp (put 1) (.a (aBox 33 (sel 0))),
    iOp (put 2) (.v false (oEv ⟨fun _ => .slice none 0 0⟩)),
    iOp (put 3) (.v false (oEv ⟨fun _ => .int .i64 0⟩))])
  (sSeq (sSeq (sRegion [iOp (put 6) (.v true (oLoadN 12 (sel 1))),
      iOp (put 7) (.e (eCallF 51 [(sel 6)])),
      iOp (put 8) (.v false (oNot (sel 7)))])
    (sCond (sel 8)
      (sSeq (sRegion [iOp (put 2) (.v false (oEv ⟨fun _ => .slice none 0 0⟩)),
         iOp (put 3) (.v false (oEv ⟨fun _ => .int .i64 1⟩))])
       (sEx .ret))
      (sEx .normal)))
   (sSeq (sRegion [iOp (put 9) (.v true (oLoadN 12 (sel 1))),
      iOp (put 10) (.e (eCallF 53 [(sel 9)])),
      iOp (put 4) (.v false (oEv (sel 10)))])
    (sSeq (sSeq (sRegion [iOp (put 11) (.v false (oEv (sel 4))),
        iOp (put 12) (.v false (oLenS (sel 11))),
        iOp (put 13) (.v false (oInt2 fAdd ⟨fun _ => .int .i64 4⟩ (sel 12))),
        iOp (put 14) (.v false (oInt2 fGtr (sel 13) ⟨fun _ => .int .i64 65535⟩))])
      (sCond (sel 14)
        (sSeq (sRegion [iOp (put 2) (.v false (oEv ⟨fun _ => .slice none 0 0⟩)),
           iOp (put 3) (.v false (oEv ⟨fun _ => .int .i64 10⟩))])
         (sEx .ret))
        (sEx .normal)))
     (sSeq (sRegion [iOp (put 15) (.v false (oFieldAddr 0 (sel 1))),
        iOp (put 16) (.v true (oLoad1 (sel 15))),
        iOp (put 17) (.v false (oFieldAddr 1 (sel 1))),
        iOp (put 18) (.v true (oLoad1 (sel 17))),
        iOp (put 19) (.a (aBuildSlice 5 2 (rep 2 [.int .u8 0]) [(0, 1, (sel 16)), (1, 1, (sel 18))])),
        iOp (put 20) (.v false (oEv (sel 4))),
        iOp (put 21) (.v false (oLenS (sel 20))),
        iOp (put 22) (.v false (oInt2 fAdd ⟨fun _ => .int .i64 4⟩ (sel 21))),
        iOp (put 23) (.v false (oConvInt .u16 (sel 22))),
        iOp (put 24) (.e (eCallF 30 [(sel 19), (sel 23)])),
        iOp (put 5) (.v false (oEv (sel 24)))])
      (sSeq (sRegion [iOp (put 25) (.v false (oEv (sel 5))),
         iOp (put 26) (.v false (oEv (sel 4))),
         iOp (put 27) (.e (eAppend 5 1 1 (sel 25) (sel 26))),
         iOp (put 28) (.e (eCallF 54 [(sel 27)])),
         iOp (put 2) (.v false (oEv (sel 28))),
         iOp (put 3) (.v false (oEv ⟨fun _ => .int .i64 0⟩))])
       (sEx .ret))))))⟩
theorem d31 : denF Try.prog 31 = some c31 := denF_of (by kernel_rfl)
/-- bollard/crc.Sum -/
noncomputable def c32 : CF := ⟨12, [.tmp (sel 4)],
  sSeq (sRegion [iOp (put 4) (.v false (oEv ⟨fun _ => .int .u32 0⟩))])
  (sSeq (sSeq (sRegion [iOp (put 5) (.v false (oEv (sel 0))),
      iOp (put 6) (.v false (oLenS (sel 5))),
      iOp (put 7) (.v false (oNe (.one 1) (sel 6) ⟨fun _ => .int .i64 256⟩))])
    (sCond (sel 7)
      (sSeq (sRegion [iOp (put 4) (.v false (oEv ⟨fun _ => .int .u32 0⟩))])
       (sEx .ret))
      (sEx .normal)))
   (sSeq (sRegion [iOp (put 8) (.v false (oEv (sel 0))),
      iOp (put 9) (.v false (oEv (sel 1))),
      iOp (put 10) (.e (eCallF 55 [(sel 8), ⟨fun _ => .int .u32 4294967295⟩, (sel 9)])),
      iOp (put 11) (.v false (oCom (sel 10))),
      iOp (put 4) (.v false (oEv (sel 11)))])
    (sEx .ret)))⟩
theorem d32 : denF Try.prog 32 = some c32 := denF_of (by kernel_rfl)
noncomputable def c33_0 : Vm.Sem := sSeq (sSeq (sRegion [iOp (put 4) (.v false (oEv (sel 3))),
    iOp (put 5) (.v false (oEv (sel 0))),
    iOp (put 6) (.v false (oLenS (sel 5))),
    iOp (put 7) (.v false (oInt2 fLss (sel 4) (sel 6)))])
  (sCond (sel 7)
    (sEx .normal)
    (sEx (.exit 0))))
 (sSeq (sBlock 1 (sSeq (sRegion [iOp (put 10) (.v false (oEv (sel 0))),
      iOp (put 11) (.v false (oEv (sel 3))),
      iOp (put 12) (.v false (oIndexAddrS 12 (sel 10) (sel 11))),
      iOp (put 13) (.v false (oFieldAddr 0 (sel 12))),
      iOp (put 14) (.v true (oLoad1 (sel 13))),
      iOp (put 15) (.e (eCallF 19 [(sel 14)])),
      iOp (put 16) (.v false (oEv (sel 15))),
      iGuard (sel 16) true (put 17) (iOp (put 17) (.v false (oEv (sel 0)))),
      iGuard (sel 16) true (put 18) (iOp (put 18) (.v false (oLenS (sel 17)))),
      iGuard (sel 16) true (put 19) (iOp (put 19) (.v false (oInt2 fGtr (sel 18) ⟨fun _ => .int .i64 1⟩))),
      iOp (put 20) (.v false (oPick (sel 16) (sel 19) ⟨fun _ => .bool false⟩))])
    (sCond (sel 20)
      (sSeq (sRegion [iOp (put 2) (.v false (oEv ⟨fun _ => .bool false⟩))])
       (sEx .ret))
      (sEx .normal))))
  (sRegion [iOp (put 8) (.v false (oEv (sel 3))),
    iOp (put 9) (.v false (oInt2 fAdd (sel 8) ⟨fun _ => .int .i64 1⟩)),
    iOp (put 3) (.v false (oEv (sel 9)))]))
/-- bollard/bollardref08.right -/
noncomputable def c33 : CF := ⟨21, [.tmp (sel 2)],
  sSeq (sRegion [iOp (put 2) (.v false (oEv ⟨fun _ => .bool false⟩))])
  (sSeq (sSeq (sRegion [iOp (put 3) (.v false (oEv ⟨fun _ => .int .i64 0⟩))])
    (sBlock 0 (sLoop c33_0)))
   (sSeq (sRegion [iOp (put 2) (.v false (oEv ⟨fun _ => .bool true⟩))])
    (sEx .ret)))⟩
theorem d33 : denF Try.prog 33 = some c33 := denF_of (by kernel_rfl)
noncomputable def c34_0 : Vm.Sem := sSeq (sSeq (sRegion [iOp (put 14) (.v false (oEv (sel 8))),
    iOp (put 15) (.v false (oInt2 fGeq (sel 14) ⟨fun _ => .int .i64 0⟩))])
  (sCond (sel 15)
    (sEx .normal)
    (sEx (.exit 0))))
 (sSeq (sBlock 1 (sRegion [iOp (put 18) (.v false (oEv (sel 7))),
     iOp (put 19) (.v false (oEv (sel 1))),
     iOp (put 20) (.v false (oEv (sel 8))),
     iOp (put 21) (.v false (oInt2 fMul ⟨fun _ => .int .i64 8⟩ (sel 20))),
     iOp (put 22) (.v false (oConvInt .u64 (sel 21))),
     iOp (put 23) (.v false (oSh fShr (sel 19) (sel 22))),
     iOp (put 24) (.v false (oConvInt .u8 (sel 23))),
     iOp (put 25) (.a (aBuildSlice 5 1 (rep 1 [.int .u8 0]) [(0, 1, (sel 24))])),
     iOp (put 26) (.e (eAppend 5 1 1 (sel 18) (sel 25))),
     iOp (put 7) (.v false (oEv (sel 26)))]))
  (sRegion [iOp (put 16) (.v false (oEv (sel 8))),
    iOp (put 17) (.v false (oInt2 fSub (sel 16) ⟨fun _ => .int .i64 1⟩)),
    iOp (put 8) (.v false (oEv (sel 17)))]))
/-- bollard/bollardref01.Put -/
noncomputable def c34 : CF := ⟨28, [.tmp (sel 6)],
  sSeq (sRegion [iOp (put 6) (.v false (oEv ⟨fun _ => .slice none 0 0⟩))])
  (sSeq (sRegion [iOp (put 7) (.v false (oEv ⟨fun _ => .slice none 0 0⟩))])
   (sSeq (sRegion [iOp (put 9) (.v false (oEv (sel 7))),
      iOp (put 10) (.v false (oEv (sel 0))),
      iOp (put 11) (.e (eAppend 5 1 1 (sel 9) (sel 10))),
      iOp (put 7) (.v false (oEv (sel 11)))])
    (sSeq (sSeq (sRegion [iOp (put 12) (.v false (oEv (sel 2))),
        iOp (put 13) (.v false (oInt2 fSub (sel 12) ⟨fun _ => .int .i64 1⟩)),
        iOp (put 8) (.v false (oEv (sel 13)))])
      (sBlock 0 (sLoop c34_0)))
     (sSeq (sRegion [iOp (put 27) (.v false (oEv (sel 7))),
        iOp (put 6) (.v false (oEv (sel 27)))])
      (sEx .ret)))))⟩
theorem d34 : denF Try.prog 34 = some c34 := denF_of (by kernel_rfl)
noncomputable def c35_0 : Vm.Sem := sSeq (sSeq (sRegion [iOp (put 77) (.v false (oEv (sel 7))),
    iOp (put 78) (.v false (oFieldAddr 7 (sel 1))),
    iOp (put 79) (.v true (oLoad1 (sel 78))),
    iOp (put 80) (.v false (oLenS (sel 79))),
    iOp (put 81) (.v false (oInt2 fLss (sel 77) (sel 80)))])
  (sCond (sel 81)
    (sEx .normal)
    (sEx (.exit 3))))
 (sSeq (sBlock 4 (sDr [iOp (put 84) (.v false (oEv (sel 4))),
     iOp (put 85) (.v false (oFieldAddr 7 (sel 1))),
     iOp (put 86) (.v true (oLoad1 (sel 85))),
     iOp (put 87) (.v false (oEv (sel 7))),
     iOp (put 88) (.v false (oIndexAddrS 2 (sel 86) (sel 87))),
     iOp (put 89) (.v false (oFieldAddr 0 (sel 88))),
     iOp (put 90) (.v true (oLoad1 (sel 89))),
     iOp (put 91) (.v false (oConvInt .u32 (sel 90))),
     iOp (put 92) (.e (eCallF 34 [(sel 84), (sel 91), ⟨fun _ => .int .i64 2⟩])),
     iOp (put 93) (.v false (oFieldAddr 7 (sel 1))),
     iOp (put 94) (.v true (oLoad1 (sel 93))),
     iOp (put 95) (.v false (oEv (sel 7))),
     iOp (put 96) (.v false (oIndexAddrS 2 (sel 94) (sel 95))),
     iOp (put 97) (.v false (oFieldAddr 1 (sel 96))),
     iOp (put 98) (.v true (oLoad1 (sel 97))),
     iOp (put 99) (.v false (oConvInt .u32 (sel 98))),
     iOp (put 100) (.e (eCallF 34 [(sel 92), (sel 99), ⟨fun _ => .int .i64 2⟩])),
     iOp (put 4) (.v false (oEv (sel 100)))]
     [(10, none, (oLoad1 (sel 93)), [0, 9]), (14, none, (oLoad1 (sel 97)), [0, 9])]))
  (sRegion [iOp (put 82) (.v false (oEv (sel 7))),
    iOp (put 83) (.v false (oInt2 fAdd (sel 82) ⟨fun _ => .int .i64 1⟩)),
    iOp (put 7) (.v false (oEv (sel 83)))]))
noncomputable def c35_1 : Vm.Sem := sSeq (sSeq (sRegion [iOp (put 101) (.v false (oEv (sel 8))),
    iOp (put 102) (.v false (oFieldAddr 8 (sel 1))),
    iOp (put 103) (.v true (oLoad1 (sel 102))),
    iOp (put 104) (.v false (oLenS (sel 103))),
    iOp (put 105) (.v false (oInt2 fLss (sel 101) (sel 104)))])
  (sCond (sel 105)
    (sEx .normal)
    (sEx (.exit 5))))
 (sSeq (sBlock 6 (sRegion [iOp (put 108) (.v false (oEv (sel 4))),
     iOp (put 109) (.v false (oFieldAddr 8 (sel 1))),
     iOp (put 110) (.v true (oLoad1 (sel 109))),
     iOp (put 111) (.v false (oEv (sel 8))),
     iOp (put 112) (.v false (oIndexAddrS 1 (sel 110) (sel 111))),
     iOp (put 113) (.v true (oLoad1 (sel 112))),
     iOp (put 114) (.e (eCallF 34 [(sel 108), (sel 113), ⟨fun _ => .int .i64 4⟩])),
     iOp (put 4) (.v false (oEv (sel 114)))]))
  (sRegion [iOp (put 106) (.v false (oEv (sel 8))),
    iOp (put 107) (.v false (oInt2 fAdd (sel 106) ⟨fun _ => .int .i64 1⟩)),
    iOp (put 8) (.v false (oEv (sel 107)))]))
noncomputable def c35_2 : Vm.Sem := sSeq (sSeq (sRegion [iOp (put 117) (.v false (oEv (sel 9))),
    iOp (put 118) (.v false (oFieldAddr 9 (sel 1))),
    iOp (put 119) (.v true (oLoad1 (sel 118))),
    iOp (put 120) (.v false (oLenS (sel 119))),
    iOp (put 121) (.v false (oInt2 fLss (sel 117) (sel 120)))])
  (sCond (sel 121)
    (sEx .normal)
    (sEx (.exit 7))))
 (sSeq (sBlock 8 (sDr [iOp (put 124) (.v false (oEv (sel 4))),
     iOp (put 125) (.v false (oFieldAddr 9 (sel 1))),
     iOp (put 126) (.v true (oLoad1 (sel 125))),
     iOp (put 127) (.v false (oEv (sel 9))),
     iOp (put 128) (.v false (oIndexAddrS 2 (sel 126) (sel 127))),
     iOp (put 129) (.v false (oFieldAddr 0 (sel 128))),
     iOp (put 130) (.v true (oLoad1 (sel 129))),
     iOp (put 131) (.v false (oConvInt .u32 (sel 130))),
     iOp (put 132) (.e (eCallF 34 [(sel 124), (sel 131), ⟨fun _ => .int .i64 2⟩])),
     iOp (put 133) (.v false (oFieldAddr 9 (sel 1))),
     iOp (put 134) (.v true (oLoad1 (sel 133))),
     iOp (put 135) (.v false (oEv (sel 9))),
     iOp (put 136) (.v false (oIndexAddrS 2 (sel 134) (sel 135))),
     iOp (put 137) (.v false (oFieldAddr 1 (sel 136))),
     iOp (put 138) (.v true (oLoad1 (sel 137))),
     iOp (put 139) (.v false (oConvInt .u32 (sel 138))),
     iOp (put 140) (.e (eCallF 34 [(sel 132), (sel 139), ⟨fun _ => .int .i64 2⟩])),
     iOp (put 4) (.v false (oEv (sel 140)))]
     [(10, none, (oLoad1 (sel 133)), [0, 9]), (14, none, (oLoad1 (sel 137)), [0, 9])]))
  (sRegion [iOp (put 122) (.v false (oEv (sel 9))),
    iOp (put 123) (.v false (oInt2 fAdd (sel 122) ⟨fun _ => .int .i64 1⟩)),
    iOp (put 9) (.v false (oEv (sel 123)))]))
noncomputable def c35_3 : Vm.Sem := sSeq (sSeq (sRegion [iOp (put 19) (.v false (oEv (sel 6))),
    iOp (put 20) (.v false (oEv (sel 5))),
    iOp (put 21) (.v false (oLenStr (sel 20))),
    iOp (put 22) (.v false (oInt2 fLss (sel 19) (sel 21)))])
  (sCond (sel 22)
    (sEx .normal)
    (sEx (.exit 0))))
 (sSeq (sBlock 1 (sSeq (sRegion [iOp (put 25) (.v false (oEv (sel 5))),
      iOp (put 26) (.v false (oEv (sel 6))),
      iOp (put 27) (.v false (oIndexS (sel 25) (sel 26)))])
    (sBlock 2 (sSeq (sRegion [iOp (put 33) (.v false (oEq (.one 1) (sel 27) ⟨fun _ => .int .u8 65⟩)),
        iOp (put 32) (.v false (oEv (sel 33)))])
      (sCond (sel 32)
        (sRegion [iOp (put 34) (.v false (oEv (sel 4))),
          iOp (put 35) (.v false (oFieldAddr 2 (sel 1))),
          iOp (put 36) (.v true (oLoad1 (sel 35))),
          iOp (put 37) (.e (eCallF 34 [(sel 34), (sel 36), ⟨fun _ => .int .i64 4⟩])),
          iOp (put 4) (.v false (oEv (sel 37)))])
        (sSeq (sRegion [iOp (put 39) (.v false (oEq (.one 1) (sel 27) ⟨fun _ => .int .u8 66⟩)),
           iOp (put 38) (.v false (oEv (sel 39)))])
         (sCond (sel 38)
           (sRegion [iOp (put 40) (.v false (oEv (sel 4))),
             iOp (put 41) (.v false (oFieldAddr 3 (sel 1))),
             iOp (put 42) (.v true (oLoad1 (sel 41))),
             iOp (put 43) (.e (eCallF 34 [(sel 40), (sel 42), ⟨fun _ => .int .i64 4⟩])),
             iOp (put 4) (.v false (oEv (sel 43)))])
           (sSeq (sRegion [iOp (put 45) (.v false (oEq (.one 1) (sel 27) ⟨fun _ => .int .u8 79⟩)),
              iOp (put 44) (.v false (oEv (sel 45)))])
            (sCond (sel 44)
              (sRegion [iOp (put 46) (.v false (oEv (sel 4))),
                iOp (put 47) (.v false (oFieldAddr 4 (sel 1))),
                iOp (put 48) (.v true (oLoad1 (sel 47))),
                iOp (put 49) (.v false (oConvInt .u32 (sel 48))),
                iOp (put 50) (.e (eCallF 34 [(sel 46), (sel 49), ⟨fun _ => .int .i64 2⟩])),
                iOp (put 4) (.v false (oEv (sel 50)))])
              (sSeq (sRegion [iOp (put 52) (.v false (oEq (.one 1) (sel 27) ⟨fun _ => .int .u8 73⟩)),
                 iOp (put 51) (.v false (oEv (sel 52)))])
               (sCond (sel 51)
                 (sRegion [iOp (put 53) (.v false (oEv (sel 4))),
                   iOp (put 54) (.v false (oFieldAddr 5 (sel 1))),
                   iOp (put 55) (.v true (oLoad1 (sel 54))),
                   iOp (put 56) (.v false (oConvInt .u32 (sel 55))),
                   iOp (put 57) (.e (eCallF 34 [(sel 53), (sel 56), ⟨fun _ => .int .i64 2⟩])),
                   iOp (put 4) (.v false (oEv (sel 57)))])
                 (sSeq (sRegion [iOp (put 59) (.v false (oEq (.one 1) (sel 27) ⟨fun _ => .int .u8 80⟩)),
                    iOp (put 58) (.v false (oEv (sel 59)))])
                  (sCond (sel 58)
                    (sRegion [iOp (put 60) (.v false (oEv (sel 4))),
                      iOp (put 61) (.v false (oFieldAddr 6 (sel 1))),
                      iOp (put 62) (.v true (oLoad1 (sel 61))),
                      iOp (put 63) (.e (eCallF 34 [(sel 60), (sel 62), ⟨fun _ => .int .i64 4⟩])),
                      iOp (put 4) (.v false (oEv (sel 63)))])
                    (sSeq (sRegion [iOp (put 65) (.v false (oEq (.one 1) (sel 27) ⟨fun _ => .int .u8 67⟩)),
                       iOp (put 64) (.v false (oEv (sel 65)))])
                     (sCond (sel 64)
                       (sSeq (sDr [iOp (put 66) (.v false (oEv (sel 4))),
                          iOp (put 67) (.v false (oFieldAddr 7 (sel 1))),
                          iOp (put 68) (.v true (oLoad1 (sel 67))),
                          iOp (put 69) (.v false (oLenS (sel 68))),
                          iOp (put 70) (.v false (oConvInt .u32 (sel 69))),
                          iOp (put 71) (.e (eCallF 34 [(sel 66), (sel 70), ⟨fun _ => .int .i64 2⟩])),
                          iOp (put 72) (.v false (oFieldAddr 8 (sel 1))),
                          iOp (put 73) (.v true (oLoad1 (sel 72))),
                          iOp (put 74) (.v false (oLenS (sel 73))),
                          iOp (put 75) (.v false (oConvInt .u32 (sel 74))),
                          iOp (put 76) (.e (eCallF 34 [(sel 71), (sel 75), ⟨fun _ => .int .i64 2⟩])),
                          iOp (put 4) (.v false (oEv (sel 76)))]
                          [(7, none, (oLoad1 (sel 72)), [0, 6])])
                        (sSeq (sSeq (sRegion [iOp (put 7) (.v false (oEv ⟨fun _ => .int .i64 0⟩))])
                          (sBlock 3 (sLoop c35_0)))
                         (sSeq (sRegion [iOp (put 8) (.v false (oEv ⟨fun _ => .int .i64 0⟩))])
                          (sBlock 5 (sLoop c35_1)))))
                       (sSeq (sRegion [iOp (put 116) (.v false (oEq (.one 1) (sel 27) ⟨fun _ => .int .u8 83⟩)),
                          iOp (put 115) (.v false (oEv (sel 116)))])
                        (sCond (sel 115)
                          (sSeq (sRegion [iOp (put 9) (.v false (oEv ⟨fun _ => .int .i64 0⟩))])
                           (sBlock 7 (sLoop c35_2)))
                          (sSeq (sRegion [iOp (put 142) (.v false (oEq (.one 1) (sel 27) ⟨fun _ => .int .u8 84⟩)),
                             iOp (put 141) (.v false (oEv (sel 142)))])
                           (sCond (sel 141)
                             (sSeq (sRegion [iOp (put 144) (.v false (oFieldAddr 10 (sel 1))),
                                iOp (put 145) (.v true (oLoad1 (sel 144))),
                                iOp (put 146) (.e (eCallF 57 [(sel 145)])),
                                iOp (put 143) (.v false (oEv (sel 146))),
                                iOp (put 147) (.v false (oExtract (sel 143) 0)),
                                iOp (put 148) (.v false (oExtract (sel 143) 1)),
                                iOp (put 10) (.v false (oEv (sel 147))),
                                iOp (put 11) (.v false (oEv (sel 148)))])
                              (sRegion [iOp (put 149) (.v false (oEv (sel 4))),
                                iOp (put 150) (.v false (oEv (sel 10))),
                                iOp (put 151) (.e (eAppend 5 1 1 (sel 149) (sel 150))),
                                iOp (put 4) (.v false (oEv (sel 151)))]))
                             (sRegion [iOp (put 28) (.v false (oEv (sel 4))),
                               iOp (put 29) (.v false (oFieldAddr 11 (sel 1))),
                               iOp (put 30) (.v true (oLoad1 (sel 29))),
                               iOp (put 31) (.e (eAppend 5 1 1 (sel 28) (sel 30))),
                               iOp (put 4) (.v false (oEv (sel 31)))]))))))))))))))))))))
  (sRegion [iOp (put 23) (.v false (oEv (sel 6))),
    iOp (put 24) (.v false (oInt2 fAdd (sel 23) ⟨fun _ => .int .i64 1⟩)),
    iOp (put 6) (.v false (oEv (sel 24)))]))
/-- bollard/bollardref07.Encode -/
noncomputable def c35 : CF := ⟨171, [.tmp (sel 2), .tmp (sel 3)],
  sSeq (sRegion [iOp (put 1) (.a (aBox 33 (sel 0))),
    iOp (put 2) (.v false (oEv ⟨fun _ => .slice none 0 0⟩)),
    iOp (put 3) (.v false (oEv ⟨fun _ => .int .i64 0⟩))])
  (sSeq (sSeq (sRegion [iOp (put 13) (.v true (oLoadN 12 (sel 1))),
      iOp (put 14) (.e (eCallF 41 [(sel 13)])),
      iOp (put 15) (.v false (oNot (sel 14)))])
    (sCond (sel 15)
      (sSeq (sRegion [iOp (put 2) (.v false (oEv ⟨fun _ => .slice none 0 0⟩)),
         iOp (put 3) (.v false (oEv ⟨fun _ => .int .i64 1⟩))])
       (sEx .ret))
      (sEx .normal)))
   (sSeq (sRegion [iOp (put 4) (.v false (oEv ⟨fun _ => .slice none 0 0⟩))])
    (sSeq (sRegion [iOp (put 16) (.v false (oFieldAddr 0 (sel 1))),
       iOp (put 17) (.v true (oLoad1 (sel 16))),
       iOp (put 18) (.e (eCallF 56 [(sel 17)])),
       iOp (put 5) (.v false (oEv (sel 18)))])
     (sSeq (sSeq (sRegion [iOp (put 6) (.v false (oEv ⟨fun _ => .int .i64 0⟩))])
       (sBlock 0 (sLoop c35_3)))
      (sSeq (sSeq (sRegion [iOp (put 152) (.v false (oEv (sel 4))),
          iOp (put 153) (.v false (oLenS (sel 152))),
          iOp (put 154) (.v false (oInt2 fAdd ⟨fun _ => .int .i64 4⟩ (sel 153))),
          iOp (put 155) (.v false (oInt2 fGtr (sel 154) ⟨fun _ => .int .i64 65535⟩))])
        (sCond (sel 155)
          (sSeq (sRegion [iOp (put 2) (.v false (oEv ⟨fun _ => .slice none 0 0⟩)),
             iOp (put 3) (.v false (oEv ⟨fun _ => .int .i64 10⟩))])
           (sEx .ret))
          (sEx .normal)))
       (sSeq (sRegion [iOp (put 156) (.v false (oFieldAddr 0 (sel 1))),
          iOp (put 157) (.v true (oLoad1 (sel 156))),
          iOp (put 158) (.v false (oFieldAddr 1 (sel 1))),
          iOp (put 159) (.v true (oLoad1 (sel 158))),
          iOp (put 160) (.a (aBuildSlice 5 2 (rep 2 [.int .u8 0]) [(0, 1, (sel 157)), (1, 1, (sel 159))])),
          iOp (put 161) (.v false (oEv (sel 4))),
          iOp (put 162) (.v false (oLenS (sel 161))),
          iOp (put 163) (.v false (oInt2 fAdd ⟨fun _ => .int .i64 4⟩ (sel 162))),
          iOp (put 164) (.v false (oConvInt .u32 (sel 163))),
          iOp (put 165) (.e (eCallF 34 [(sel 160), (sel 164), ⟨fun _ => .int .i64 2⟩])),
          iOp (put 12) (.v false (oEv (sel 165)))])
        (sSeq (sRegion [iOp (put 166) (.v false (oEv (sel 12))),
           iOp (put 167) (.v false (oEv (sel 4))),
           iOp (put 168) (.e (eAppend 5 1 1 (sel 166) (sel 167))),
           iOp (put 12) (.v false (oEv (sel 168)))])
         (sSeq (sRegion [iOp (put 169) (.v false (oEv (sel 12))),
            iOp (put 170) (.e (eCallF 58 [(sel 169)])),
            iOp (put 2) (.v false (oEv (sel 170))),
            iOp (put 3) (.v false (oEv ⟨fun _ => .int .i64 0⟩))])
          (sEx .ret)))))))))⟩
theorem d35 : denF Try.prog 35 = some c35 := denF_of (by kernel_rfl)
/-- bollard/bollardref08.sum -/
noncomputable def c36 : CF := ⟨9, [.tmp (sel 4)],
  sSeq (sRegion [iOp (put 4) (.v false (oEv ⟨fun _ => .int .u32 0⟩))])
  (sSeq (sRegion [iOp (put 5) (.v false (oEv (sel 0))),
     iOp (put 6) (.v false (oEv (sel 1))),
     iOp (put 7) (.e (eCallF 59 [(sel 5), ⟨fun _ => .int .u32 4294967295⟩, (sel 6)])),
     iOp (put 8) (.v false (oInt2 fXor (sel 7) ⟨fun _ => .int .u32 4294967295⟩)),
     iOp (put 4) (.v false (oEv (sel 8)))])
   (sEx .ret))⟩
theorem d36 : denF Try.prog 36 = some c36 := denF_of (by kernel_rfl)
/-- bollard/bollardref08.low -/
noncomputable def c37 : CF := ⟨15, [.tmp (sel 2)],
  sSeq (sRegion [iOp (put 2) (.v false (oEv ⟨fun _ => .slice none 0 0⟩))])
  (sSeq (sRegion [iOp (put 3) (.v false (oEv (sel 0))),
     iOp (put 4) (.v false (oConvInt .u8 (sel 3))),
     iOp (put 5) (.v false (oEv (sel 0))),
     iOp (put 6) (.v false (oSh fShr (sel 5) ⟨fun _ => .int .u64 8⟩)),
     iOp (put 7) (.v false (oConvInt .u8 (sel 6))),
     iOp (put 8) (.v false (oEv (sel 0))),
     iOp (put 9) (.v false (oSh fShr (sel 8) ⟨fun _ => .int .u64 16⟩)),
     iOp (put 10) (.v false (oConvInt .u8 (sel 9))),
     iOp (put 11) (.v false (oEv (sel 0))),
     iOp (put 12) (.v false (oSh fShr (sel 11) ⟨fun _ => .int .u64 24⟩)),
     iOp (put 13) (.v false (oConvInt .u8 (sel 12))),
     iOp (put 14) (.a (aBuildSlice 5 4 (rep 4 [.int .u8 0]) [(0, 1, (sel 4)), (1, 1, (sel 7)), (2, 1, (sel 10)), (3, 1, (sel 13))])),
     iOp (put 2) (.v false (oEv (sel 14)))])
   (sEx .ret))⟩
theorem d37 : denF Try.prog 37 = some c37 := denF_of (by kernel_rfl)
/-- bollard/packet.Bundle$1 -/
noncomputable def c38 : CF := ⟨6, [.tmp (sel 2)],
  sSeq (sRegion [iOp (put 1) (.a (aBox 33 (sel 0))),
    iOp (put 2) (.v false (oEv ⟨fun _ => .bool false⟩))])
  (sSeq (sRegion [iOp (put 3) (.v true (oLoadN 12 (sel 1))),
     iOp (put 4) (.e (eCallF 16 [(sel 3)])),
     iOp (put 5) (.v false (oInt2 fGtr (sel 4) ⟨fun _ => .int .i64 1188⟩)),
     iOp (put 2) (.v false (oEv (sel 5)))])
   (sEx .ret))⟩
theorem d38 : denF Try.prog 38 = some c38 := denF_of (by kernel_rfl)
/-- slices.Collect[[]bollard/api.Chunk] -/
noncomputable def c39 : CF := ⟨5, [.tmp (sel 2)],
  sSeq (sRegion [iOp (put 2) (.v false (oEv ⟨fun _ => .slice none 0 0⟩))])
  (sSeq (sRegion [iOp (put 3) (.v false (oEv (sel 0))),
     iOp (put 4) (.e (eCallF 60 [⟨fun _ => .slice none 0 0⟩, (sel 3)])),
     iOp (put 2) (.v false (oEv (sel 4)))])
   (sEx .ret))⟩
theorem d39 : denF Try.prog 39 = some c39 := denF_of (by kernel_rfl)
/-- bollard/packet.groups -/
noncomputable def c40 : CF := ⟨4, [.tmp (sel 2)],
  sSeq (sRegion [iOp (put 1) (.a (aBox 25 (sel 0))),
    iOp (put 2) (.v false (oEv ⟨fun _ => .nilFunc⟩))])
  (sSeq (sRegion [iOp (put 3) (.v false (oFunc (.func 61) [] [(sel 1)])),
     iOp (put 2) (.v false (oEv (sel 3)))])
   (sEx .ret))⟩
theorem d40 : denF Try.prog 40 = some c40 := denF_of (by kernel_rfl)
/-- bollard/bollardref07.Shaped -/
noncomputable def c41 : CF := ⟨146, [.tmp (sel 2)],
  sSeq (sRegion [iOp (put 1) (.a (aBox 33 (sel 0))),
    iOp (put 2) (.v false (oEv ⟨fun _ => .bool false⟩))])
  (sSeq (sRegion [iOp (put 6) (.v false (oFieldAddr 0 (sel 1))),
     iOp (put 7) (.v true (oLoad1 (sel 6))),
     iOp (put 8) (.e (eCallF 56 [(sel 7)])),
     iOp (put 3) (.v false (oEv (sel 8)))])
   (sSeq (sSeq (sRegion [iOp (put 9) (.v false (oEv (sel 3))),
       iOp (put 10) (.e (eCallF 63 [(sel 9), ⟨fun _ => .int .u8 65⟩])),
       iOp (put 11) (.v false (oNot (sel 10))),
       iOp (put 12) (.v false (oEv (sel 11))),
       iGuard (sel 12) true (put 13) (iOp (put 13) (.v false (oFieldAddr 2 (sel 1)))),
       iGuard (sel 12) true (put 14) (iOp (put 14) (.v true (oLoad1 (sel 13)))),
       iGuard (sel 12) true (put 15) (iOp (put 15) (.v false (oNe (.one 1) (sel 14) ⟨fun _ => .int .u32 0⟩))),
       iOp (put 16) (.v false (oPick (sel 12) (sel 15) ⟨fun _ => .bool false⟩)),
       iOp (put 17) (.v false (oEv (sel 16))),
       iGuard (sel 17) false (put 18) (iOp (put 18) (.v false (oEv (sel 3)))),
       iGuard (sel 17) false (put 19) (iOp (put 19) (.e (eCallF 63 [(sel 18), ⟨fun _ => .int .u8 66⟩]))),
       iGuard (sel 17) false (put 20) (iOp (put 20) (.v false (oNot (sel 19)))),
       iGuard (sel 17) false (put 21) (iOp (put 21) (.v false (oEv (sel 20)))),
       iGuard (sel 21) true (put 22) (iOp (put 22) (.v false (oFieldAddr 3 (sel 1)))),
       iGuard (sel 21) true (put 23) (iOp (put 23) (.v true (oLoad1 (sel 22)))),
       iGuard (sel 21) true (put 24) (iOp (put 24) (.v false (oNe (.one 1) (sel 23) ⟨fun _ => .int .u32 0⟩))),
       iGuard (sel 17) false (put 25) (iOp (put 25) (.v false (oPick (sel 21) (sel 24) ⟨fun _ => .bool false⟩))),
       iOp (put 26) (.v false (oPick (sel 17) ⟨fun _ => .bool true⟩ (sel 25))),
       iOp (put 27) (.v false (oEv (sel 26))),
       iGuard (sel 27) false (put 28) (iOp (put 28) (.v false (oEv (sel 3)))),
       iGuard (sel 27) false (put 29) (iOp (put 29) (.e (eCallF 63 [(sel 28), ⟨fun _ => .int .u8 79⟩]))),
       iGuard (sel 27) false (put 30) (iOp (put 30) (.v false (oNot (sel 29)))),
       iGuard (sel 27) false (put 31) (iOp (put 31) (.v false (oEv (sel 30)))),
       iGuard (sel 31) true (put 32) (iOp (put 32) (.v false (oFieldAddr 4 (sel 1)))),
       iGuard (sel 31) true (put 33) (iOp (put 33) (.v true (oLoad1 (sel 32)))),
       iGuard (sel 31) true (put 34) (iOp (put 34) (.v false (oNe (.one 1) (sel 33) ⟨fun _ => .int .u16 0⟩))),
       iGuard (sel 27) false (put 35) (iOp (put 35) (.v false (oPick (sel 31) (sel 34) ⟨fun _ => .bool false⟩))),
       iOp (put 36) (.v false (oPick (sel 27) ⟨fun _ => .bool true⟩ (sel 35))),
       iOp (put 37) (.v false (oEv (sel 36))),
       iGuard (sel 37) false (put 38) (iOp (put 38) (.v false (oEv (sel 3)))),
       iGuard (sel 37) false (put 39) (iOp (put 39) (.e (eCallF 63 [(sel 38), ⟨fun _ => .int .u8 73⟩]))),
       iGuard (sel 37) false (put 40) (iOp (put 40) (.v false (oNot (sel 39)))),
       iGuard (sel 37) false (put 41) (iOp (put 41) (.v false (oEv (sel 40)))),
       iGuard (sel 41) true (put 42) (iOp (put 42) (.v false (oFieldAddr 5 (sel 1)))),
       iGuard (sel 41) true (put 43) (iOp (put 43) (.v true (oLoad1 (sel 42)))),
       iGuard (sel 41) true (put 44) (iOp (put 44) (.v false (oNe (.one 1) (sel 43) ⟨fun _ => .int .u16 0⟩))),
       iGuard (sel 37) false (put 45) (iOp (put 45) (.v false (oPick (sel 41) (sel 44) ⟨fun _ => .bool false⟩))),
       iOp (put 46) (.v false (oPick (sel 37) ⟨fun _ => .bool true⟩ (sel 45))),
       iOp (put 47) (.v false (oEv (sel 46))),
       iGuard (sel 47) false (put 48) (iOp (put 48) (.v false (oEv (sel 3)))),
       iGuard (sel 47) false (put 49) (iOp (put 49) (.e (eCallF 63 [(sel 48), ⟨fun _ => .int .u8 80⟩]))),
       iGuard (sel 47) false (put 50) (iOp (put 50) (.v false (oNot (sel 49)))),
       iGuard (sel 47) false (put 51) (iOp (put 51) (.v false (oEv (sel 50)))),
       iGuard (sel 51) true (put 52) (iOp (put 52) (.v false (oFieldAddr 6 (sel 1)))),
       iGuard (sel 51) true (put 53) (iOp (put 53) (.v true (oLoad1 (sel 52)))),
       iGuard (sel 51) true (put 54) (iOp (put 54) (.v false (oNe (.one 1) (sel 53) ⟨fun _ => .int .u32 0⟩))),
       iGuard (sel 47) false (put 55) (iOp (put 55) (.v false (oPick (sel 51) (sel 54) ⟨fun _ => .bool false⟩))),
       iOp (put 56) (.v false (oPick (sel 47) ⟨fun _ => .bool true⟩ (sel 55)))])
     (sCond (sel 56)
       (sSeq (sRegion [iOp (put 2) (.v false (oEv ⟨fun _ => .bool false⟩))])
        (sEx .ret))
       (sEx .normal)))
    (sSeq (sSeq (sRegion [iOp (put 57) (.v false (oEv (sel 3))),
        iOp (put 58) (.e (eCallF 63 [(sel 57), ⟨fun _ => .int .u8 67⟩])),
        iOp (put 59) (.v false (oNot (sel 58))),
        iOp (put 60) (.v false (oEv (sel 59))),
        iGuard (sel 60) true (put 61) (iOp (put 61) (.v false (oFieldAddr 7 (sel 1)))),
        iGuard (sel 60) true (put 62) (iOp (put 62) (.v true (oLoad1 (sel 61)))),
        iGuard (sel 60) true (put 63) (iOp (put 63) (.v false (oLenS (sel 62)))),
        iGuard (sel 60) true (put 64) (iOp (put 64) (.v false (oFieldAddr 8 (sel 1)))),
        iGuard (sel 60) true (put 65) (iOp (put 65) (.v true (oLoad1 (sel 64)))),
        iGuard (sel 60) true (put 66) (iOp (put 66) (.v false (oLenS (sel 65)))),
        iGuard (sel 60) true (put 67) (iOp (put 67) (.v false (oInt2 fAdd (sel 63) (sel 66)))),
        iGuard (sel 60) true (put 68) (iOp (put 68) (.v false (oInt2 fGtr (sel 67) ⟨fun _ => .int .i64 0⟩))),
        iOp (put 69) (.v false (oPick (sel 60) (sel 68) ⟨fun _ => .bool false⟩)),
        iOp (put 70) (.v false (oEv (sel 69))),
        iGuard (sel 70) false (put 71) (iOp (put 71) (.v false (oEv (sel 3)))),
        iGuard (sel 70) false (put 72) (iOp (put 72) (.e (eCallF 63 [(sel 71), ⟨fun _ => .int .u8 83⟩]))),
        iGuard (sel 70) false (put 73) (iOp (put 73) (.v false (oNot (sel 72)))),
        iGuard (sel 70) false (put 74) (iOp (put 74) (.v false (oEv (sel 73)))),
        iGuard (sel 74) true (put 75) (iOp (put 75) (.v false (oFieldAddr 9 (sel 1)))),
        iGuard (sel 74) true (put 76) (iOp (put 76) (.v true (oLoad1 (sel 75)))),
        iGuard (sel 74) true (put 77) (iOp (put 77) (.v false (oLenS (sel 76)))),
        iGuard (sel 74) true (put 78) (iOp (put 78) (.v false (oInt2 fGtr (sel 77) ⟨fun _ => .int .i64 0⟩))),
        iGuard (sel 70) false (put 79) (iOp (put 79) (.v false (oPick (sel 74) (sel 78) ⟨fun _ => .bool false⟩))),
        iOp (put 80) (.v false (oPick (sel 70) ⟨fun _ => .bool true⟩ (sel 79))),
        iOp (put 81) (.v false (oEv (sel 80))),
        iGuard (sel 81) false (put 82) (iOp (put 82) (.v false (oEv (sel 3)))),
        iGuard (sel 81) false (put 83) (iOp (put 83) (.e (eCallF 63 [(sel 82), ⟨fun _ => .int .u8 84⟩]))),
        iGuard (sel 81) false (put 84) (iOp (put 84) (.v false (oNot (sel 83)))),
        iGuard (sel 81) false (put 85) (iOp (put 85) (.v false (oEv (sel 84)))),
        iGuard (sel 85) true (put 86) (iOp (put 86) (.v false (oFieldAddr 10 (sel 1)))),
        iGuard (sel 85) true (put 87) (iOp (put 87) (.v true (oLoad1 (sel 86)))),
        iGuard (sel 85) true (put 88) (iOp (put 88) (.v false (oLenS (sel 87)))),
        iGuard (sel 85) true (put 89) (iOp (put 89) (.v false (oInt2 fGtr (sel 88) ⟨fun _ => .int .i64 0⟩))),
        iGuard (sel 81) false (put 90) (iOp (put 90) (.v false (oPick (sel 85) (sel 89) ⟨fun _ => .bool false⟩))),
        iOp (put 91) (.v false (oPick (sel 81) ⟨fun _ => .bool true⟩ (sel 90))),
        iOp (put 92) (.v false (oEv (sel 91))),
        iGuard (sel 92) false (put 93) (iOp (put 93) (.v false (oEv (sel 3)))),
        iGuard (sel 92) false (put 94) (iOp (put 94) (.e (eCallF 63 [(sel 93), ⟨fun _ => .int .u8 68⟩]))),
        iGuard (sel 92) false (put 95) (iOp (put 95) (.v false (oNot (sel 94)))),
        iGuard (sel 92) false (put 96) (iOp (put 96) (.v false (oEv (sel 95)))),
        iGuard (sel 96) true (put 97) (iOp (put 97) (.v false (oFieldAddr 11 (sel 1)))),
        iGuard (sel 96) true (put 98) (iOp (put 98) (.v true (oLoad1 (sel 97)))),
        iGuard (sel 96) true (put 99) (iOp (put 99) (.v false (oLenS (sel 98)))),
        iGuard (sel 96) true (put 100) (iOp (put 100) (.v false (oInt2 fGtr (sel 99) ⟨fun _ => .int .i64 0⟩))),
        iGuard (sel 92) false (put 101) (iOp (put 101) (.v false (oPick (sel 96) (sel 100) ⟨fun _ => .bool false⟩))),
        iOp (put 102) (.v false (oPick (sel 92) ⟨fun _ => .bool true⟩ (sel 101)))])
      (sCond (sel 102)
        (sSeq (sRegion [iOp (put 2) (.v false (oEv ⟨fun _ => .bool false⟩))])
         (sEx .ret))
        (sEx .normal)))
     (sSeq (sRegion [iOp (put 104) (.v false (oFieldAddr 10 (sel 1))),
        iOp (put 105) (.v true (oLoad1 (sel 104))),
        iOp (put 106) (.e (eCallF 57 [(sel 105)])),
        iOp (put 103) (.v false (oEv (sel 106))),
        iOp (put 107) (.v false (oExtract (sel 103) 0)),
        iOp (put 108) (.v false (oExtract (sel 103) 1)),
        iOp (put 4) (.v false (oEv (sel 107))),
        iOp (put 5) (.v false (oEv (sel 108)))])
      (sSeq (sRegion [iOp (put 109) (.v false (oEv (sel 5))),
         iOp (put 110) (.v false (oEq (.one 1) (sel 109) ⟨fun _ => .int .i64 0⟩)),
         iOp (put 111) (.v false (oEv (sel 110))),
         iGuard (sel 111) true (put 112) (iOp (put 112) (.v false (oFieldAddr 7 (sel 1)))),
         iGuard (sel 111) true (put 113) (iOp (put 113) (.v true (oLoad1 (sel 112)))),
         iGuard (sel 111) true (put 114) (iOp (put 114) (.v false (oLenS (sel 113)))),
         iGuard (sel 111) true (put 115) (iOp (put 115) (.v false (oInt2 fLeq (sel 114) ⟨fun _ => .int .i64 64⟩))),
         iOp (put 116) (.v false (oPick (sel 111) (sel 115) ⟨fun _ => .bool false⟩)),
         iOp (put 117) (.v false (oEv (sel 116))),
         iGuard (sel 117) true (put 118) (iOp (put 118) (.v false (oFieldAddr 8 (sel 1)))),
         iGuard (sel 117) true (put 119) (iOp (put 119) (.v true (oLoad1 (sel 118)))),
         iGuard (sel 117) true (put 120) (iOp (put 120) (.v false (oLenS (sel 119)))),
         iGuard (sel 117) true (put 121) (iOp (put 121) (.v false (oInt2 fLeq (sel 120) ⟨fun _ => .int .i64 64⟩))),
         iOp (put 122) (.v false (oPick (sel 117) (sel 121) ⟨fun _ => .bool false⟩)),
         iOp (put 123) (.v false (oEv (sel 122))),
         iGuard (sel 123) true (put 124) (iOp (put 124) (.v false (oFieldAddr 9 (sel 1)))),
         iGuard (sel 123) true (put 125) (iOp (put 125) (.v true (oLoad1 (sel 124)))),
         iGuard (sel 123) true (put 126) (iOp (put 126) (.v false (oLenS (sel 125)))),
         iGuard (sel 123) true (put 127) (iOp (put 127) (.v false (oInt2 fLeq (sel 126) ⟨fun _ => .int .i64 64⟩))),
         iOp (put 128) (.v false (oPick (sel 123) (sel 127) ⟨fun _ => .bool false⟩)),
         iOp (put 129) (.v false (oEv (sel 128))),
         iGuard (sel 129) true (put 130) (iOp (put 130) (.v false (oFieldAddr 11 (sel 1)))),
         iGuard (sel 129) true (put 131) (iOp (put 131) (.v true (oLoad1 (sel 130)))),
         iGuard (sel 129) true (put 132) (iOp (put 132) (.v false (oLenS (sel 131)))),
         iGuard (sel 129) true (put 133) (iOp (put 133) (.v false (oInt2 fLeq (sel 132) ⟨fun _ => .int .i64 1200⟩))),
         iOp (put 134) (.v false (oPick (sel 129) (sel 133) ⟨fun _ => .bool false⟩)),
         iOp (put 135) (.v false (oEv (sel 134))),
         iGuard (sel 135) true (put 136) (iOp (put 136) (.v false (oFieldAddr 0 (sel 1)))),
         iGuard (sel 135) true (put 137) (iOp (put 137) (.v true (oLoad1 (sel 136)))),
         iGuard (sel 135) true (put 138) (iOp (put 138) (.v false (oNe (.one 1) (sel 137) ⟨fun _ => .int .u8 0⟩))),
         iGuard (sel 135) true (put 139) (iOp (put 139) (.v false (oEv (sel 138)))),
         iGuard (sel 139) false (put 140) (iOp (put 140) (.v false (oFieldAddr 11 (sel 1)))),
         iGuard (sel 139) false (put 141) (iOp (put 141) (.v true (oLoad1 (sel 140)))),
         iGuard (sel 139) false (put 142) (iOp (put 142) (.v false (oLenS (sel 141)))),
         iGuard (sel 139) false (put 143) (iOp (put 143) (.v false (oInt2 fGtr (sel 142) ⟨fun _ => .int .i64 0⟩))),
         iGuard (sel 135) true (put 144) (iOp (put 144) (.v false (oPick (sel 139) ⟨fun _ => .bool true⟩ (sel 143)))),
         iOp (put 145) (.v false (oPick (sel 135) (sel 144) ⟨fun _ => .bool false⟩)),
         iOp (put 2) (.v false (oEv (sel 145)))])
       (sEx .ret))))))⟩
theorem d41 : denF Try.prog 41 = some c41 := denF_of (by kernel_rfl)
noncomputable def c42_0 : Vm.Sem := sSeq (sSeq (sRegion [iOp (put 99) (.v false (oEv (sel 5))),
    iOp (put 100) (.v false (oFieldAddr 7 (sel 2))),
    iOp (put 101) (.v true (oLoad1 (sel 100))),
    iOp (put 102) (.v false (oLenS (sel 101))),
    iOp (put 103) (.v false (oInt2 fLss (sel 99) (sel 102)))])
  (sCond (sel 103)
    (sEx .normal)
    (sEx (.exit 0))))
 (sSeq (sBlock 1 (sSeq (sRegion [iOp (put 106) (.v false (oFieldAddr 7 (sel 2))),
      iOp (put 107) (.v true (oLoad1 (sel 106))),
      iOp (put 108) (.v false (oEv (sel 5))),
      iOp (put 109) (.v false (oIndexAddrS 2 (sel 107) (sel 108))),
      iOp (put 110) (.v false (oFieldAddr 0 (sel 109))),
      iOp (put 111) (.v true (oLoad1 (sel 110))),
      iOp (put 112) (.v false (oFieldAddr 7 (sel 3))),
      iOp (put 113) (.v true (oLoad1 (sel 112))),
      iOp (put 114) (.v false (oEv (sel 5))),
      iOp (put 115) (.v false (oIndexAddrS 2 (sel 113) (sel 114))),
      iOp (put 116) (.v false (oFieldAddr 0 (sel 115))),
      iOp (put 117) (.v true (oLoad1 (sel 116))),
      iOp (put 118) (.v false (oNe (.one 1) (sel 111) (sel 117))),
      iOp (put 119) (.v false (oEv (sel 118))),
      iGuard (sel 119) false (put 120) (iOp (put 120) (.v false (oFieldAddr 7 (sel 2)))),
      iGuard (sel 119) false (put 121) (iOp (put 121) (.v true (oLoad1 (sel 120)))),
      iGuard (sel 119) false (put 122) (iOp (put 122) (.v false (oEv (sel 5)))),
      iGuard (sel 119) false (put 123) (iOp (put 123) (.v false (oIndexAddrS 2 (sel 121) (sel 122)))),
      iGuard (sel 119) false (put 124) (iOp (put 124) (.v false (oFieldAddr 1 (sel 123)))),
      iGuard (sel 119) false (put 125) (iOp (put 125) (.v true (oLoad1 (sel 124)))),
      iGuard (sel 119) false (put 126) (iOp (put 126) (.v false (oFieldAddr 7 (sel 3)))),
      iGuard (sel 119) false (put 127) (iOp (put 127) (.v true (oLoad1 (sel 126)))),
      iGuard (sel 119) false (put 128) (iOp (put 128) (.v false (oEv (sel 5)))),
      iGuard (sel 119) false (put 129) (iOp (put 129) (.v false (oIndexAddrS 2 (sel 127) (sel 128)))),
      iGuard (sel 119) false (put 130) (iOp (put 130) (.v false (oFieldAddr 1 (sel 129)))),
      iGuard (sel 119) false (put 131) (iOp (put 131) (.v true (oLoad1 (sel 130)))),
      iGuard (sel 119) false (put 132) (iOp (put 132) (.v false (oNe (.one 1) (sel 125) (sel 131)))),
      iOp (put 133) (.v false (oPick (sel 119) ⟨fun _ => .bool true⟩ (sel 132)))])
    (sCond (sel 133)
      (sSeq (sRegion [iOp (put 4) (.v false (oEv ⟨fun _ => .bool false⟩))])
       (sEx .ret))
      (sEx .normal))))
  (sRegion [iOp (put 104) (.v false (oEv (sel 5))),
    iOp (put 105) (.v false (oInt2 fAdd (sel 104) ⟨fun _ => .int .i64 1⟩)),
    iOp (put 5) (.v false (oEv (sel 105)))]))
noncomputable def c42_1 : Vm.Sem := sSeq (sSeq (sRegion [iOp (put 134) (.v false (oEv (sel 6))),
    iOp (put 135) (.v false (oFieldAddr 8 (sel 2))),
    iOp (put 136) (.v true (oLoad1 (sel 135))),
    iOp (put 137) (.v false (oLenS (sel 136))),
    iOp (put 138) (.v false (oInt2 fLss (sel 134) (sel 137)))])
  (sCond (sel 138)
    (sEx .normal)
    (sEx (.exit 2))))
 (sSeq (sBlock 3 (sSeq (sRegion [iOp (put 141) (.v false (oFieldAddr 8 (sel 2))),
      iOp (put 142) (.v true (oLoad1 (sel 141))),
      iOp (put 143) (.v false (oEv (sel 6))),
      iOp (put 144) (.v false (oIndexAddrS 1 (sel 142) (sel 143))),
      iOp (put 145) (.v true (oLoad1 (sel 144))),
      iOp (put 146) (.v false (oFieldAddr 8 (sel 3))),
      iOp (put 147) (.v true (oLoad1 (sel 146))),
      iOp (put 148) (.v false (oEv (sel 6))),
      iOp (put 149) (.v false (oIndexAddrS 1 (sel 147) (sel 148))),
      iOp (put 150) (.v true (oLoad1 (sel 149))),
      iOp (put 151) (.v false (oNe (.one 1) (sel 145) (sel 150)))])
    (sCond (sel 151)
      (sSeq (sRegion [iOp (put 4) (.v false (oEv ⟨fun _ => .bool false⟩))])
       (sEx .ret))
      (sEx .normal))))
  (sRegion [iOp (put 139) (.v false (oEv (sel 6))),
    iOp (put 140) (.v false (oInt2 fAdd (sel 139) ⟨fun _ => .int .i64 1⟩)),
    iOp (put 6) (.v false (oEv (sel 140)))]))
noncomputable def c42_2 : Vm.Sem := sSeq (sSeq (sRegion [iOp (put 152) (.v false (oEv (sel 7))),
    iOp (put 153) (.v false (oFieldAddr 9 (sel 2))),
    iOp (put 154) (.v true (oLoad1 (sel 153))),
    iOp (put 155) (.v false (oLenS (sel 154))),
    iOp (put 156) (.v false (oInt2 fLss (sel 152) (sel 155)))])
  (sCond (sel 156)
    (sEx .normal)
    (sEx (.exit 4))))
 (sSeq (sBlock 5 (sSeq (sRegion [iOp (put 159) (.v false (oFieldAddr 9 (sel 2))),
      iOp (put 160) (.v true (oLoad1 (sel 159))),
      iOp (put 161) (.v false (oEv (sel 7))),
      iOp (put 162) (.v false (oIndexAddrS 2 (sel 160) (sel 161))),
      iOp (put 163) (.v false (oFieldAddr 0 (sel 162))),
      iOp (put 164) (.v true (oLoad1 (sel 163))),
      iOp (put 165) (.v false (oFieldAddr 9 (sel 3))),
      iOp (put 166) (.v true (oLoad1 (sel 165))),
      iOp (put 167) (.v false (oEv (sel 7))),
      iOp (put 168) (.v false (oIndexAddrS 2 (sel 166) (sel 167))),
      iOp (put 169) (.v false (oFieldAddr 0 (sel 168))),
      iOp (put 170) (.v true (oLoad1 (sel 169))),
      iOp (put 171) (.v false (oNe (.one 1) (sel 164) (sel 170))),
      iOp (put 172) (.v false (oEv (sel 171))),
      iGuard (sel 172) false (put 173) (iOp (put 173) (.v false (oFieldAddr 9 (sel 2)))),
      iGuard (sel 172) false (put 174) (iOp (put 174) (.v true (oLoad1 (sel 173)))),
      iGuard (sel 172) false (put 175) (iOp (put 175) (.v false (oEv (sel 7)))),
      iGuard (sel 172) false (put 176) (iOp (put 176) (.v false (oIndexAddrS 2 (sel 174) (sel 175)))),
      iGuard (sel 172) false (put 177) (iOp (put 177) (.v false (oFieldAddr 1 (sel 176)))),
      iGuard (sel 172) false (put 178) (iOp (put 178) (.v true (oLoad1 (sel 177)))),
      iGuard (sel 172) false (put 179) (iOp (put 179) (.v false (oFieldAddr 9 (sel 3)))),
      iGuard (sel 172) false (put 180) (iOp (put 180) (.v true (oLoad1 (sel 179)))),
      iGuard (sel 172) false (put 181) (iOp (put 181) (.v false (oEv (sel 7)))),
      iGuard (sel 172) false (put 182) (iOp (put 182) (.v false (oIndexAddrS 2 (sel 180) (sel 181)))),
      iGuard (sel 172) false (put 183) (iOp (put 183) (.v false (oFieldAddr 1 (sel 182)))),
      iGuard (sel 172) false (put 184) (iOp (put 184) (.v true (oLoad1 (sel 183)))),
      iGuard (sel 172) false (put 185) (iOp (put 185) (.v false (oNe (.one 1) (sel 178) (sel 184)))),
      iOp (put 186) (.v false (oPick (sel 172) ⟨fun _ => .bool true⟩ (sel 185)))])
    (sCond (sel 186)
      (sSeq (sRegion [iOp (put 4) (.v false (oEv ⟨fun _ => .bool false⟩))])
       (sEx .ret))
      (sEx .normal))))
  (sRegion [iOp (put 157) (.v false (oEv (sel 7))),
    iOp (put 158) (.v false (oInt2 fAdd (sel 157) ⟨fun _ => .int .i64 1⟩)),
    iOp (put 7) (.v false (oEv (sel 158)))]))
/-- bollard/bollardref07.Same -/
noncomputable def c42 : CF := ⟨187, [.tmp (sel 4)],
  sSeq (sRegion [iOp (put 2) (.a (aBox 33 (sel 0))),
    iOp (put 3) (.a (aBox 33 (sel 1))),
    iOp (put 4) (.v false (oEv ⟨fun _ => .bool false⟩))])
  (sSeq (sSeq (sRegion [iOp (put 8) (.v false (oFieldAddr 0 (sel 2))),
      iOp (put 9) (.v true (oLoad1 (sel 8))),
      iOp (put 10) (.v false (oFieldAddr 0 (sel 3))),
      iOp (put 11) (.v true (oLoad1 (sel 10))),
      iOp (put 12) (.v false (oNe (.one 1) (sel 9) (sel 11))),
      iOp (put 13) (.v false (oEv (sel 12))),
      iGuard (sel 13) false (put 14) (iOp (put 14) (.v false (oFieldAddr 1 (sel 2)))),
      iGuard (sel 13) false (put 15) (iOp (put 15) (.v true (oLoad1 (sel 14)))),
      iGuard (sel 13) false (put 16) (iOp (put 16) (.v false (oFieldAddr 1 (sel 3)))),
      iGuard (sel 13) false (put 17) (iOp (put 17) (.v true (oLoad1 (sel 16)))),
      iGuard (sel 13) false (put 18) (iOp (put 18) (.v false (oNe (.one 1) (sel 15) (sel 17)))),
      iOp (put 19) (.v false (oPick (sel 13) ⟨fun _ => .bool true⟩ (sel 18))),
      iOp (put 20) (.v false (oEv (sel 19))),
      iGuard (sel 20) false (put 21) (iOp (put 21) (.v false (oFieldAddr 2 (sel 2)))),
      iGuard (sel 20) false (put 22) (iOp (put 22) (.v true (oLoad1 (sel 21)))),
      iGuard (sel 20) false (put 23) (iOp (put 23) (.v false (oFieldAddr 2 (sel 3)))),
      iGuard (sel 20) false (put 24) (iOp (put 24) (.v true (oLoad1 (sel 23)))),
      iGuard (sel 20) false (put 25) (iOp (put 25) (.v false (oNe (.one 1) (sel 22) (sel 24)))),
      iOp (put 26) (.v false (oPick (sel 20) ⟨fun _ => .bool true⟩ (sel 25))),
      iOp (put 27) (.v false (oEv (sel 26))),
      iGuard (sel 27) false (put 28) (iOp (put 28) (.v false (oFieldAddr 3 (sel 2)))),
      iGuard (sel 27) false (put 29) (iOp (put 29) (.v true (oLoad1 (sel 28)))),
      iGuard (sel 27) false (put 30) (iOp (put 30) (.v false (oFieldAddr 3 (sel 3)))),
      iGuard (sel 27) false (put 31) (iOp (put 31) (.v true (oLoad1 (sel 30)))),
      iGuard (sel 27) false (put 32) (iOp (put 32) (.v false (oNe (.one 1) (sel 29) (sel 31)))),
      iOp (put 33) (.v false (oPick (sel 27) ⟨fun _ => .bool true⟩ (sel 32))),
      iOp (put 34) (.v false (oEv (sel 33))),
      iGuard (sel 34) false (put 35) (iOp (put 35) (.v false (oFieldAddr 4 (sel 2)))),
      iGuard (sel 34) false (put 36) (iOp (put 36) (.v true (oLoad1 (sel 35)))),
      iGuard (sel 34) false (put 37) (iOp (put 37) (.v false (oFieldAddr 4 (sel 3)))),
      iGuard (sel 34) false (put 38) (iOp (put 38) (.v true (oLoad1 (sel 37)))),
      iGuard (sel 34) false (put 39) (iOp (put 39) (.v false (oNe (.one 1) (sel 36) (sel 38)))),
      iOp (put 40) (.v false (oPick (sel 34) ⟨fun _ => .bool true⟩ (sel 39))),
      iOp (put 41) (.v false (oEv (sel 40))),
      iGuard (sel 41) false (put 42) (iOp (put 42) (.v false (oFieldAddr 5 (sel 2)))),
      iGuard (sel 41) false (put 43) (iOp (put 43) (.v true (oLoad1 (sel 42)))),
      iGuard (sel 41) false (put 44) (iOp (put 44) (.v false (oFieldAddr 5 (sel 3)))),
      iGuard (sel 41) false (put 45) (iOp (put 45) (.v true (oLoad1 (sel 44)))),
      iGuard (sel 41) false (put 46) (iOp (put 46) (.v false (oNe (.one 1) (sel 43) (sel 45)))),
      iOp (put 47) (.v false (oPick (sel 41) ⟨fun _ => .bool true⟩ (sel 46))),
      iOp (put 48) (.v false (oEv (sel 47))),
      iGuard (sel 48) false (put 49) (iOp (put 49) (.v false (oFieldAddr 6 (sel 2)))),
      iGuard (sel 48) false (put 50) (iOp (put 50) (.v true (oLoad1 (sel 49)))),
      iGuard (sel 48) false (put 51) (iOp (put 51) (.v false (oFieldAddr 6 (sel 3)))),
      iGuard (sel 48) false (put 52) (iOp (put 52) (.v true (oLoad1 (sel 51)))),
      iGuard (sel 48) false (put 53) (iOp (put 53) (.v false (oNe (.one 1) (sel 50) (sel 52)))),
      iOp (put 54) (.v false (oPick (sel 48) ⟨fun _ => .bool true⟩ (sel 53))),
      iOp (put 55) (.v false (oEv (sel 54))),
      iGuard (sel 55) false (put 56) (iOp (put 56) (.v false (oFieldAddr 11 (sel 2)))),
      iGuard (sel 55) false (put 57) (iOp (put 57) (.v true (oLoad1 (sel 56)))),
      iGuard (sel 55) false (put 58) (iOp (put 58) (.v true (oToString (sel 57)))),
      iGuard (sel 55) false (put 59) (iOp (put 59) (.v false (oFieldAddr 11 (sel 3)))),
      iGuard (sel 55) false (put 60) (iOp (put 60) (.v true (oLoad1 (sel 59)))),
      iGuard (sel 55) false (put 61) (iOp (put 61) (.v true (oToString (sel 60)))),
      iGuard (sel 55) false (put 62) (iOp (put 62) (.v false (oNe (.one 2) (sel 58) (sel 61)))),
      iOp (put 63) (.v false (oPick (sel 55) ⟨fun _ => .bool true⟩ (sel 62))),
      iOp (put 64) (.v false (oEv (sel 63))),
      iGuard (sel 64) false (put 65) (iOp (put 65) (.v false (oFieldAddr 10 (sel 2)))),
      iGuard (sel 64) false (put 66) (iOp (put 66) (.v true (oLoad1 (sel 65)))),
      iGuard (sel 64) false (put 67) (iOp (put 67) (.v false (oFieldAddr 10 (sel 3)))),
      iGuard (sel 64) false (put 68) (iOp (put 68) (.v true (oLoad1 (sel 67)))),
      iGuard (sel 64) false (put 69) (iOp (put 69) (.e (eCallF 64 [(sel 66), (sel 68)]))),
      iGuard (sel 64) false (put 70) (iOp (put 70) (.v false (oNot (sel 69)))),
      iOp (put 71) (.v false (oPick (sel 64) ⟨fun _ => .bool true⟩ (sel 70))),
      iOp (put 72) (.v false (oEv (sel 71))),
      iGuard (sel 72) false (put 73) (iOp (put 73) (.v false (oFieldAddr 7 (sel 2)))),
      iGuard (sel 72) false (put 74) (iOp (put 74) (.v true (oLoad1 (sel 73)))),
      iGuard (sel 72) false (put 75) (iOp (put 75) (.v false (oLenS (sel 74)))),
      iGuard (sel 72) false (put 76) (iOp (put 76) (.v false (oFieldAddr 7 (sel 3)))),
      iGuard (sel 72) false (put 77) (iOp (put 77) (.v true (oLoad1 (sel 76)))),
      iGuard (sel 72) false (put 78) (iOp (put 78) (.v false (oLenS (sel 77)))),
      iGuard (sel 72) false (put 79) (iOp (put 79) (.v false (oNe (.one 1) (sel 75) (sel 78)))),
      iOp (put 80) (.v false (oPick (sel 72) ⟨fun _ => .bool true⟩ (sel 79))),
      iOp (put 81) (.v false (oEv (sel 80))),
      iGuard (sel 81) false (put 82) (iOp (put 82) (.v false (oFieldAddr 8 (sel 2)))),
      iGuard (sel 81) false (put 83) (iOp (put 83) (.v true (oLoad1 (sel 82)))),
      iGuard (sel 81) false (put 84) (iOp (put 84) (.v false (oLenS (sel 83)))),
      iGuard (sel 81) false (put 85) (iOp (put 85) (.v false (oFieldAddr 8 (sel 3)))),
      iGuard (sel 81) false (put 86) (iOp (put 86) (.v true (oLoad1 (sel 85)))),
      iGuard (sel 81) false (put 87) (iOp (put 87) (.v false (oLenS (sel 86)))),
      iGuard (sel 81) false (put 88) (iOp (put 88) (.v false (oNe (.one 1) (sel 84) (sel 87)))),
      iOp (put 89) (.v false (oPick (sel 81) ⟨fun _ => .bool true⟩ (sel 88))),
      iOp (put 90) (.v false (oEv (sel 89))),
      iGuard (sel 90) false (put 91) (iOp (put 91) (.v false (oFieldAddr 9 (sel 2)))),
      iGuard (sel 90) false (put 92) (iOp (put 92) (.v true (oLoad1 (sel 91)))),
      iGuard (sel 90) false (put 93) (iOp (put 93) (.v false (oLenS (sel 92)))),
      iGuard (sel 90) false (put 94) (iOp (put 94) (.v false (oFieldAddr 9 (sel 3)))),
      iGuard (sel 90) false (put 95) (iOp (put 95) (.v true (oLoad1 (sel 94)))),
      iGuard (sel 90) false (put 96) (iOp (put 96) (.v false (oLenS (sel 95)))),
      iGuard (sel 90) false (put 97) (iOp (put 97) (.v false (oNe (.one 1) (sel 93) (sel 96)))),
      iOp (put 98) (.v false (oPick (sel 90) ⟨fun _ => .bool true⟩ (sel 97)))])
    (sCond (sel 98)
      (sSeq (sRegion [iOp (put 4) (.v false (oEv ⟨fun _ => .bool false⟩))])
       (sEx .ret))
      (sEx .normal)))
   (sSeq (sSeq (sRegion [iOp (put 5) (.v false (oEv ⟨fun _ => .int .i64 0⟩))])
     (sBlock 0 (sLoop c42_0)))
    (sSeq (sSeq (sRegion [iOp (put 6) (.v false (oEv ⟨fun _ => .int .i64 0⟩))])
      (sBlock 2 (sLoop c42_1)))
     (sSeq (sSeq (sRegion [iOp (put 7) (.v false (oEv ⟨fun _ => .int .i64 0⟩))])
       (sBlock 4 (sLoop c42_2)))
      (sSeq (sRegion [iOp (put 4) (.v false (oEv ⟨fun _ => .bool true⟩))])
       (sEx .ret))))))⟩
theorem d42 : denF Try.prog 42 = some c42 := denF_of (by kernel_rfl)
/-- bollard/octet.New -/
noncomputable def c46 : CF := ⟨7, [.tmp (sel 2)],
  sSeq (sRegion [iOp (put 2) (.v false (oEv ⟨fun _ => .pointer none⟩))])
  (sSeq (sRegion [iOp (put 3) (.v false (oEv (sel 0))),
     iOp (put 4) (.e (eCallF 66 [(sel 3)])),
     iOp (put 5) (.v false (oBuild [.slice none 0 0] [(0, 1, (sel 4))])),
     iOp (put 6) (.a (aBox 100 (sel 5))),
     iOp (put 2) (.v false (oEv (sel 6)))])
   (sEx .ret))⟩
theorem d46 : denF Try.prog 46 = some c46 := denF_of (by kernel_rfl)
/-- (*bollard/octet.Reader).Get16 -/
noncomputable def c47 : CF := ⟨24, [.tmp (sel 2), .tmp (sel 3)],
  sSeq (sRegion [iOp (put 2) (.v false (oEv ⟨fun _ => .int .u16 0⟩)),
    iOp (put 3) (.v false (oEv ⟨fun _ => .int .i64 0⟩))])
  (sSeq (sRegion [iOp (put 7) (.v false (oEv (sel 0))),
     iOp (put 8) (.e (eCallF 68 [(sel 7), ⟨fun _ => .int .i64 2⟩])),
     iOp (put 6) (.v false (oEv (sel 8))),
     iOp (put 9) (.v false (oExtract (sel 6) 0)),
     iOp (put 10) (.v false (oExtract (sel 6) 1)),
     iOp (put 4) (.v false (oEv (sel 9))),
     iOp (put 5) (.v false (oEv (sel 10)))])
   (sSeq (sSeq (sRegion [iOp (put 11) (.v false (oEv (sel 5))),
       iOp (put 12) (.v false (oNe (.one 1) (sel 11) ⟨fun _ => .int .i64 0⟩))])
     (sCond (sel 12)
       (sSeq (sRegion [iOp (put 13) (.v false (oEv (sel 5))),
          iOp (put 2) (.v false (oEv ⟨fun _ => .int .u16 0⟩)),
          iOp (put 3) (.v false (oEv (sel 13)))])
        (sEx .ret))
       (sEx .normal)))
    (sSeq (sRegion [iOp (put 14) (.v false (oEv (sel 4))),
       iOp (put 15) (.v false (oIndexAddrS 1 (sel 14) ⟨fun _ => .int .i64 0⟩)),
       iOp (put 16) (.v true (oLoad1 (sel 15))),
       iOp (put 17) (.v false (oConvInt .u16 (sel 16))),
       iOp (put 18) (.v false (oSh fShl (sel 17) ⟨fun _ => .int .u64 8⟩)),
       iOp (put 19) (.v false (oEv (sel 4))),
       iOp (put 20) (.v false (oIndexAddrS 1 (sel 19) ⟨fun _ => .int .i64 1⟩)),
       iOp (put 21) (.v true (oLoad1 (sel 20))),
       iOp (put 22) (.v false (oConvInt .u16 (sel 21))),
       iOp (put 23) (.v false (oInt2 fOr (sel 18) (sel 22))),
       iOp (put 2) (.v false (oEv (sel 23))),
       iOp (put 3) (.v false (oEv ⟨fun _ => .int .i64 0⟩))])
     (sEx .ret))))⟩
theorem d47 : denF Try.prog 47 = some c47 := denF_of (by kernel_rfl)
/-- (*bollard/octet.Reader).Get32 -/
noncomputable def c48 : CF := ⟨36, [.tmp (sel 2), .tmp (sel 3)],
  sSeq (sRegion [iOp (put 2) (.v false (oEv ⟨fun _ => .int .u32 0⟩)),
    iOp (put 3) (.v false (oEv ⟨fun _ => .int .i64 0⟩))])
  (sSeq (sRegion [iOp (put 7) (.v false (oEv (sel 0))),
     iOp (put 8) (.e (eCallF 68 [(sel 7), ⟨fun _ => .int .i64 4⟩])),
     iOp (put 6) (.v false (oEv (sel 8))),
     iOp (put 9) (.v false (oExtract (sel 6) 0)),
     iOp (put 10) (.v false (oExtract (sel 6) 1)),
     iOp (put 4) (.v false (oEv (sel 9))),
     iOp (put 5) (.v false (oEv (sel 10)))])
   (sSeq (sSeq (sRegion [iOp (put 11) (.v false (oEv (sel 5))),
       iOp (put 12) (.v false (oNe (.one 1) (sel 11) ⟨fun _ => .int .i64 0⟩))])
     (sCond (sel 12)
       (sSeq (sRegion [iOp (put 13) (.v false (oEv (sel 5))),
          iOp (put 2) (.v false (oEv ⟨fun _ => .int .u32 0⟩)),
          iOp (put 3) (.v false (oEv (sel 13)))])
        (sEx .ret))
       (sEx .normal)))
    (sSeq (sRegion [iOp (put 14) (.v false (oEv (sel 4))),
       iOp (put 15) (.v false (oIndexAddrS 1 (sel 14) ⟨fun _ => .int .i64 0⟩)),
       iOp (put 16) (.v true (oLoad1 (sel 15))),
       iOp (put 17) (.v false (oConvInt .u32 (sel 16))),
       iOp (put 18) (.v false (oSh fShl (sel 17) ⟨fun _ => .int .u64 24⟩)),
       iOp (put 19) (.v false (oEv (sel 4))),
       iOp (put 20) (.v false (oIndexAddrS 1 (sel 19) ⟨fun _ => .int .i64 1⟩)),
       iOp (put 21) (.v true (oLoad1 (sel 20))),
       iOp (put 22) (.v false (oConvInt .u32 (sel 21))),
       iOp (put 23) (.v false (oSh fShl (sel 22) ⟨fun _ => .int .u64 16⟩)),
       iOp (put 24) (.v false (oInt2 fOr (sel 18) (sel 23))),
       iOp (put 25) (.v false (oEv (sel 4))),
       iOp (put 26) (.v false (oIndexAddrS 1 (sel 25) ⟨fun _ => .int .i64 2⟩)),
       iOp (put 27) (.v true (oLoad1 (sel 26))),
       iOp (put 28) (.v false (oConvInt .u32 (sel 27))),
       iOp (put 29) (.v false (oSh fShl (sel 28) ⟨fun _ => .int .u64 8⟩)),
       iOp (put 30) (.v false (oInt2 fOr (sel 24) (sel 29))),
       iOp (put 31) (.v false (oEv (sel 4))),
       iOp (put 32) (.v false (oIndexAddrS 1 (sel 31) ⟨fun _ => .int .i64 3⟩)),
       iOp (put 33) (.v true (oLoad1 (sel 32))),
       iOp (put 34) (.v false (oConvInt .u32 (sel 33))),
       iOp (put 35) (.v false (oInt2 fOr (sel 30) (sel 34))),
       iOp (put 2) (.v false (oEv (sel 35))),
       iOp (put 3) (.v false (oEv ⟨fun _ => .int .i64 0⟩))])
     (sEx .ret))))⟩
theorem d48 : denF Try.prog 48 = some c48 := denF_of (by kernel_rfl)
/-- bollard/packet.mixed$1 -/
noncomputable def c49 : CF := ⟨6, [.tmp (sel 2)],
  sSeq (sRegion [iOp (put 1) (.a (aBox 33 (sel 0))),
    iOp (put 2) (.v false (oEv ⟨fun _ => .bool false⟩))])
  (sSeq (sRegion [iOp (put 3) (.v false (oFieldAddr 0 (sel 1))),
     iOp (put 4) (.v true (oLoad1 (sel 3))),
     iOp (put 5) (.e (eCallF 18 [(sel 4)])),
     iOp (put 2) (.v false (oEv (sel 5)))])
   (sEx .ret))⟩
theorem d49 : denF Try.prog 49 = some c49 := denF_of (by kernel_rfl)
noncomputable def c50_0 : Vm.Sem := sSeq (sRegion [iOp (put 9) (.v false (oInt2 fLss (sel 8) (sel 7)))])
 (sSeq (sCond (sel 9)
    (sEx .normal)
    (sEx (.exit 0)))
  (sSeq (sBlock 1 (sSeq (sRegion [iOp (put 10) (.v false (oEv (sel 8))),
       iOp (put 5) (.v false (oEv (sel 10)))])
     (sSeq (sRegion [iOp (put 11) (.v false (oEv (sel 1))),
        iOp (put 12) (.v false (oEv (sel 0))),
        iOp (put 13) (.v false (oEv (sel 5))),
        iOp (put 14) (.v false (oIndexAddrS 12 (sel 12) (sel 13))),
        iOp (put 15) (.v true (oLoadN 12 (sel 14))),
        iOp (put 16) (.e (eCall (sel 11) [(sel 15)]))])
      (sCond (sel 16)
        (sSeq (sRegion [iOp (put 17) (.v false (oEv (sel 5))),
           iOp (put 4) (.v false (oEv (sel 17)))])
         (sEx .ret))
        (sEx .normal)))))
   (sRegion [iOp (put 18) (.v false (oInt2 fAdd (sel 8) ⟨fun _ => .int .i64 1⟩)),
     iOp (put 8) (.v false (oEv (sel 18)))])))
/-- slices.IndexFunc[[]bollard/api.Chunk,bollard/api.Chunk] -/
noncomputable def c50 : CF := ⟨19, [.tmp (sel 4)],
  sSeq (sRegion [iOp (put 4) (.v false (oEv ⟨fun _ => .int .i64 0⟩))])
  (sSeq (sSeq (sRegion [iOp (put 6) (.v false (oEv (sel 0))),
      iOp (put 7) (.v false (oLenS (sel 6))),
      iOp (put 8) (.v false (oEv ⟨fun _ => .int .i64 0⟩))])
    (sBlock 0 (sLoop c50_0)))
   (sSeq (sRegion [iOp (put 4) (.v false (oEv ⟨fun _ => .int .i64 (-1)⟩))])
    (sEx .ret)))⟩
theorem d50 : denF Try.prog 50 = some c50 := denF_of (by kernel_rfl)
end Go.Proofs.Ytdcllpjoejkpnaa

