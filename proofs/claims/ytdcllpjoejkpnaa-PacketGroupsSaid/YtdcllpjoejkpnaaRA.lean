/- Part of a proof by an abstract run of the program's code: RA. No condition. -/
import Derived.Test.YtdcllpjoejkpnaaChecked
import Derived.Test.YtdcllpjoejkpnaaVmD
namespace Go.Proofs.Ytdcllpjoejkpnaa
open Go Vm
noncomputable def c7_0 : Vm.Sem := sSeq (sSeq (sRegion [iOp (put 30) (.v false (oEv (sel 8))),
    iOp (put 31) (.v false (oEv (sel 4))),
    iOp (put 32) (.v false (oLenS (sel 31))),
    iOp (put 33) (.v false (oInt2 fLss (sel 30) (sel 32)))])
  (sCond (sel 33)
    (sEx .normal)
    (sEx (.exit 0))))
 (sSeq (sBlock 1 (sSeq (sRegion [iOp (put 37) (.v false (oEv (sel 6))),
      iOp (put 38) (.v false (oEv (sel 4))),
      iOp (put 39) (.v false (oEv (sel 8))),
      iOp (put 40) (.v false (oIndexAddrS 1 (sel 38) (sel 39))),
      iOp (put 41) (.v true (oLoad1 (sel 40))),
      iOp (put 42) (.v false (oBuild [.int .u16 0, .int .u16 0, .int .u32 0, .slice none 0 0] [(3, 1, (sel 41))])),
      iOp (put 43) (.e (eCallF 13 [(sel 37), (sel 42)])),
      iOp (put 36) (.v false (oEv (sel 43))),
      iOp (put 44) (.v false (oExtract (sel 36) 0)),
      iOp (put 45) (.v false (oExtract (sel 36) 1)),
      iOp (put 9) (.v false (oEv (sel 44))),
      iOp (put 10) (.v false (oEv (sel 45)))])
    (sSeq (sSeq (sRegion [iOp (put 46) (.v false (oEv (sel 10))),
        iOp (put 47) (.v false (oNe (.one 1) (sel 46) ⟨fun _ => .int .i64 0⟩)),
        iOp (put 48) (.v false (oEv (sel 47))),
        iGuard (sel 48) false (put 49) (iOp (put 49) (.v false (oEv (sel 4)))),
        iGuard (sel 48) false (put 50) (iOp (put 50) (.v false (oEv (sel 8)))),
        iGuard (sel 48) false (put 51) (iOp (put 51) (.v false (oIndexAddrS 1 (sel 49) (sel 50)))),
        iGuard (sel 48) false (put 52) (iOp (put 52) (.v true (oLoad1 (sel 51)))),
        iGuard (sel 48) false (put 53) (iOp (put 53) (.v false (oLenS (sel 52)))),
        iGuard (sel 48) false (put 54) (iOp (put 54) (.v false (oEq (.one 1) (sel 53) ⟨fun _ => .int .i64 0⟩))),
        iOp (put 55) (.v false (oPick (sel 48) ⟨fun _ => .bool true⟩ (sel 54)))])
      (sCond (sel 55)
        (sSeq (sRegion [iOp (put 2) (.v false (oEv ⟨fun _ => .bool false⟩))])
         (sEx .ret))
        (sEx .normal)))
     (sSeq (sSeq (sRegion [iOp (put 56) (.v false (oEv (sel 8))),
         iOp (put 57) (.v false (oInt2 fGtr (sel 56) ⟨fun _ => .int .i64 0⟩))])
       (sCond (sel 57)
         (sSeq (sDr [iOp (put 59) (.v false (oEv (sel 6))),
            iOp (put 60) (.a (aBuildSlice 33 0 (rep 0 [.int .u8 0, .int .u8 0, .int .u32 0, .int .u32 0, .int .u16 0, .int .u16 0, .int .u32 0, .slice none 0 0, .slice none 0 0, .slice none 0 0, .slice none 0 0, .slice none 0 0]) [])),
            iOp (put 61) (.v false (oEv (sel 4))),
            iOp (put 62) (.v false (oEv (sel 8))),
            iOp (put 63) (.v false (oInt2 fSub (sel 62) ⟨fun _ => .int .i64 1⟩)),
            iOp (put 64) (.v false (oIndexAddrS 1 (sel 61) (sel 63))),
            iOp (put 65) (.v true (oLoad1 (sel 64))),
            iOp (put 66) (.e (eAppend 33 12 144 (sel 60) (sel 65))),
            iOp (put 67) (.v false (oEv (sel 4))),
            iOp (put 68) (.v false (oEv (sel 8))),
            iOp (put 69) (.v false (oIndexAddrS 1 (sel 67) (sel 68))),
            iOp (put 70) (.v true (oLoad1 (sel 69))),
            iOp (put 71) (.v false (oIndexAddrS 12 (sel 70) ⟨fun _ => .int .i64 0⟩)),
            iOp (put 72) (.v true (oLoadN 12 (sel 71))),
            iOp (put 73) (.a (aBuildSlice 33 1 (rep 1 [.int .u8 0, .int .u8 0, .int .u32 0, .int .u32 0, .int .u16 0, .int .u16 0, .int .u32 0, .slice none 0 0, .slice none 0 0, .slice none 0 0, .slice none 0 0, .slice none 0 0]) [(0, 12, (sel 72))])),
            iOp (put 74) (.e (eAppend 33 12 144 (sel 66) (sel 73))),
            iOp (put 75) (.v false (oBuild [.int .u16 0, .int .u16 0, .int .u32 0, .slice none 0 0] [(3, 1, (sel 74))])),
            iOp (put 76) (.e (eCallF 13 [(sel 59), (sel 75)])),
            iOp (put 58) (.v false (oEv (sel 76))),
            iOp (put 77) (.v false (oExtract (sel 58) 0)),
            iOp (put 78) (.v false (oExtract (sel 58) 1)),
            iOp (put 10) (.v false (oEv (sel 78)))]
            [(11, none, (oLoad1 (sel 69)), [0, 8]), (13, none, (oLoadN 12 (sel 71)), [0, 8])])
          (sSeq (sRegion [iOp (put 79) (.v false (oEv (sel 10))),
             iOp (put 80) (.v false (oEq (.one 1) (sel 79) ⟨fun _ => .int .i64 0⟩))])
           (sCond (sel 80)
             (sSeq (sRegion [iOp (put 2) (.v false (oEv ⟨fun _ => .bool false⟩))])
              (sEx .ret))
             (sEx .normal))))
         (sEx .normal)))
      (sRegion [iOp (put 81) (.v false (oEv (sel 7))),
        iOp (put 82) (.v false (oEv (sel 4))),
        iOp (put 83) (.v false (oEv (sel 8))),
        iOp (put 84) (.v false (oIndexAddrS 1 (sel 82) (sel 83))),
        iOp (put 85) (.v true (oLoad1 (sel 84))),
        iOp (put 86) (.e (eAppend 33 12 144 (sel 81) (sel 85))),
        iOp (put 7) (.v false (oEv (sel 86)))])))))
  (sRegion [iOp (put 34) (.v false (oEv (sel 8))),
    iOp (put 35) (.v false (oInt2 fAdd (sel 34) ⟨fun _ => .int .i64 1⟩)),
    iOp (put 8) (.v false (oEv (sel 35)))]))
/-- bollard/bollardlaw08.PacketGroups -/
noncomputable def c7 : CF := ⟨93, [.tmp (sel 2)],
  sSeq (sRegion [iOp (put 2) (.v false (oEv ⟨fun _ => .bool false⟩))])
  (sSeq (sRegion [iOp (put 11) (.e (eCallF 10 [])),
     iOp (put 3) (.v false (oEv (sel 11)))])
   (sSeq (sSeq (sRegion [iOp (put 12) (.v false (oEv (sel 0))),
       iOp (put 13) (.e (eCallF 11 [(sel 12)])),
       iOp (put 14) (.v false (oNot (sel 13)))])
     (sCond (sel 14)
       (sSeq (sRegion [iOp (put 15) (.v false (oEv (sel 3))),
          iOp (put 2) (.v false (oEv (sel 15)))])
        (sEx .ret))
       (sEx .normal)))
    (sSeq (sRegion [iOp (put 17) (.v false (oEv (sel 0))),
       iOp (put 18) (.e (eCallF 20 [(sel 17)])),
       iOp (put 16) (.v false (oEv (sel 18))),
       iOp (put 19) (.v false (oExtract (sel 16) 0)),
       iOp (put 20) (.v false (oExtract (sel 16) 1)),
       iOp (put 4) (.v false (oEv (sel 19))),
       iOp (put 5) (.v false (oEv (sel 20)))])
     (sSeq (sSeq (sRegion [iOp (put 21) (.v false (oEv (sel 5))),
         iOp (put 22) (.v false (oNe (.one 1) (sel 21) ⟨fun _ => .int .i64 0⟩))])
       (sCond (sel 22)
         (sSeq (sRegion [iOp (put 23) (.v false (oEv (sel 3))),
            iOp (put 24) (.v false (oEv (sel 23))),
            iGuard (sel 24) true (put 25) (iOp (put 25) (.v false (oEv (sel 4)))),
            iGuard (sel 24) true (put 26) (iOp (put 26) (.v false (oLenS (sel 25)))),
            iGuard (sel 24) true (put 27) (iOp (put 27) (.v false (oEq (.one 1) (sel 26) ⟨fun _ => .int .i64 0⟩))),
            iOp (put 28) (.v false (oPick (sel 24) (sel 27) ⟨fun _ => .bool false⟩)),
            iOp (put 2) (.v false (oEv (sel 28)))])
          (sEx .ret))
         (sEx .normal)))
      (sSeq (sRegion [iOp (put 29) (.e (eCallF 23 [])),
         iOp (put 6) (.v false (oEv (sel 29)))])
       (sSeq (sRegion [iOp (put 7) (.v false (oEv ⟨fun _ => .slice none 0 0⟩))])
        (sSeq (sSeq (sRegion [iOp (put 8) (.v false (oEv ⟨fun _ => .int .i64 0⟩))])
          (sBlock 0 (sLoop c7_0)))
         (sSeq (sRegion [iOp (put 87) (.v false (oEv (sel 3))),
            iOp (put 88) (.v false (oEv (sel 87))),
            iGuard (sel 88) true (put 89) (iOp (put 89) (.v false (oEv (sel 7)))),
            iGuard (sel 88) true (put 90) (iOp (put 90) (.v false (oEv (sel 0)))),
            iGuard (sel 88) true (put 91) (iOp (put 91) (.e (eCallF 22 [(sel 89), (sel 90)]))),
            iOp (put 92) (.v false (oPick (sel 88) (sel 91) ⟨fun _ => .bool false⟩)),
            iOp (put 2) (.v false (oEv (sel 92)))])
          (sEx .ret)))))))))⟩
theorem d7 : denF Try.prog 7 = some c7 := denF_of (by kernel_rfl)
noncomputable def c11_0 : Vm.Sem := sSeq (sSeq (sRegion [iOp (put 7) (.v false (oEv (sel 3))),
    iOp (put 8) (.v false (oEv (sel 0))),
    iOp (put 9) (.v false (oLenS (sel 8))),
    iOp (put 10) (.v false (oInt2 fLss (sel 7) (sel 9)))])
  (sCond (sel 10)
    (sEx .normal)
    (sEx (.exit 0))))
 (sSeq (sBlock 1 (sSeq (sRegion [iOp (put 13) (.v false (oEv (sel 0))),
      iOp (put 14) (.v false (oEv (sel 3))),
      iOp (put 15) (.v false (oIndexAddrS 12 (sel 13) (sel 14))),
      iOp (put 16) (.v true (oLoadN 12 (sel 15))),
      iOp (put 17) (.e (eCallF 12 [(sel 16)])),
      iOp (put 18) (.v false (oNot (sel 17)))])
    (sCond (sel 18)
      (sSeq (sRegion [iOp (put 2) (.v false (oEv ⟨fun _ => .bool false⟩))])
       (sEx .ret))
      (sEx .normal))))
  (sRegion [iOp (put 11) (.v false (oEv (sel 3))),
    iOp (put 12) (.v false (oInt2 fAdd (sel 11) ⟨fun _ => .int .i64 1⟩)),
    iOp (put 3) (.v false (oEv (sel 12)))]))
/-- bollard/bollardlaw08.few -/
noncomputable def c11 : CF := ⟨19, [.tmp (sel 2)],
  sSeq (sRegion [iOp (put 2) (.v false (oEv ⟨fun _ => .bool false⟩))])
  (sSeq (sSeq (sRegion [iOp (put 4) (.v false (oEv (sel 0))),
      iOp (put 5) (.v false (oLenS (sel 4))),
      iOp (put 6) (.v false (oInt2 fGtr (sel 5) ⟨fun _ => .int .i64 80⟩))])
    (sCond (sel 6)
      (sSeq (sRegion [iOp (put 2) (.v false (oEv ⟨fun _ => .bool false⟩))])
       (sEx .ret))
      (sEx .normal)))
   (sSeq (sSeq (sRegion [iOp (put 3) (.v false (oEv ⟨fun _ => .int .i64 0⟩))])
     (sBlock 0 (sLoop c11_0)))
    (sSeq (sRegion [iOp (put 2) (.v false (oEv ⟨fun _ => .bool true⟩))])
     (sEx .ret))))⟩
theorem d11 : denF Try.prog 11 = some c11 := denF_of (by kernel_rfl)
noncomputable def c12_0 : Vm.Sem := sSeq (sSeq (sRegion [iOp (put 32) (.v false (oEv (sel 3))),
    iOp (put 33) (.v false (oFieldAddr 10 (sel 1))),
    iOp (put 34) (.v true (oLoad1 (sel 33))),
    iOp (put 35) (.v false (oLenS (sel 34))),
    iOp (put 36) (.v false (oInt2 fLss (sel 32) (sel 35)))])
  (sCond (sel 36)
    (sEx .normal)
    (sEx (.exit 0))))
 (sSeq (sBlock 1 (sSeq (sRegion [iOp (put 39) (.v false (oFieldAddr 10 (sel 1))),
      iOp (put 40) (.v true (oLoad1 (sel 39))),
      iOp (put 41) (.v false (oEv (sel 3))),
      iOp (put 42) (.v false (oIndexAddrS 2 (sel 40) (sel 41))),
      iOp (put 43) (.v false (oFieldAddr 1 (sel 42))),
      iOp (put 44) (.v true (oLoad1 (sel 43))),
      iOp (put 45) (.v false (oLenS (sel 44))),
      iOp (put 46) (.v false (oInt2 fGtr (sel 45) ⟨fun _ => .int .i64 1300⟩))])
    (sCond (sel 46)
      (sSeq (sRegion [iOp (put 2) (.v false (oEv ⟨fun _ => .bool false⟩))])
       (sEx .ret))
      (sEx .normal))))
  (sRegion [iOp (put 37) (.v false (oEv (sel 3))),
    iOp (put 38) (.v false (oInt2 fAdd (sel 37) ⟨fun _ => .int .i64 1⟩)),
    iOp (put 3) (.v false (oEv (sel 38)))]))
/-- bollard/bollardref07.Few -/
noncomputable def c12 : CF := ⟨47, [.tmp (sel 2)],
  sSeq (sRegion [iOp (put 1) (.a (aBox 33 (sel 0))),
    iOp (put 2) (.v false (oEv ⟨fun _ => .bool false⟩))])
  (sSeq (sSeq (sRegion [iOp (put 4) (.v false (oFieldAddr 7 (sel 1))),
      iOp (put 5) (.v true (oLoad1 (sel 4))),
      iOp (put 6) (.v false (oLenS (sel 5))),
      iOp (put 7) (.v false (oInt2 fGtr (sel 6) ⟨fun _ => .int .i64 100⟩)),
      iOp (put 8) (.v false (oEv (sel 7))),
      iGuard (sel 8) false (put 9) (iOp (put 9) (.v false (oFieldAddr 8 (sel 1)))),
      iGuard (sel 8) false (put 10) (iOp (put 10) (.v true (oLoad1 (sel 9)))),
      iGuard (sel 8) false (put 11) (iOp (put 11) (.v false (oLenS (sel 10)))),
      iGuard (sel 8) false (put 12) (iOp (put 12) (.v false (oInt2 fGtr (sel 11) ⟨fun _ => .int .i64 100⟩))),
      iOp (put 13) (.v false (oPick (sel 8) ⟨fun _ => .bool true⟩ (sel 12))),
      iOp (put 14) (.v false (oEv (sel 13))),
      iGuard (sel 14) false (put 15) (iOp (put 15) (.v false (oFieldAddr 9 (sel 1)))),
      iGuard (sel 14) false (put 16) (iOp (put 16) (.v true (oLoad1 (sel 15)))),
      iGuard (sel 14) false (put 17) (iOp (put 17) (.v false (oLenS (sel 16)))),
      iGuard (sel 14) false (put 18) (iOp (put 18) (.v false (oInt2 fGtr (sel 17) ⟨fun _ => .int .i64 100⟩))),
      iOp (put 19) (.v false (oPick (sel 14) ⟨fun _ => .bool true⟩ (sel 18))),
      iOp (put 20) (.v false (oEv (sel 19))),
      iGuard (sel 20) false (put 21) (iOp (put 21) (.v false (oFieldAddr 10 (sel 1)))),
      iGuard (sel 20) false (put 22) (iOp (put 22) (.v true (oLoad1 (sel 21)))),
      iGuard (sel 20) false (put 23) (iOp (put 23) (.v false (oLenS (sel 22)))),
      iGuard (sel 20) false (put 24) (iOp (put 24) (.v false (oInt2 fGtr (sel 23) ⟨fun _ => .int .i64 40⟩))),
      iOp (put 25) (.v false (oPick (sel 20) ⟨fun _ => .bool true⟩ (sel 24))),
      iOp (put 26) (.v false (oEv (sel 25))),
      iGuard (sel 26) false (put 27) (iOp (put 27) (.v false (oFieldAddr 11 (sel 1)))),
      iGuard (sel 26) false (put 28) (iOp (put 28) (.v true (oLoad1 (sel 27)))),
      iGuard (sel 26) false (put 29) (iOp (put 29) (.v false (oLenS (sel 28)))),
      iGuard (sel 26) false (put 30) (iOp (put 30) (.v false (oInt2 fGtr (sel 29) ⟨fun _ => .int .i64 2000⟩))),
      iOp (put 31) (.v false (oPick (sel 26) ⟨fun _ => .bool true⟩ (sel 30)))])
    (sCond (sel 31)
      (sSeq (sRegion [iOp (put 2) (.v false (oEv ⟨fun _ => .bool false⟩))])
       (sEx .ret))
      (sEx .normal)))
   (sSeq (sSeq (sRegion [iOp (put 3) (.v false (oEv ⟨fun _ => .int .i64 0⟩))])
     (sBlock 0 (sLoop c12_0)))
    (sSeq (sRegion [iOp (put 2) (.v false (oEv ⟨fun _ => .bool true⟩))])
     (sEx .ret))))⟩
theorem d12 : denF Try.prog 12 = some c12 := denF_of (by kernel_rfl)
noncomputable def c13_0 : Vm.Sem := sSeq (sRegion [iOp (put 46) (.v false (oInt2 fLss (sel 45) (sel 44)))])
 (sSeq (sCond (sel 46)
    (sEx .normal)
    (sEx (.exit 0)))
  (sSeq (sBlock 1 (sSeq (sRegion [iOp (put 47) (.v false (oIndexAddrS 12 (sel 43) (sel 45))),
       iOp (put 48) (.v true (oLoadN 12 (sel 47))),
       iOp (put 8) (.a (aAlloc 33 [.int .u8 0, .int .u8 0, .int .u32 0, .int .u32 0, .int .u16 0, .int .u16 0, .int .u32 0, .slice none 0 0, .slice none 0 0, .slice none 0 0, .slice none 0 0, .slice none 0 0])),
       iOp ⟨fun _ a => a⟩ (.e (eStore 12 (sel 8) (sel 48)))])
     (sSeq (sRegion [iOp (put 50) (.v true (oLoadN 12 (sel 8))),
        iOp (put 51) (.e (eCallF 31 [(sel 50)])),
        iOp (put 49) (.v false (oEv (sel 51))),
        iOp (put 52) (.v false (oExtract (sel 49) 0)),
        iOp (put 53) (.v false (oExtract (sel 49) 1)),
        iOp (put 9) (.v false (oEv (sel 52))),
        iOp (put 10) (.v false (oEv (sel 53)))])
      (sRegion [iOp (put 54) (.v false (oEv (sel 6))),
        iOp (put 55) (.v false (oEv (sel 9))),
        iOp (put 56) (.e (eAppend 5 1 1 (sel 54) (sel 55))),
        iOp (put 6) (.v false (oEv (sel 56)))]))))
   (sRegion [iOp (put 57) (.v false (oInt2 fAdd (sel 45) ⟨fun _ => .int .i64 1⟩)),
     iOp (put 45) (.v false (oEv (sel 57)))])))
noncomputable def c13_1 : Vm.Sem := sSeq (sRegion [iOp (put 71) (.v false (oInt2 fLss (sel 70) ⟨fun _ => .int .i64 4⟩))])
 (sSeq (sCond (sel 71)
    (sEx .normal)
    (sEx (.exit 2)))
  (sSeq (sBlock 3 (sSeq (sRegion [iOp (put 72) (.v false (oEv (sel 70))),
       iOp (put 12) (.v false (oEv (sel 72)))])
     (sRegion [iOp (put 73) (.v false (oEv (sel 6))),
       iOp (put 74) (.v false (oEv (sel 12))),
       iOp (put 75) (.v false (oInt2 fAdd ⟨fun _ => .int .i64 8⟩ (sel 74))),
       iOp (put 76) (.v false (oEv (sel 11))),
       iOp (put 77) (.v false (oEv (sel 12))),
       iOp (put 78) (.v false (oInt2 fMul ⟨fun _ => .int .i64 8⟩ (sel 77))),
       iOp (put 79) (.v false (oSh fShr (sel 76) (sel 78))),
       iOp (put 80) (.v false (oConvInt .u8 (sel 79))),
       iOp (put 81) (.v false (oIndexAddrS 1 (sel 73) (sel 75))),
       iOp ⟨fun _ a => a⟩ (.e (eStore 1 (sel 81) (sel 80)))])))
   (sRegion [iOp (put 82) (.v false (oInt2 fAdd (sel 70) ⟨fun _ => .int .i64 1⟩)),
     iOp (put 70) (.v false (oEv (sel 82)))])))
/-- bollard/packet.Encode -/
noncomputable def c13 : CF := ⟨84, [.tmp (sel 4), .tmp (sel 5)],
  sSeq (sRegion [iOp (put 3) (.a (aBox 27 (sel 1))),
    iOp (put 4) (.v false (oEv ⟨fun _ => .slice none 0 0⟩)),
    iOp (put 5) (.v false (oEv ⟨fun _ => .int .i64 0⟩))])
  (sSeq (sSeq (sRegion [iOp (put 13) (.v false (oEv (sel 0))),
      iOp (put 14) (.v false (oLenS (sel 13))),
      iOp (put 15) (.v false (oNe (.one 1) (sel 14) ⟨fun _ => .int .i64 256⟩)),
      iOp (put 16) (.v false (oEv (sel 15))),
      iGuard (sel 16) false (put 17) (iOp (put 17) (.v false (oFieldAddr 3 (sel 3)))),
      iGuard (sel 16) false (put 18) (iOp (put 18) (.v true (oLoad1 (sel 17)))),
      iGuard (sel 16) false (put 19) (iOp (put 19) (.v false (oLenS (sel 18)))),
      iGuard (sel 16) false (put 20) (iOp (put 20) (.v false (oEq (.one 1) (sel 19) ⟨fun _ => .int .i64 0⟩))),
      iOp (put 21) (.v false (oPick (sel 16) ⟨fun _ => .bool true⟩ (sel 20))),
      iOp (put 22) (.v false (oEv (sel 21))),
      iGuard (sel 22) false (put 23) (iOp (put 23) (.v false (oFieldAddr 3 (sel 3)))),
      iGuard (sel 22) false (put 24) (iOp (put 24) (.v true (oLoad1 (sel 23)))),
      iGuard (sel 22) false (put 25) (iOp (put 25) (.e (eCallF 26 [(sel 24)]))),
      iOp (put 26) (.v false (oPick (sel 22) ⟨fun _ => .bool true⟩ (sel 25))),
      iOp (put 27) (.v false (oEv (sel 26))),
      iGuard (sel 27) false (put 28) (iOp (put 28) (.v false (oFieldAddr 3 (sel 3)))),
      iGuard (sel 27) false (put 29) (iOp (put 29) (.v true (oLoad1 (sel 28)))),
      iGuard (sel 27) false (put 30) (iOp (put 30) (.e (eCallF 27 [(sel 29), ⟨fun _ => .func (.func 28) #[] #[]⟩]))),
      iOp (put 31) (.v false (oPick (sel 27) ⟨fun _ => .bool true⟩ (sel 30)))])
    (sCond (sel 31)
      (sSeq (sRegion [iOp (put 4) (.v false (oEv ⟨fun _ => .slice none 0 0⟩)),
         iOp (put 5) (.v false (oEv ⟨fun _ => .int .i64 1⟩))])
       (sEx .ret))
      (sEx .normal)))
   (sSeq (sDr [iOp (put 32) (.v false (oFieldAddr 0 (sel 3))),
      iOp (put 33) (.v true (oLoad1 (sel 32))),
      iOp (put 34) (.e (eCallF 30 [⟨fun _ => .slice none 0 0⟩, (sel 33)])),
      iOp (put 35) (.v false (oFieldAddr 1 (sel 3))),
      iOp (put 36) (.v true (oLoad1 (sel 35))),
      iOp (put 37) (.e (eCallF 30 [(sel 34), (sel 36)])),
      iOp (put 38) (.v false (oFieldAddr 2 (sel 3))),
      iOp (put 39) (.v true (oLoad1 (sel 38))),
      iOp (put 40) (.e (eCallF 29 [(sel 37), (sel 39)])),
      iOp (put 41) (.e (eCallF 29 [(sel 40), ⟨fun _ => .int .u32 0⟩])),
      iOp (put 6) (.v false (oEv (sel 41)))]
      [(4, none, (oLoad1 (sel 35)), [0, 3]), (7, none, (oLoad1 (sel 38)), [0, 3, 6])])
    (sSeq (sSeq (sRegion [iOp (put 42) (.v false (oFieldAddr 3 (sel 3))),
        iOp (put 43) (.v true (oLoad1 (sel 42))),
        iOp (put 44) (.v false (oLenS (sel 43))),
        iOp (put 45) (.v false (oEv ⟨fun _ => .int .i64 0⟩))])
      (sBlock 0 (sLoop c13_0)))
     (sSeq (sSeq (sRegion [iOp (put 58) (.v false (oFieldAddr 3 (sel 3))),
         iOp (put 59) (.v true (oLoad1 (sel 58))),
         iOp (put 60) (.v false (oLenS (sel 59))),
         iOp (put 61) (.v false (oInt2 fGtr (sel 60) ⟨fun _ => .int .i64 64⟩)),
         iOp (put 62) (.v false (oEv (sel 61))),
         iGuard (sel 62) false (put 63) (iOp (put 63) (.v false (oEv (sel 6)))),
         iGuard (sel 62) false (put 64) (iOp (put 64) (.v false (oLenS (sel 63)))),
         iGuard (sel 62) false (put 65) (iOp (put 65) (.v false (oInt2 fGtr (sel 64) ⟨fun _ => .int .i64 1200⟩))),
         iOp (put 66) (.v false (oPick (sel 62) ⟨fun _ => .bool true⟩ (sel 65)))])
       (sCond (sel 66)
         (sSeq (sRegion [iOp (put 4) (.v false (oEv ⟨fun _ => .slice none 0 0⟩)),
            iOp (put 5) (.v false (oEv ⟨fun _ => .int .i64 10⟩))])
          (sEx .ret))
         (sEx .normal)))
      (sSeq (sRegion [iOp (put 67) (.v false (oEv (sel 0))),
         iOp (put 68) (.v false (oEv (sel 6))),
         iOp (put 69) (.e (eCallF 32 [(sel 67), (sel 68)])),
         iOp (put 11) (.v false (oEv (sel 69)))])
       (sSeq (sSeq (sRegion [iOp (put 70) (.v false (oEv ⟨fun _ => .int .i64 0⟩))])
         (sBlock 2 (sLoop c13_1)))
        (sSeq (sRegion [iOp (put 83) (.v false (oEv (sel 6))),
           iOp (put 4) (.v false (oEv (sel 83))),
           iOp (put 5) (.v false (oEv ⟨fun _ => .int .i64 0⟩))])
         (sEx .ret))))))))⟩
theorem d13 : denF Try.prog 13 = some c13 := denF_of (by kernel_rfl)
/-- bollard/bollardlaw08.same -/
noncomputable def c15 : CF := ⟨10, [.tmp (sel 4)],
  sSeq (sRegion [iOp (put 4) (.v false (oEv ⟨fun _ => .bool false⟩))])
  (sSeq (sRegion [iOp (put 5) (.v false (oEv (sel 0))),
     iOp (put 6) (.v true (oToString (sel 5))),
     iOp (put 7) (.v false (oEv (sel 1))),
     iOp (put 8) (.v true (oToString (sel 7))),
     iOp (put 9) (.v false (oEq (.one 2) (sel 6) (sel 8))),
     iOp (put 4) (.v false (oEv (sel 9)))])
   (sEx .ret))⟩
theorem d15 : denF Try.prog 15 = some c15 := denF_of (by kernel_rfl)
/-- bollard/packet.Size -/
noncomputable def c16 : CF := ⟨12, [.tmp (sel 2)],
  sSeq (sRegion [iOp (put 1) (.a (aBox 33 (sel 0))),
    iOp (put 2) (.v false (oEv ⟨fun _ => .int .i64 0⟩))])
  (sSeq (sRegion [iOp (put 6) (.v true (oLoadN 12 (sel 1))),
     iOp (put 7) (.e (eCallF 31 [(sel 6)])),
     iOp (put 5) (.v false (oEv (sel 7))),
     iOp (put 8) (.v false (oExtract (sel 5) 0)),
     iOp (put 9) (.v false (oExtract (sel 5) 1)),
     iOp (put 3) (.v false (oEv (sel 8))),
     iOp (put 4) (.v false (oEv (sel 9)))])
   (sSeq (sRegion [iOp (put 10) (.v false (oEv (sel 3))),
      iOp (put 11) (.v false (oLenS (sel 10))),
      iOp (put 2) (.v false (oEv (sel 11)))])
    (sEx .ret)))⟩
theorem d16 : denF Try.prog 16 = some c16 := denF_of (by kernel_rfl)
/-- bollard/packet.Alone -/
noncomputable def c18 : CF := ⟨8, [.tmp (sel 2)],
  sSeq (sRegion [iOp (put 2) (.v false (oEv ⟨fun _ => .bool false⟩))])
  (sSeq (sSeq (sRegion [iOp (put 3) (.v false (oEv (sel 0)))])
    (sBlock 0 (sSeq (sSeq (sRegion [iOp (put 5) (.v false (oEq (.one 1) (sel 3) ⟨fun _ => .int .u8 1⟩)),
         iOp (put 4) (.v false (oEv (sel 5)))])
       (sCond (sel 4)
         (sEx .normal)
         (sSeq (sRegion [iOp (put 6) (.v false (oEq (.one 1) (sel 3) ⟨fun _ => .int .u8 2⟩)),
            iOp (put 4) (.v false (oEv (sel 6)))])
          (sCond (sel 4)
            (sEx .normal)
            (sRegion [iOp (put 7) (.v false (oEq (.one 1) (sel 3) ⟨fun _ => .int .u8 14⟩)),
              iOp (put 4) (.v false (oEv (sel 7)))])))))
      (sCond (sel 4)
        (sSeq (sRegion [iOp (put 2) (.v false (oEv ⟨fun _ => .bool true⟩))])
         (sEx .ret))
        (sEx .normal)))))
   (sSeq (sRegion [iOp (put 2) (.v false (oEv ⟨fun _ => .bool false⟩))])
    (sEx .ret)))⟩
theorem d18 : denF Try.prog 18 = some c18 := denF_of (by kernel_rfl)
/-- bollard/packet.Bundle -/
noncomputable def c20 : CF := ⟨13, [.tmp (sel 2), .tmp (sel 3)],
  sSeq (sRegion [iOp (put 2) (.v false (oEv ⟨fun _ => .slice none 0 0⟩)),
    iOp (put 3) (.v false (oEv ⟨fun _ => .int .i64 0⟩))])
  (sSeq (sBlock 0 (sSeq (sRegion [iOp (put 5) (.v false (oEv (sel 0))),
       iOp (put 6) (.e (eCallF 27 [(sel 5), ⟨fun _ => .func (.func 28) #[] #[]⟩])),
       iOp (put 4) (.v false (oEv (sel 6)))])
     (sCond (sel 4)
       (sSeq (sRegion [iOp (put 2) (.v false (oEv ⟨fun _ => .slice none 0 0⟩)),
          iOp (put 3) (.v false (oEv ⟨fun _ => .int .i64 1⟩))])
        (sEx .ret))
       (sSeq (sRegion [iOp (put 8) (.v false (oEv (sel 0))),
          iOp (put 9) (.e (eCallF 27 [(sel 8), ⟨fun _ => .func (.func 38) #[] #[]⟩])),
          iOp (put 7) (.v false (oEv (sel 9)))])
        (sCond (sel 7)
          (sSeq (sRegion [iOp (put 2) (.v false (oEv ⟨fun _ => .slice none 0 0⟩)),
             iOp (put 3) (.v false (oEv ⟨fun _ => .int .i64 10⟩))])
           (sEx .ret))
          (sEx .normal))))))
   (sSeq (sRegion [iOp (put 10) (.v false (oEv (sel 0))),
      iOp (put 11) (.e (eCallF 40 [(sel 10)])),
      iOp (put 12) (.e (eCallF 39 [(sel 11)])),
      iOp (put 2) (.v false (oEv (sel 12))),
      iOp (put 3) (.v false (oEv ⟨fun _ => .int .i64 0⟩))])
    (sEx .ret)))⟩
theorem d20 : denF Try.prog 20 = some c20 := denF_of (by kernel_rfl)
noncomputable def c22_0 : Vm.Sem := sSeq (sSeq (sRegion [iOp (put 11) (.v false (oEv (sel 5))),
    iOp (put 12) (.v false (oEv (sel 0))),
    iOp (put 13) (.v false (oLenS (sel 12))),
    iOp (put 14) (.v false (oInt2 fLss (sel 11) (sel 13)))])
  (sCond (sel 14)
    (sEx .normal)
    (sEx (.exit 0))))
 (sSeq (sBlock 1 (sSeq (sRegion [iOp (put 17) (.v false (oEv (sel 0))),
      iOp (put 18) (.v false (oEv (sel 5))),
      iOp (put 19) (.v false (oIndexAddrS 12 (sel 17) (sel 18))),
      iOp (put 20) (.v true (oLoadN 12 (sel 19))),
      iOp (put 21) (.v false (oEv (sel 1))),
      iOp (put 22) (.v false (oEv (sel 5))),
      iOp (put 23) (.v false (oIndexAddrS 12 (sel 21) (sel 22))),
      iOp (put 24) (.v true (oLoadN 12 (sel 23))),
      iOp (put 25) (.e (eCallF 42 [(sel 20), (sel 24)])),
      iOp (put 26) (.v false (oNot (sel 25)))])
    (sCond (sel 26)
      (sSeq (sRegion [iOp (put 4) (.v false (oEv ⟨fun _ => .bool false⟩))])
       (sEx .ret))
      (sEx .normal))))
  (sRegion [iOp (put 15) (.v false (oEv (sel 5))),
    iOp (put 16) (.v false (oInt2 fAdd (sel 15) ⟨fun _ => .int .i64 1⟩)),
    iOp (put 5) (.v false (oEv (sel 16)))]))
/-- bollard/bollardref08.SameChunks -/
noncomputable def c22 : CF := ⟨27, [.tmp (sel 4)],
  sSeq (sRegion [iOp (put 4) (.v false (oEv ⟨fun _ => .bool false⟩))])
  (sSeq (sSeq (sRegion [iOp (put 6) (.v false (oEv (sel 0))),
      iOp (put 7) (.v false (oLenS (sel 6))),
      iOp (put 8) (.v false (oEv (sel 1))),
      iOp (put 9) (.v false (oLenS (sel 8))),
      iOp (put 10) (.v false (oNe (.one 1) (sel 7) (sel 9)))])
    (sCond (sel 10)
      (sSeq (sRegion [iOp (put 4) (.v false (oEv ⟨fun _ => .bool false⟩))])
       (sEx .ret))
      (sEx .normal)))
   (sSeq (sSeq (sRegion [iOp (put 5) (.v false (oEv ⟨fun _ => .int .i64 0⟩))])
     (sBlock 0 (sLoop c22_0)))
    (sSeq (sRegion [iOp (put 4) (.v false (oEv ⟨fun _ => .bool true⟩))])
     (sEx .ret))))⟩
theorem d22 : denF Try.prog 22 = some c22 := denF_of (by kernel_rfl)
noncomputable def c23_0 : Vm.Sem := sSeq (sSeq (sRegion [iOp (put 3) (.v false (oEv (sel 2))),
    iOp (put 4) (.v false (oInt2 fLss (sel 3) ⟨fun _ => .int .i64 256⟩))])
  (sCond (sel 4)
    (sEx .normal)
    (sEx (.exit 0))))
 (sSeq (sBlock 1 (sRegion [iOp (put 7) (.v false (oEv (sel 1))),
     iOp (put 8) (.v false (oEv (sel 2))),
     iOp (put 9) (.e (eCallF 43 [(sel 8)])),
     iOp (put 10) (.a (aBuildSlice 24 1 (rep 1 [.int .u32 0]) [(0, 1, (sel 9))])),
     iOp (put 11) (.e (eAppend 24 1 4 (sel 7) (sel 10))),
     iOp (put 1) (.v false (oEv (sel 11)))]))
  (sRegion [iOp (put 5) (.v false (oEv (sel 2))),
    iOp (put 6) (.v false (oInt2 fAdd (sel 5) ⟨fun _ => .int .i64 1⟩)),
    iOp (put 2) (.v false (oEv (sel 6)))]))
/-- bollard/bollardlaw08.table -/
noncomputable def c23 : CF := ⟨13, [.tmp (sel 0)],
  sSeq (sRegion [iOp (put 0) (.v false (oEv ⟨fun _ => .slice none 0 0⟩))])
  (sSeq (sRegion [iOp (put 1) (.v false (oEv ⟨fun _ => .slice none 0 0⟩))])
   (sSeq (sSeq (sRegion [iOp (put 2) (.v false (oEv ⟨fun _ => .int .i64 0⟩))])
     (sBlock 0 (sLoop c23_0)))
    (sSeq (sRegion [iOp (put 12) (.v false (oEv (sel 1))),
       iOp (put 0) (.v false (oEv (sel 12)))])
     (sEx .ret))))⟩
theorem d23 : denF Try.prog 23 = some c23 := denF_of (by kernel_rfl)
/-- bollard/packet.Decode -/
noncomputable def c24 : CF := ⟨68, [.agg (sel 4) 4, .tmp (sel 5)],
  sSeq (sRegion [iOp (put 4) (.a (aAlloc 27 [.int .u16 0, .int .u16 0, .int .u32 0, .slice none 0 0])),
    iOp (put 5) (.v false (oEv ⟨fun _ => .int .i64 0⟩))])
  (sSeq (sBlock 0 (sSeq (sRegion [iOp (put 16) (.v false (oEv (sel 0))),
       iOp (put 17) (.v false (oLenS (sel 16))),
       iOp (put 18) (.v false (oNe (.one 1) (sel 17) ⟨fun _ => .int .i64 256⟩)),
       iOp (put 15) (.v false (oEv (sel 18)))])
     (sCond (sel 15)
       (sSeq (sRegion [iOp (put 19) (.v false (oBuild [.int .u16 0, .int .u16 0, .int .u32 0, .slice none 0 0] [])),
          iOp ⟨fun _ a => a⟩ (.e (eStore 4 (sel 4) (sel 19))),
          iOp (put 5) (.v false (oEv ⟨fun _ => .int .i64 1⟩))])
        (sEx .ret))
       (sSeq (sRegion [iOp (put 21) (.v false (oEv (sel 1))),
          iOp (put 22) (.v false (oLenS (sel 21))),
          iOp (put 23) (.v false (oInt2 fGtr (sel 22) ⟨fun _ => .int .i64 1200⟩)),
          iOp (put 20) (.v false (oEv (sel 23)))])
        (sCond (sel 20)
          (sSeq (sRegion [iOp (put 24) (.v false (oBuild [.int .u16 0, .int .u16 0, .int .u32 0, .slice none 0 0] [])),
             iOp ⟨fun _ a => a⟩ (.e (eStore 4 (sel 4) (sel 24))),
             iOp (put 5) (.v false (oEv ⟨fun _ => .int .i64 10⟩))])
           (sEx .ret))
          (sSeq (sRegion [iOp (put 26) (.v false (oEv (sel 1))),
             iOp (put 27) (.v false (oLenS (sel 26))),
             iOp (put 28) (.v false (oInt2 fLss (sel 27) ⟨fun _ => .int .i64 16⟩)),
             iOp (put 25) (.v false (oEv (sel 28)))])
           (sCond (sel 25)
             (sSeq (sRegion [iOp (put 29) (.v false (oBuild [.int .u16 0, .int .u16 0, .int .u32 0, .slice none 0 0] [])),
                iOp ⟨fun _ a => a⟩ (.e (eStore 4 (sel 4) (sel 29))),
                iOp (put 5) (.v false (oEv ⟨fun _ => .int .i64 2⟩))])
              (sEx .ret))
             (sSeq (sRegion [iOp (put 31) (.v false (oEv (sel 0))),
                iOp (put 32) (.v false (oEv (sel 1))),
                iOp (put 33) (.e (eCallF 44 [(sel 31), (sel 32)])),
                iOp (put 34) (.v false (oNot (sel 33))),
                iOp (put 30) (.v false (oEv (sel 34)))])
              (sCond (sel 30)
                (sSeq (sRegion [iOp (put 35) (.v false (oBuild [.int .u16 0, .int .u16 0, .int .u32 0, .slice none 0 0] [])),
                   iOp ⟨fun _ a => a⟩ (.e (eStore 4 (sel 4) (sel 35))),
                   iOp (put 5) (.v false (oEv ⟨fun _ => .int .i64 4⟩))])
                 (sEx .ret))
                (sEx .normal))))))))))
   (sSeq (sRegion [iOp (put 37) (.v false (oEv (sel 1))),
      iOp (put 38) (.v false (oSlice 1 (sel 37) (some ⟨fun _ => .int .i64 12⟩) none none)),
      iOp (put 39) (.e (eCallF 45 [(sel 38)])),
      iOp (put 36) (.v false (oEv (sel 39))),
      iOp (put 40) (.v false (oExtract (sel 36) 0)),
      iOp (put 41) (.v false (oExtract (sel 36) 1)),
      iOp (put 6) (.v false (oEv (sel 40))),
      iOp (put 7) (.v false (oEv (sel 41)))])
    (sSeq (sSeq (sRegion [iOp (put 42) (.v false (oEv (sel 7))),
        iOp (put 43) (.v false (oNe (.one 1) (sel 42) ⟨fun _ => .int .i64 0⟩))])
      (sCond (sel 43)
        (sSeq (sRegion [iOp (put 44) (.v false (oBuild [.int .u16 0, .int .u16 0, .int .u32 0, .slice none 0 0] [])),
           iOp (put 45) (.v false (oEv (sel 7))),
           iOp ⟨fun _ a => a⟩ (.e (eStore 4 (sel 4) (sel 44))),
           iOp (put 5) (.v false (oEv (sel 45)))])
         (sEx .ret))
        (sEx .normal)))
     (sSeq (sRegion [iOp (put 46) (.v false (oEv (sel 1))),
        iOp (put 47) (.e (eCallF 46 [(sel 46)])),
        iOp (put 8) (.v false (oEv (sel 47)))])
      (sSeq (sRegion [iOp (put 49) (.v false (oEv (sel 8))),
         iOp (put 50) (.e (eCallF 47 [(sel 49)])),
         iOp (put 48) (.v false (oEv (sel 50))),
         iOp (put 51) (.v false (oExtract (sel 48) 0)),
         iOp (put 52) (.v false (oExtract (sel 48) 1)),
         iOp (put 9) (.v false (oEv (sel 51))),
         iOp (put 10) (.v false (oEv (sel 52)))])
       (sSeq (sRegion [iOp (put 54) (.v false (oEv (sel 8))),
          iOp (put 55) (.e (eCallF 47 [(sel 54)])),
          iOp (put 53) (.v false (oEv (sel 55))),
          iOp (put 56) (.v false (oExtract (sel 53) 0)),
          iOp (put 57) (.v false (oExtract (sel 53) 1)),
          iOp (put 11) (.v false (oEv (sel 56))),
          iOp (put 12) (.v false (oEv (sel 57)))])
        (sSeq (sRegion [iOp (put 59) (.v false (oEv (sel 8))),
           iOp (put 60) (.e (eCallF 48 [(sel 59)])),
           iOp (put 58) (.v false (oEv (sel 60))),
           iOp (put 61) (.v false (oExtract (sel 58) 0)),
           iOp (put 62) (.v false (oExtract (sel 58) 1)),
           iOp (put 13) (.v false (oEv (sel 61))),
           iOp (put 14) (.v false (oEv (sel 62)))])
         (sSeq (sRegion [iOp (put 63) (.v false (oEv (sel 9))),
            iOp (put 64) (.v false (oEv (sel 11))),
            iOp (put 65) (.v false (oEv (sel 13))),
            iOp (put 66) (.v false (oEv (sel 6))),
            iOp (put 67) (.v false (oBuild [.int .u16 0, .int .u16 0, .int .u32 0, .slice none 0 0] [(0, 1, (sel 63)), (1, 1, (sel 64)), (2, 1, (sel 65)), (3, 1, (sel 66))])),
            iOp ⟨fun _ a => a⟩ (.e (eStore 4 (sel 4) (sel 67))),
            iOp (put 5) (.v false (oEv ⟨fun _ => .int .i64 0⟩))])
          (sEx .ret)))))))))⟩
theorem d24 : denF Try.prog 24 = some c24 := denF_of (by kernel_rfl)
/-- bollard/bollardref08.Same -/
noncomputable def c25 : CF := ⟨31, [.tmp (sel 4)],
  sSeq (sRegion [iOp (put 2) (.a (aBox 27 (sel 0))),
    iOp (put 3) (.a (aBox 27 (sel 1))),
    iOp (put 4) (.v false (oEv ⟨fun _ => .bool false⟩))])
  (sSeq (sRegion [iOp (put 5) (.v false (oFieldAddr 0 (sel 2))),
     iOp (put 6) (.v true (oLoad1 (sel 5))),
     iOp (put 7) (.v false (oFieldAddr 0 (sel 3))),
     iOp (put 8) (.v true (oLoad1 (sel 7))),
     iOp (put 9) (.v false (oEq (.one 1) (sel 6) (sel 8))),
     iOp (put 10) (.v false (oEv (sel 9))),
     iGuard (sel 10) true (put 11) (iOp (put 11) (.v false (oFieldAddr 1 (sel 2)))),
     iGuard (sel 10) true (put 12) (iOp (put 12) (.v true (oLoad1 (sel 11)))),
     iGuard (sel 10) true (put 13) (iOp (put 13) (.v false (oFieldAddr 1 (sel 3)))),
     iGuard (sel 10) true (put 14) (iOp (put 14) (.v true (oLoad1 (sel 13)))),
     iGuard (sel 10) true (put 15) (iOp (put 15) (.v false (oEq (.one 1) (sel 12) (sel 14)))),
     iOp (put 16) (.v false (oPick (sel 10) (sel 15) ⟨fun _ => .bool false⟩)),
     iOp (put 17) (.v false (oEv (sel 16))),
     iGuard (sel 17) true (put 18) (iOp (put 18) (.v false (oFieldAddr 2 (sel 2)))),
     iGuard (sel 17) true (put 19) (iOp (put 19) (.v true (oLoad1 (sel 18)))),
     iGuard (sel 17) true (put 20) (iOp (put 20) (.v false (oFieldAddr 2 (sel 3)))),
     iGuard (sel 17) true (put 21) (iOp (put 21) (.v true (oLoad1 (sel 20)))),
     iGuard (sel 17) true (put 22) (iOp (put 22) (.v false (oEq (.one 1) (sel 19) (sel 21)))),
     iOp (put 23) (.v false (oPick (sel 17) (sel 22) ⟨fun _ => .bool false⟩)),
     iOp (put 24) (.v false (oEv (sel 23))),
     iGuard (sel 24) true (put 25) (iOp (put 25) (.v false (oFieldAddr 3 (sel 2)))),
     iGuard (sel 24) true (put 26) (iOp (put 26) (.v true (oLoad1 (sel 25)))),
     iGuard (sel 24) true (put 27) (iOp (put 27) (.v false (oFieldAddr 3 (sel 3)))),
     iGuard (sel 24) true (put 28) (iOp (put 28) (.v true (oLoad1 (sel 27)))),
     iGuard (sel 24) true (put 29) (iOp (put 29) (.e (eCallF 22 [(sel 26), (sel 28)]))),
     iOp (put 30) (.v false (oPick (sel 24) (sel 29) ⟨fun _ => .bool false⟩)),
     iOp (put 4) (.v false (oEv (sel 30)))])
   (sEx .ret))⟩
theorem d25 : denF Try.prog 25 = some c25 := denF_of (by kernel_rfl)
/-- bollard/packet.mixed -/
noncomputable def c26 : CF := ⟨10, [.tmp (sel 2)],
  sSeq (sRegion [iOp (put 2) (.v false (oEv ⟨fun _ => .bool false⟩))])
  (sSeq (sRegion [iOp (put 3) (.v false (oEv (sel 0))),
     iOp (put 4) (.v false (oLenS (sel 3))),
     iOp (put 5) (.v false (oInt2 fGtr (sel 4) ⟨fun _ => .int .i64 1⟩)),
     iOp (put 6) (.v false (oEv (sel 5))),
     iGuard (sel 6) true (put 7) (iOp (put 7) (.v false (oEv (sel 0)))),
     iGuard (sel 6) true (put 8) (iOp (put 8) (.e (eCallF 27 [(sel 7), ⟨fun _ => .func (.func 49) #[] #[]⟩]))),
     iOp (put 9) (.v false (oPick (sel 6) (sel 8) ⟨fun _ => .bool false⟩)),
     iOp (put 2) (.v false (oEv (sel 9)))])
   (sEx .ret))⟩
theorem d26 : denF Try.prog 26 = some c26 := denF_of (by kernel_rfl)
/-- slices.ContainsFunc[[]bollard/api.Chunk,bollard/api.Chunk] -/
noncomputable def c27 : CF := ⟨9, [.tmp (sel 4)],
  sSeq (sRegion [iOp (put 4) (.v false (oEv ⟨fun _ => .bool false⟩))])
  (sSeq (sRegion [iOp (put 5) (.v false (oEv (sel 0))),
     iOp (put 6) (.v false (oEv (sel 1))),
     iOp (put 7) (.e (eCallF 50 [(sel 5), (sel 6)])),
     iOp (put 8) (.v false (oInt2 fGeq (sel 7) ⟨fun _ => .int .i64 0⟩)),
     iOp (put 4) (.v false (oEv (sel 8)))])
   (sEx .ret))⟩
theorem d27 : denF Try.prog 27 = some c27 := denF_of (by kernel_rfl)
/-- bollard/packet.unshaped -/
noncomputable def c28 : CF := ⟨6, [.tmp (sel 2)],
  sSeq (sRegion [iOp (put 1) (.a (aBox 33 (sel 0))),
    iOp (put 2) (.v false (oEv ⟨fun _ => .bool false⟩))])
  (sSeq (sRegion [iOp (put 3) (.v true (oLoadN 12 (sel 1))),
     iOp (put 4) (.e (eCallF 51 [(sel 3)])),
     iOp (put 5) (.v false (oNot (sel 4))),
     iOp (put 2) (.v false (oEv (sel 5)))])
   (sEx .ret))⟩
theorem d28 : denF Try.prog 28 = some c28 := denF_of (by kernel_rfl)
/-- bollard/octet.Put32 -/
noncomputable def c29 : CF := ⟨19, [.tmp (sel 4)],
  sSeq (sRegion [iOp (put 4) (.v false (oEv ⟨fun _ => .slice none 0 0⟩))])
  (sSeq (sRegion [iOp (put 5) (.v false (oEv (sel 0))),
     iOp (put 6) (.v false (oEv (sel 1))),
     iOp (put 7) (.v false (oSh fShr (sel 6) ⟨fun _ => .int .u64 24⟩)),
     iOp (put 8) (.v false (oConvInt .u8 (sel 7))),
     iOp (put 9) (.v false (oEv (sel 1))),
     iOp (put 10) (.v false (oSh fShr (sel 9) ⟨fun _ => .int .u64 16⟩)),
     iOp (put 11) (.v false (oConvInt .u8 (sel 10))),
     iOp (put 12) (.v false (oEv (sel 1))),
     iOp (put 13) (.v false (oSh fShr (sel 12) ⟨fun _ => .int .u64 8⟩)),
     iOp (put 14) (.v false (oConvInt .u8 (sel 13))),
     iOp (put 15) (.v false (oEv (sel 1))),
     iOp (put 16) (.v false (oConvInt .u8 (sel 15))),
     iOp (put 17) (.a (aBuildSlice 5 4 (rep 4 [.int .u8 0]) [(0, 1, (sel 8)), (1, 1, (sel 11)), (2, 1, (sel 14)), (3, 1, (sel 16))])),
     iOp (put 18) (.e (eCallF 52 [(sel 5), (sel 17)])),
     iOp (put 4) (.v false (oEv (sel 18)))])
   (sEx .ret))⟩
theorem d29 : denF Try.prog 29 = some c29 := denF_of (by kernel_rfl)
/-- bollard/octet.Put16 -/
noncomputable def c30 : CF := ⟨13, [.tmp (sel 4)],
  sSeq (sRegion [iOp (put 4) (.v false (oEv ⟨fun _ => .slice none 0 0⟩))])
  (sSeq (sRegion [iOp (put 5) (.v false (oEv (sel 0))),
     iOp (put 6) (.v false (oEv (sel 1))),
     iOp (put 7) (.v false (oSh fShr (sel 6) ⟨fun _ => .int .u64 8⟩)),
     iOp (put 8) (.v false (oConvInt .u8 (sel 7))),
     iOp (put 9) (.v false (oEv (sel 1))),
     iOp (put 10) (.v false (oConvInt .u8 (sel 9))),
     iOp (put 11) (.a (aBuildSlice 5 2 (rep 2 [.int .u8 0]) [(0, 1, (sel 8)), (1, 1, (sel 10))])),
     iOp (put 12) (.e (eCallF 52 [(sel 5), (sel 11)])),
     iOp (put 4) (.v false (oEv (sel 12)))])
   (sEx .ret))⟩
theorem d30 : denF Try.prog 30 = some c30 := denF_of (by kernel_rfl)
/-- bollard/chunk.Encode -/
noncomputable def c31 : CF := ⟨29, [.tmp (sel 2), .tmp (sel 3)],
  sSeq (sRegion [iOp (put 1) (.a (aBox 33 (sel 0))),
    iOp (put 2) (.v false (oEv ⟨fun _ => .slice none 0 0⟩)),
    iOp (put 3) (.v false (oEv ⟨fun _ => .int .i64 0⟩))])
  (sSeq (sSeq (sRegion [iOp (put 6) (.v true (oLoadN 12 (sel 1))),
      iOp (put 7) (.e (eCallF 51 [(sel 6)])),
      iOp (put 8) (.v false (oNot (sel 7)))])
    (sCond (sel 8)
      (sSeq (sRegion [iOp (put 2) (.v false (oEv ⟨fun _ => .slice none 0 0⟩)),
         iOp (put 3) (.v false (oEv ⟨fun _ => .int .i64 1⟩))])
       (sEx .ret))
      (sEx .normal)))
   (sSeq (sRegion [iOp (put 9) (.v true (oLoadN 12 (sel 1))),
      iOp (put 10) (.e (eCallF 53 [(sel 9)])),
      iOp (put 4) (.v false (oEv (sel 10)))])
    (sSeq (sSeq (sRegion [iOp (put 11) (.v false (oEv (sel 4))),
        iOp (put 12) (.v false (oLenS (sel 11))),
        iOp (put 13) (.v false (oInt2 fAdd ⟨fun _ => .int .i64 4⟩ (sel 12))),
        iOp (put 14) (.v false (oInt2 fGtr (sel 13) ⟨fun _ => .int .i64 65535⟩))])
      (sCond (sel 14)
        (sSeq (sRegion [iOp (put 2) (.v false (oEv ⟨fun _ => .slice none 0 0⟩)),
           iOp (put 3) (.v false (oEv ⟨fun _ => .int .i64 10⟩))])
         (sEx .ret))
        (sEx .normal)))
     (sSeq (sRegion [iOp (put 15) (.v false (oFieldAddr 0 (sel 1))),
        iOp (put 16) (.v true (oLoad1 (sel 15))),
        iOp (put 17) (.v false (oFieldAddr 1 (sel 1))),
        iOp (put 18) (.v true (oLoad1 (sel 17))),
        iOp (put 19) (.a (aBuildSlice 5 2 (rep 2 [.int .u8 0]) [(0, 1, (sel 16)), (1, 1, (sel 18))])),
        iOp (put 20) (.v false (oEv (sel 4))),
        iOp (put 21) (.v false (oLenS (sel 20))),
        iOp (put 22) (.v false (oInt2 fAdd ⟨fun _ => .int .i64 4⟩ (sel 21))),
        iOp (put 23) (.v false (oConvInt .u16 (sel 22))),
        iOp (put 24) (.e (eCallF 30 [(sel 19), (sel 23)])),
        iOp (put 5) (.v false (oEv (sel 24)))])
      (sSeq (sRegion [iOp (put 25) (.v false (oEv (sel 5))),
         iOp (put 26) (.v false (oEv (sel 4))),
         iOp (put 27) (.e (eAppend 5 1 1 (sel 25) (sel 26))),
         iOp (put 28) (.e (eCallF 54 [(sel 27)])),
         iOp (put 2) (.v false (oEv (sel 28))),
         iOp (put 3) (.v false (oEv ⟨fun _ => .int .i64 0⟩))])
       (sEx .ret))))))⟩
theorem d31 : denF Try.prog 31 = some c31 := denF_of (by kernel_rfl)
/-- bollard/crc.Sum -/
noncomputable def c32 : CF := ⟨12, [.tmp (sel 4)],
  sSeq (sRegion [iOp (put 4) (.v false (oEv ⟨fun _ => .int .u32 0⟩))])
  (sSeq (sSeq (sRegion [iOp (put 5) (.v false (oEv (sel 0))),
      iOp (put 6) (.v false (oLenS (sel 5))),
      iOp (put 7) (.v false (oNe (.one 1) (sel 6) ⟨fun _ => .int .i64 256⟩))])
    (sCond (sel 7)
      (sSeq (sRegion [iOp (put 4) (.v false (oEv ⟨fun _ => .int .u32 0⟩))])
       (sEx .ret))
      (sEx .normal)))
   (sSeq (sRegion [iOp (put 8) (.v false (oEv (sel 0))),
      iOp (put 9) (.v false (oEv (sel 1))),
      iOp (put 10) (.e (eCallF 55 [(sel 8), ⟨fun _ => .int .u32 4294967295⟩, (sel 9)])),
      iOp (put 11) (.v false (oCom (sel 10))),
      iOp (put 4) (.v false (oEv (sel 11)))])
    (sEx .ret)))⟩
theorem d32 : denF Try.prog 32 = some c32 := denF_of (by kernel_rfl)
noncomputable def c34_0 : Vm.Sem := sSeq (sSeq (sRegion [iOp (put 14) (.v false (oEv (sel 8))),
    iOp (put 15) (.v false (oInt2 fGeq (sel 14) ⟨fun _ => .int .i64 0⟩))])
  (sCond (sel 15)
    (sEx .normal)
    (sEx (.exit 0))))
 (sSeq (sBlock 1 (sRegion [iOp (put 18) (.v false (oEv (sel 7))),
     iOp (put 19) (.v false (oEv (sel 1))),
     iOp (put 20) (.v false (oEv (sel 8))),
     iOp (put 21) (.v false (oInt2 fMul ⟨fun _ => .int .i64 8⟩ (sel 20))),
     iOp (put 22) (.v false (oConvInt .u64 (sel 21))),
     iOp (put 23) (.v false (oSh fShr (sel 19) (sel 22))),
     iOp (put 24) (.v false (oConvInt .u8 (sel 23))),
     iOp (put 25) (.a (aBuildSlice 5 1 (rep 1 [.int .u8 0]) [(0, 1, (sel 24))])),
     iOp (put 26) (.e (eAppend 5 1 1 (sel 18) (sel 25))),
     iOp (put 7) (.v false (oEv (sel 26)))]))
  (sRegion [iOp (put 16) (.v false (oEv (sel 8))),
    iOp (put 17) (.v false (oInt2 fSub (sel 16) ⟨fun _ => .int .i64 1⟩)),
    iOp (put 8) (.v false (oEv (sel 17)))]))
/-- bollard/bollardref01.Put -/
noncomputable def c34 : CF := ⟨28, [.tmp (sel 6)],
  sSeq (sRegion [iOp (put 6) (.v false (oEv ⟨fun _ => .slice none 0 0⟩))])
  (sSeq (sRegion [iOp (put 7) (.v false (oEv ⟨fun _ => .slice none 0 0⟩))])
   (sSeq (sRegion [iOp (put 9) (.v false (oEv (sel 7))),
      iOp (put 10) (.v false (oEv (sel 0))),
      iOp (put 11) (.e (eAppend 5 1 1 (sel 9) (sel 10))),
      iOp (put 7) (.v false (oEv (sel 11)))])
    (sSeq (sSeq (sRegion [iOp (put 12) (.v false (oEv (sel 2))),
        iOp (put 13) (.v false (oInt2 fSub (sel 12) ⟨fun _ => .int .i64 1⟩)),
        iOp (put 8) (.v false (oEv (sel 13)))])
      (sBlock 0 (sLoop c34_0)))
     (sSeq (sRegion [iOp (put 27) (.v false (oEv (sel 7))),
        iOp (put 6) (.v false (oEv (sel 27)))])
      (sEx .ret)))))⟩
theorem d34 : denF Try.prog 34 = some c34 := denF_of (by kernel_rfl)
/-- bollard/packet.Bundle$1 -/
noncomputable def c38 : CF := ⟨6, [.tmp (sel 2)],
  sSeq (sRegion [iOp (put 1) (.a (aBox 33 (sel 0))),
    iOp (put 2) (.v false (oEv ⟨fun _ => .bool false⟩))])
  (sSeq (sRegion [iOp (put 3) (.v true (oLoadN 12 (sel 1))),
     iOp (put 4) (.e (eCallF 16 [(sel 3)])),
     iOp (put 5) (.v false (oInt2 fGtr (sel 4) ⟨fun _ => .int .i64 1188⟩)),
     iOp (put 2) (.v false (oEv (sel 5)))])
   (sEx .ret))⟩
theorem d38 : denF Try.prog 38 = some c38 := denF_of (by kernel_rfl)
/-- slices.Collect[[]bollard/api.Chunk] -/
noncomputable def c39 : CF := ⟨5, [.tmp (sel 2)],
  sSeq (sRegion [iOp (put 2) (.v false (oEv ⟨fun _ => .slice none 0 0⟩))])
  (sSeq (sRegion [iOp (put 3) (.v false (oEv (sel 0))),
     iOp (put 4) (.e (eCallF 60 [⟨fun _ => .slice none 0 0⟩, (sel 3)])),
     iOp (put 2) (.v false (oEv (sel 4)))])
   (sEx .ret))⟩
theorem d39 : denF Try.prog 39 = some c39 := denF_of (by kernel_rfl)
/-- bollard/packet.groups -/
noncomputable def c40 : CF := ⟨4, [.tmp (sel 2)],
  sSeq (sRegion [iOp (put 1) (.a (aBox 25 (sel 0))),
    iOp (put 2) (.v false (oEv ⟨fun _ => .nilFunc⟩))])
  (sSeq (sRegion [iOp (put 3) (.v false (oFunc (.func 61) [] [(sel 1)])),
     iOp (put 2) (.v false (oEv (sel 3)))])
   (sEx .ret))⟩
theorem d40 : denF Try.prog 40 = some c40 := denF_of (by kernel_rfl)
noncomputable def c42_0 : Vm.Sem := sSeq (sSeq (sRegion [iOp (put 99) (.v false (oEv (sel 5))),
    iOp (put 100) (.v false (oFieldAddr 7 (sel 2))),
    iOp (put 101) (.v true (oLoad1 (sel 100))),
    iOp (put 102) (.v false (oLenS (sel 101))),
    iOp (put 103) (.v false (oInt2 fLss (sel 99) (sel 102)))])
  (sCond (sel 103)
    (sEx .normal)
    (sEx (.exit 0))))
 (sSeq (sBlock 1 (sSeq (sRegion [iOp (put 106) (.v false (oFieldAddr 7 (sel 2))),
      iOp (put 107) (.v true (oLoad1 (sel 106))),
      iOp (put 108) (.v false (oEv (sel 5))),
      iOp (put 109) (.v false (oIndexAddrS 2 (sel 107) (sel 108))),
      iOp (put 110) (.v false (oFieldAddr 0 (sel 109))),
      iOp (put 111) (.v true (oLoad1 (sel 110))),
      iOp (put 112) (.v false (oFieldAddr 7 (sel 3))),
      iOp (put 113) (.v true (oLoad1 (sel 112))),
      iOp (put 114) (.v false (oEv (sel 5))),
      iOp (put 115) (.v false (oIndexAddrS 2 (sel 113) (sel 114))),
      iOp (put 116) (.v false (oFieldAddr 0 (sel 115))),
      iOp (put 117) (.v true (oLoad1 (sel 116))),
      iOp (put 118) (.v false (oNe (.one 1) (sel 111) (sel 117))),
      iOp (put 119) (.v false (oEv (sel 118))),
      iGuard (sel 119) false (put 120) (iOp (put 120) (.v false (oFieldAddr 7 (sel 2)))),
      iGuard (sel 119) false (put 121) (iOp (put 121) (.v true (oLoad1 (sel 120)))),
      iGuard (sel 119) false (put 122) (iOp (put 122) (.v false (oEv (sel 5)))),
      iGuard (sel 119) false (put 123) (iOp (put 123) (.v false (oIndexAddrS 2 (sel 121) (sel 122)))),
      iGuard (sel 119) false (put 124) (iOp (put 124) (.v false (oFieldAddr 1 (sel 123)))),
      iGuard (sel 119) false (put 125) (iOp (put 125) (.v true (oLoad1 (sel 124)))),
      iGuard (sel 119) false (put 126) (iOp (put 126) (.v false (oFieldAddr 7 (sel 3)))),
      iGuard (sel 119) false (put 127) (iOp (put 127) (.v true (oLoad1 (sel 126)))),
      iGuard (sel 119) false (put 128) (iOp (put 128) (.v false (oEv (sel 5)))),
      iGuard (sel 119) false (put 129) (iOp (put 129) (.v false (oIndexAddrS 2 (sel 127) (sel 128)))),
      iGuard (sel 119) false (put 130) (iOp (put 130) (.v false (oFieldAddr 1 (sel 129)))),
      iGuard (sel 119) false (put 131) (iOp (put 131) (.v true (oLoad1 (sel 130)))),
      iGuard (sel 119) false (put 132) (iOp (put 132) (.v false (oNe (.one 1) (sel 125) (sel 131)))),
      iOp (put 133) (.v false (oPick (sel 119) ⟨fun _ => .bool true⟩ (sel 132)))])
    (sCond (sel 133)
      (sSeq (sRegion [iOp (put 4) (.v false (oEv ⟨fun _ => .bool false⟩))])
       (sEx .ret))
      (sEx .normal))))
  (sRegion [iOp (put 104) (.v false (oEv (sel 5))),
    iOp (put 105) (.v false (oInt2 fAdd (sel 104) ⟨fun _ => .int .i64 1⟩)),
    iOp (put 5) (.v false (oEv (sel 105)))]))
noncomputable def c42_1 : Vm.Sem := sSeq (sSeq (sRegion [iOp (put 134) (.v false (oEv (sel 6))),
    iOp (put 135) (.v false (oFieldAddr 8 (sel 2))),
    iOp (put 136) (.v true (oLoad1 (sel 135))),
    iOp (put 137) (.v false (oLenS (sel 136))),
    iOp (put 138) (.v false (oInt2 fLss (sel 134) (sel 137)))])
  (sCond (sel 138)
    (sEx .normal)
    (sEx (.exit 2))))
 (sSeq (sBlock 3 (sSeq (sRegion [iOp (put 141) (.v false (oFieldAddr 8 (sel 2))),
      iOp (put 142) (.v true (oLoad1 (sel 141))),
      iOp (put 143) (.v false (oEv (sel 6))),
      iOp (put 144) (.v false (oIndexAddrS 1 (sel 142) (sel 143))),
      iOp (put 145) (.v true (oLoad1 (sel 144))),
      iOp (put 146) (.v false (oFieldAddr 8 (sel 3))),
      iOp (put 147) (.v true (oLoad1 (sel 146))),
      iOp (put 148) (.v false (oEv (sel 6))),
      iOp (put 149) (.v false (oIndexAddrS 1 (sel 147) (sel 148))),
      iOp (put 150) (.v true (oLoad1 (sel 149))),
      iOp (put 151) (.v false (oNe (.one 1) (sel 145) (sel 150)))])
    (sCond (sel 151)
      (sSeq (sRegion [iOp (put 4) (.v false (oEv ⟨fun _ => .bool false⟩))])
       (sEx .ret))
      (sEx .normal))))
  (sRegion [iOp (put 139) (.v false (oEv (sel 6))),
    iOp (put 140) (.v false (oInt2 fAdd (sel 139) ⟨fun _ => .int .i64 1⟩)),
    iOp (put 6) (.v false (oEv (sel 140)))]))
noncomputable def c42_2 : Vm.Sem := sSeq (sSeq (sRegion [iOp (put 152) (.v false (oEv (sel 7))),
    iOp (put 153) (.v false (oFieldAddr 9 (sel 2))),
    iOp (put 154) (.v true (oLoad1 (sel 153))),
    iOp (put 155) (.v false (oLenS (sel 154))),
    iOp (put 156) (.v false (oInt2 fLss (sel 152) (sel 155)))])
  (sCond (sel 156)
    (sEx .normal)
    (sEx (.exit 4))))
 (sSeq (sBlock 5 (sSeq (sRegion [iOp (put 159) (.v false (oFieldAddr 9 (sel 2))),
      iOp (put 160) (.v true (oLoad1 (sel 159))),
      iOp (put 161) (.v false (oEv (sel 7))),
      iOp (put 162) (.v false (oIndexAddrS 2 (sel 160) (sel 161))),
      iOp (put 163) (.v false (oFieldAddr 0 (sel 162))),
      iOp (put 164) (.v true (oLoad1 (sel 163))),
      iOp (put 165) (.v false (oFieldAddr 9 (sel 3))),
      iOp (put 166) (.v true (oLoad1 (sel 165))),
      iOp (put 167) (.v false (oEv (sel 7))),
      iOp (put 168) (.v false (oIndexAddrS 2 (sel 166) (sel 167))),
      iOp (put 169) (.v false (oFieldAddr 0 (sel 168))),
      iOp (put 170) (.v true (oLoad1 (sel 169))),
      iOp (put 171) (.v false (oNe (.one 1) (sel 164) (sel 170))),
      iOp (put 172) (.v false (oEv (sel 171))),
      iGuard (sel 172) false (put 173) (iOp (put 173) (.v false (oFieldAddr 9 (sel 2)))),
      iGuard (sel 172) false (put 174) (iOp (put 174) (.v true (oLoad1 (sel 173)))),
      iGuard (sel 172) false (put 175) (iOp (put 175) (.v false (oEv (sel 7)))),
      iGuard (sel 172) false (put 176) (iOp (put 176) (.v false (oIndexAddrS 2 (sel 174) (sel 175)))),
      iGuard (sel 172) false (put 177) (iOp (put 177) (.v false (oFieldAddr 1 (sel 176)))),
      iGuard (sel 172) false (put 178) (iOp (put 178) (.v true (oLoad1 (sel 177)))),
      iGuard (sel 172) false (put 179) (iOp (put 179) (.v false (oFieldAddr 9 (sel 3)))),
      iGuard (sel 172) false (put 180) (iOp (put 180) (.v true (oLoad1 (sel 179)))),
      iGuard (sel 172) false (put 181) (iOp (put 181) (.v false (oEv (sel 7)))),
      iGuard (sel 172) false (put 182) (iOp (put 182) (.v false (oIndexAddrS 2 (sel 180) (sel 181)))),
      iGuard (sel 172) false (put 183) (iOp (put 183) (.v false (oFieldAddr 1 (sel 182)))),
      iGuard (sel 172) false (put 184) (iOp (put 184) (.v true (oLoad1 (sel 183)))),
      iGuard (sel 172) false (put 185) (iOp (put 185) (.v false (oNe (.one 1) (sel 178) (sel 184)))),
      iOp (put 186) (.v false (oPick (sel 172) ⟨fun _ => .bool true⟩ (sel 185)))])
    (sCond (sel 186)
      (sSeq (sRegion [iOp (put 4) (.v false (oEv ⟨fun _ => .bool false⟩))])
       (sEx .ret))
      (sEx .normal))))
  (sRegion [iOp (put 157) (.v false (oEv (sel 7))),
    iOp (put 158) (.v false (oInt2 fAdd (sel 157) ⟨fun _ => .int .i64 1⟩)),
    iOp (put 7) (.v false (oEv (sel 158)))]))
/-- bollard/bollardref07.Same -/
noncomputable def c42 : CF := ⟨187, [.tmp (sel 4)],
  sSeq (sRegion [iOp (put 2) (.a (aBox 33 (sel 0))),
    iOp (put 3) (.a (aBox 33 (sel 1))),
    iOp (put 4) (.v false (oEv ⟨fun _ => .bool false⟩))])
  (sSeq (sSeq (sRegion [iOp (put 8) (.v false (oFieldAddr 0 (sel 2))),
      iOp (put 9) (.v true (oLoad1 (sel 8))),
      iOp (put 10) (.v false (oFieldAddr 0 (sel 3))),
      iOp (put 11) (.v true (oLoad1 (sel 10))),
      iOp (put 12) (.v false (oNe (.one 1) (sel 9) (sel 11))),
      iOp (put 13) (.v false (oEv (sel 12))),
      iGuard (sel 13) false (put 14) (iOp (put 14) (.v false (oFieldAddr 1 (sel 2)))),
      iGuard (sel 13) false (put 15) (iOp (put 15) (.v true (oLoad1 (sel 14)))),
      iGuard (sel 13) false (put 16) (iOp (put 16) (.v false (oFieldAddr 1 (sel 3)))),
      iGuard (sel 13) false (put 17) (iOp (put 17) (.v true (oLoad1 (sel 16)))),
      iGuard (sel 13) false (put 18) (iOp (put 18) (.v false (oNe (.one 1) (sel 15) (sel 17)))),
      iOp (put 19) (.v false (oPick (sel 13) ⟨fun _ => .bool true⟩ (sel 18))),
      iOp (put 20) (.v false (oEv (sel 19))),
      iGuard (sel 20) false (put 21) (iOp (put 21) (.v false (oFieldAddr 2 (sel 2)))),
      iGuard (sel 20) false (put 22) (iOp (put 22) (.v true (oLoad1 (sel 21)))),
      iGuard (sel 20) false (put 23) (iOp (put 23) (.v false (oFieldAddr 2 (sel 3)))),
      iGuard (sel 20) false (put 24) (iOp (put 24) (.v true (oLoad1 (sel 23)))),
      iGuard (sel 20) false (put 25) (iOp (put 25) (.v false (oNe (.one 1) (sel 22) (sel 24)))),
      iOp (put 26) (.v false (oPick (sel 20) ⟨fun _ => .bool true⟩ (sel 25))),
      iOp (put 27) (.v false (oEv (sel 26))),
      iGuard (sel 27) false (put 28) (iOp (put 28) (.v false (oFieldAddr 3 (sel 2)))),
      iGuard (sel 27) false (put 29) (iOp (put 29) (.v true (oLoad1 (sel 28)))),
      iGuard (sel 27) false (put 30) (iOp (put 30) (.v false (oFieldAddr 3 (sel 3)))),
      iGuard (sel 27) false (put 31) (iOp (put 31) (.v true (oLoad1 (sel 30)))),
      iGuard (sel 27) false (put 32) (iOp (put 32) (.v false (oNe (.one 1) (sel 29) (sel 31)))),
      iOp (put 33) (.v false (oPick (sel 27) ⟨fun _ => .bool true⟩ (sel 32))),
      iOp (put 34) (.v false (oEv (sel 33))),
      iGuard (sel 34) false (put 35) (iOp (put 35) (.v false (oFieldAddr 4 (sel 2)))),
      iGuard (sel 34) false (put 36) (iOp (put 36) (.v true (oLoad1 (sel 35)))),
      iGuard (sel 34) false (put 37) (iOp (put 37) (.v false (oFieldAddr 4 (sel 3)))),
      iGuard (sel 34) false (put 38) (iOp (put 38) (.v true (oLoad1 (sel 37)))),
      iGuard (sel 34) false (put 39) (iOp (put 39) (.v false (oNe (.one 1) (sel 36) (sel 38)))),
      iOp (put 40) (.v false (oPick (sel 34) ⟨fun _ => .bool true⟩ (sel 39))),
      iOp (put 41) (.v false (oEv (sel 40))),
      iGuard (sel 41) false (put 42) (iOp (put 42) (.v false (oFieldAddr 5 (sel 2)))),
      iGuard (sel 41) false (put 43) (iOp (put 43) (.v true (oLoad1 (sel 42)))),
      iGuard (sel 41) false (put 44) (iOp (put 44) (.v false (oFieldAddr 5 (sel 3)))),
      iGuard (sel 41) false (put 45) (iOp (put 45) (.v true (oLoad1 (sel 44)))),
      iGuard (sel 41) false (put 46) (iOp (put 46) (.v false (oNe (.one 1) (sel 43) (sel 45)))),
      iOp (put 47) (.v false (oPick (sel 41) ⟨fun _ => .bool true⟩ (sel 46))),
      iOp (put 48) (.v false (oEv (sel 47))),
      iGuard (sel 48) false (put 49) (iOp (put 49) (.v false (oFieldAddr 6 (sel 2)))),
      iGuard (sel 48) false (put 50) (iOp (put 50) (.v true (oLoad1 (sel 49)))),
      iGuard (sel 48) false (put 51) (iOp (put 51) (.v false (oFieldAddr 6 (sel 3)))),
      iGuard (sel 48) false (put 52) (iOp (put 52) (.v true (oLoad1 (sel 51)))),
      iGuard (sel 48) false (put 53) (iOp (put 53) (.v false (oNe (.one 1) (sel 50) (sel 52)))),
      iOp (put 54) (.v false (oPick (sel 48) ⟨fun _ => .bool true⟩ (sel 53))),
      iOp (put 55) (.v false (oEv (sel 54))),
      iGuard (sel 55) false (put 56) (iOp (put 56) (.v false (oFieldAddr 11 (sel 2)))),
      iGuard (sel 55) false (put 57) (iOp (put 57) (.v true (oLoad1 (sel 56)))),
      iGuard (sel 55) false (put 58) (iOp (put 58) (.v true (oToString (sel 57)))),
      iGuard (sel 55) false (put 59) (iOp (put 59) (.v false (oFieldAddr 11 (sel 3)))),
      iGuard (sel 55) false (put 60) (iOp (put 60) (.v true (oLoad1 (sel 59)))),
      iGuard (sel 55) false (put 61) (iOp (put 61) (.v true (oToString (sel 60)))),
      iGuard (sel 55) false (put 62) (iOp (put 62) (.v false (oNe (.one 2) (sel 58) (sel 61)))),
      iOp (put 63) (.v false (oPick (sel 55) ⟨fun _ => .bool true⟩ (sel 62))),
      iOp (put 64) (.v false (oEv (sel 63))),
      iGuard (sel 64) false (put 65) (iOp (put 65) (.v false (oFieldAddr 10 (sel 2)))),
      iGuard (sel 64) false (put 66) (iOp (put 66) (.v true (oLoad1 (sel 65)))),
      iGuard (sel 64) false (put 67) (iOp (put 67) (.v false (oFieldAddr 10 (sel 3)))),
      iGuard (sel 64) false (put 68) (iOp (put 68) (.v true (oLoad1 (sel 67)))),
      iGuard (sel 64) false (put 69) (iOp (put 69) (.e (eCallF 64 [(sel 66), (sel 68)]))),
      iGuard (sel 64) false (put 70) (iOp (put 70) (.v false (oNot (sel 69)))),
      iOp (put 71) (.v false (oPick (sel 64) ⟨fun _ => .bool true⟩ (sel 70))),
      iOp (put 72) (.v false (oEv (sel 71))),
      iGuard (sel 72) false (put 73) (iOp (put 73) (.v false (oFieldAddr 7 (sel 2)))),
      iGuard (sel 72) false (put 74) (iOp (put 74) (.v true (oLoad1 (sel 73)))),
      iGuard (sel 72) false (put 75) (iOp (put 75) (.v false (oLenS (sel 74)))),
      iGuard (sel 72) false (put 76) (iOp (put 76) (.v false (oFieldAddr 7 (sel 3)))),
      iGuard (sel 72) false (put 77) (iOp (put 77) (.v true (oLoad1 (sel 76)))),
      iGuard (sel 72) false (put 78) (iOp (put 78) (.v false (oLenS (sel 77)))),
      iGuard (sel 72) false (put 79) (iOp (put 79) (.v false (oNe (.one 1) (sel 75) (sel 78)))),
      iOp (put 80) (.v false (oPick (sel 72) ⟨fun _ => .bool true⟩ (sel 79))),
      iOp (put 81) (.v false (oEv (sel 80))),
      iGuard (sel 81) false (put 82) (iOp (put 82) (.v false (oFieldAddr 8 (sel 2)))),
      iGuard (sel 81) false (put 83) (iOp (put 83) (.v true (oLoad1 (sel 82)))),
      iGuard (sel 81) false (put 84) (iOp (put 84) (.v false (oLenS (sel 83)))),
      iGuard (sel 81) false (put 85) (iOp (put 85) (.v false (oFieldAddr 8 (sel 3)))),
      iGuard (sel 81) false (put 86) (iOp (put 86) (.v true (oLoad1 (sel 85)))),
      iGuard (sel 81) false (put 87) (iOp (put 87) (.v false (oLenS (sel 86)))),
      iGuard (sel 81) false (put 88) (iOp (put 88) (.v false (oNe (.one 1) (sel 84) (sel 87)))),
      iOp (put 89) (.v false (oPick (sel 81) ⟨fun _ => .bool true⟩ (sel 88))),
      iOp (put 90) (.v false (oEv (sel 89))),
      iGuard (sel 90) false (put 91) (iOp (put 91) (.v false (oFieldAddr 9 (sel 2)))),
      iGuard (sel 90) false (put 92) (iOp (put 92) (.v true (oLoad1 (sel 91)))),
      iGuard (sel 90) false (put 93) (iOp (put 93) (.v false (oLenS (sel 92)))),
      iGuard (sel 90) false (put 94) (iOp (put 94) (.v false (oFieldAddr 9 (sel 3)))),
      iGuard (sel 90) false (put 95) (iOp (put 95) (.v true (oLoad1 (sel 94)))),
      iGuard (sel 90) false (put 96) (iOp (put 96) (.v false (oLenS (sel 95)))),
      iGuard (sel 90) false (put 97) (iOp (put 97) (.v false (oNe (.one 1) (sel 93) (sel 96)))),
      iOp (put 98) (.v false (oPick (sel 90) ⟨fun _ => .bool true⟩ (sel 97)))])
    (sCond (sel 98)
      (sSeq (sRegion [iOp (put 4) (.v false (oEv ⟨fun _ => .bool false⟩))])
       (sEx .ret))
      (sEx .normal)))
   (sSeq (sSeq (sRegion [iOp (put 5) (.v false (oEv ⟨fun _ => .int .i64 0⟩))])
     (sBlock 0 (sLoop c42_0)))
    (sSeq (sSeq (sRegion [iOp (put 6) (.v false (oEv ⟨fun _ => .int .i64 0⟩))])
      (sBlock 2 (sLoop c42_1)))
     (sSeq (sSeq (sRegion [iOp (put 7) (.v false (oEv ⟨fun _ => .int .i64 0⟩))])
       (sBlock 4 (sLoop c42_2)))
      (sSeq (sRegion [iOp (put 4) (.v false (oEv ⟨fun _ => .bool true⟩))])
       (sEx .ret))))))⟩
theorem d42 : denF Try.prog 42 = some c42 := denF_of (by kernel_rfl)
noncomputable def c43_0 : Vm.Sem := sSeq (sSeq (sRegion [iOp (put 7) (.v false (oEv (sel 4))),
    iOp (put 8) (.v false (oInt2 fLss (sel 7) ⟨fun _ => .int .i64 8⟩))])
  (sCond (sel 8)
    (sEx .normal)
    (sEx (.exit 0))))
 (sSeq (sBlock 1 (sRegion [iOp (put 11) (.v false (oEv (sel 3))),
     iOp (put 12) (.e (eCallF 65 [(sel 11)])),
     iOp (put 3) (.v false (oEv (sel 12)))]))
  (sRegion [iOp (put 9) (.v false (oEv (sel 4))),
    iOp (put 10) (.v false (oInt2 fAdd (sel 9) ⟨fun _ => .int .i64 1⟩)),
    iOp (put 4) (.v false (oEv (sel 10)))]))
/-- bollard/bollardref03.Entry -/
noncomputable def c43 : CF := ⟨14, [.tmp (sel 2)],
  sSeq (sRegion [iOp (put 2) (.v false (oEv ⟨fun _ => .int .u32 0⟩))])
  (sSeq (sRegion [iOp (put 5) (.v false (oEv (sel 0))),
     iOp (put 6) (.v false (oConvInt .u32 (sel 5))),
     iOp (put 3) (.v false (oEv (sel 6)))])
   (sSeq (sSeq (sRegion [iOp (put 4) (.v false (oEv ⟨fun _ => .int .i64 0⟩))])
     (sBlock 0 (sLoop c43_0)))
    (sSeq (sRegion [iOp (put 13) (.v false (oEv (sel 3))),
       iOp (put 2) (.v false (oEv (sel 13)))])
     (sEx .ret))))⟩
theorem d43 : denF Try.prog 43 = some c43 := denF_of (by kernel_rfl)
noncomputable def c44_0 : Vm.Sem := sSeq (sRegion [iOp (put 16) (.v false (oInt2 fLss (sel 15) ⟨fun _ => .int .i64 4⟩))])
 (sSeq (sCond (sel 16)
    (sEx .normal)
    (sEx (.exit 0)))
  (sSeq (sBlock 1 (sSeq (sRegion [iOp (put 17) (.v false (oEv (sel 15))),
       iOp (put 7) (.v false (oEv (sel 17)))])
     (sSeq (sRegion [iOp (put 18) (.v false (oEv (sel 1))),
        iOp (put 19) (.v false (oEv (sel 7))),
        iOp (put 20) (.v false (oInt2 fAdd ⟨fun _ => .int .i64 8⟩ (sel 19))),
        iOp (put 21) (.v false (oIndexAddrS 1 (sel 18) (sel 20))),
        iOp (put 22) (.v true (oLoad1 (sel 21))),
        iOp (put 23) (.v false (oEv (sel 6))),
        iOp (put 24) (.v false (oEv (sel 7))),
        iOp (put 25) (.v false (oInt2 fMul ⟨fun _ => .int .i64 8⟩ (sel 24))),
        iOp (put 26) (.v false (oSh fShr (sel 23) (sel 25))),
        iOp (put 27) (.v false (oConvInt .u8 (sel 26))),
        iOp (put 28) (.v false (oNe (.one 1) (sel 22) (sel 27)))])
      (sCond (sel 28)
        (sSeq (sRegion [iOp (put 4) (.v false (oEv ⟨fun _ => .bool false⟩))])
         (sEx .ret))
        (sEx .normal)))))
   (sRegion [iOp (put 29) (.v false (oInt2 fAdd (sel 15) ⟨fun _ => .int .i64 1⟩)),
     iOp (put 15) (.v false (oEv (sel 29)))])))
/-- bollard/packet.sound -/
noncomputable def c44 : CF := ⟨30, [.tmp (sel 4)],
  sSeq (sRegion [iOp (put 4) (.v false (oEv ⟨fun _ => .bool false⟩))])
  (sSeq (sRegion [iOp (put 8) (.v false (oEv (sel 1))),
     iOp (put 9) (.e (eCallF 66 [(sel 8)])),
     iOp (put 5) (.v false (oEv (sel 9)))])
   (sSeq (sRegion [iOp (put 10) (.v false (oEv (sel 5))),
      iOp (put 11) (.v false (oSlice 1 (sel 10) (some ⟨fun _ => .int .i64 8⟩) (some ⟨fun _ => .int .i64 12⟩) none)),
      iOp ⟨fun _ a => a⟩ (.e (eClearS [.int .u8 0] (sel 11)))])
    (sSeq (sRegion [iOp (put 12) (.v false (oEv (sel 0))),
       iOp (put 13) (.v false (oEv (sel 5))),
       iOp (put 14) (.e (eCallF 32 [(sel 12), (sel 13)])),
       iOp (put 6) (.v false (oEv (sel 14)))])
     (sSeq (sSeq (sRegion [iOp (put 15) (.v false (oEv ⟨fun _ => .int .i64 0⟩))])
       (sBlock 0 (sLoop c44_0)))
      (sSeq (sRegion [iOp (put 4) (.v false (oEv ⟨fun _ => .bool true⟩))])
       (sEx .ret))))))⟩
theorem d44 : denF Try.prog 44 = some c44 := denF_of (by kernel_rfl)
noncomputable def c45_0 : Vm.Sem := sSeq (sSeq (sRegion [iOp (put 8) (.v false (oEv (sel 0))),
    iOp (put 9) (.v false (oLenS (sel 8))),
    iOp (put 10) (.v false (oInt2 fGtr (sel 9) ⟨fun _ => .int .i64 0⟩))])
  (sCond (sel 10)
    (sEx .normal)
    (sEx (.exit 0))))
 (sBlock 1 (sSeq (sSeq (sRegion [iOp (put 11) (.v false (oEv (sel 4))),
      iOp (put 12) (.v false (oLenS (sel 11))),
      iOp (put 13) (.v false (oEq (.one 1) (sel 12) ⟨fun _ => .int .i64 64⟩))])
    (sCond (sel 13)
      (sSeq (sRegion [iOp (put 2) (.v false (oEv ⟨fun _ => .slice none 0 0⟩)),
         iOp (put 3) (.v false (oEv ⟨fun _ => .int .i64 10⟩))])
       (sEx .ret))
      (sEx .normal)))
   (sSeq (sRegion [iOp (put 15) (.v false (oEv (sel 0))),
      iOp (put 16) (.e (eCallF 67 [(sel 15)])),
      iOp (put 14) (.v false (oEv (sel 16))),
      iOp (put 17) (.v false (oExtract (sel 14) 0)),
      iOp (put 18) (.v false (oExtract (sel 14) 1)),
      iOp (put 19) (.v false (oExtract (sel 14) 2)),
      iOp (put 5) (.a (aAlloc 33 [.int .u8 0, .int .u8 0, .int .u32 0, .int .u32 0, .int .u16 0, .int .u16 0, .int .u32 0, .slice none 0 0, .slice none 0 0, .slice none 0 0, .slice none 0 0, .slice none 0 0])),
      iOp ⟨fun _ a => a⟩ (.e (eStore 12 (sel 5) (sel 17))),
      iOp (put 6) (.v false (oEv (sel 18))),
      iOp (put 7) (.v false (oEv (sel 19)))])
    (sSeq (sSeq (sRegion [iOp (put 20) (.v false (oEv (sel 7))),
        iOp (put 21) (.v false (oNe (.one 1) (sel 20) ⟨fun _ => .int .i64 0⟩))])
      (sCond (sel 21)
        (sSeq (sRegion [iOp (put 22) (.v false (oEv (sel 7))),
           iOp (put 2) (.v false (oEv ⟨fun _ => .slice none 0 0⟩)),
           iOp (put 3) (.v false (oEv (sel 22)))])
         (sEx .ret))
        (sEx .normal)))
     (sRegion [iOp (put 23) (.v false (oEv (sel 4))),
       iOp (put 24) (.v true (oLoadN 12 (sel 5))),
       iOp (put 25) (.a (aBuildSlice 33 1 (rep 1 [.int .u8 0, .int .u8 0, .int .u32 0, .int .u32 0, .int .u16 0, .int .u16 0, .int .u32 0, .slice none 0 0, .slice none 0 0, .slice none 0 0, .slice none 0 0, .slice none 0 0]) [(0, 12, (sel 24))])),
       iOp (put 26) (.e (eAppend 33 12 144 (sel 23) (sel 25))),
       iOp (put 27) (.v false (oEv (sel 0))),
       iOp (put 28) (.v false (oEv (sel 6))),
       iOp (put 29) (.v false (oSlice 1 (sel 27) (some (sel 28)) none none)),
       iOp (put 4) (.v false (oEv (sel 26))),
       iOp (put 0) (.v false (oEv (sel 29)))])))))
/-- bollard/packet.all -/
noncomputable def c45 : CF := ⟨33, [.tmp (sel 2), .tmp (sel 3)],
  sSeq (sRegion [iOp (put 2) (.v false (oEv ⟨fun _ => .slice none 0 0⟩)),
    iOp (put 3) (.v false (oEv ⟨fun _ => .int .i64 0⟩))])
  (sSeq (sRegion [iOp (put 4) (.v false (oEv ⟨fun _ => .slice none 0 0⟩))])
   (sSeq (sBlock 0 (sLoop c45_0))
    (sSeq (sSeq (sRegion [iOp (put 30) (.v false (oEv (sel 4))),
        iOp (put 31) (.e (eCallF 26 [(sel 30)]))])
      (sCond (sel 31)
        (sSeq (sRegion [iOp (put 2) (.v false (oEv ⟨fun _ => .slice none 0 0⟩)),
           iOp (put 3) (.v false (oEv ⟨fun _ => .int .i64 3⟩))])
         (sEx .ret))
        (sEx .normal)))
     (sSeq (sRegion [iOp (put 32) (.v false (oEv (sel 4))),
        iOp (put 2) (.v false (oEv (sel 32))),
        iOp (put 3) (.v false (oEv ⟨fun _ => .int .i64 0⟩))])
      (sEx .ret)))))⟩
theorem d45 : denF Try.prog 45 = some c45 := denF_of (by kernel_rfl)
/-- bollard/octet.New -/
noncomputable def c46 : CF := ⟨7, [.tmp (sel 2)],
  sSeq (sRegion [iOp (put 2) (.v false (oEv ⟨fun _ => .pointer none⟩))])
  (sSeq (sRegion [iOp (put 3) (.v false (oEv (sel 0))),
     iOp (put 4) (.e (eCallF 66 [(sel 3)])),
     iOp (put 5) (.v false (oBuild [.slice none 0 0] [(0, 1, (sel 4))])),
     iOp (put 6) (.a (aBox 100 (sel 5))),
     iOp (put 2) (.v false (oEv (sel 6)))])
   (sEx .ret))⟩
theorem d46 : denF Try.prog 46 = some c46 := denF_of (by kernel_rfl)
/-- (*bollard/octet.Reader).Get16 -/
noncomputable def c47 : CF := ⟨24, [.tmp (sel 2), .tmp (sel 3)],
  sSeq (sRegion [iOp (put 2) (.v false (oEv ⟨fun _ => .int .u16 0⟩)),
    iOp (put 3) (.v false (oEv ⟨fun _ => .int .i64 0⟩))])
  (sSeq (sRegion [iOp (put 7) (.v false (oEv (sel 0))),
     iOp (put 8) (.e (eCallF 68 [(sel 7), ⟨fun _ => .int .i64 2⟩])),
     iOp (put 6) (.v false (oEv (sel 8))),
     iOp (put 9) (.v false (oExtract (sel 6) 0)),
     iOp (put 10) (.v false (oExtract (sel 6) 1)),
     iOp (put 4) (.v false (oEv (sel 9))),
     iOp (put 5) (.v false (oEv (sel 10)))])
   (sSeq (sSeq (sRegion [iOp (put 11) (.v false (oEv (sel 5))),
       iOp (put 12) (.v false (oNe (.one 1) (sel 11) ⟨fun _ => .int .i64 0⟩))])
     (sCond (sel 12)
       (sSeq (sRegion [iOp (put 13) (.v false (oEv (sel 5))),
          iOp (put 2) (.v false (oEv ⟨fun _ => .int .u16 0⟩)),
          iOp (put 3) (.v false (oEv (sel 13)))])
        (sEx .ret))
       (sEx .normal)))
    (sSeq (sRegion [iOp (put 14) (.v false (oEv (sel 4))),
       iOp (put 15) (.v false (oIndexAddrS 1 (sel 14) ⟨fun _ => .int .i64 0⟩)),
       iOp (put 16) (.v true (oLoad1 (sel 15))),
       iOp (put 17) (.v false (oConvInt .u16 (sel 16))),
       iOp (put 18) (.v false (oSh fShl (sel 17) ⟨fun _ => .int .u64 8⟩)),
       iOp (put 19) (.v false (oEv (sel 4))),
       iOp (put 20) (.v false (oIndexAddrS 1 (sel 19) ⟨fun _ => .int .i64 1⟩)),
       iOp (put 21) (.v true (oLoad1 (sel 20))),
       iOp (put 22) (.v false (oConvInt .u16 (sel 21))),
       iOp (put 23) (.v false (oInt2 fOr (sel 18) (sel 22))),
       iOp (put 2) (.v false (oEv (sel 23))),
       iOp (put 3) (.v false (oEv ⟨fun _ => .int .i64 0⟩))])
     (sEx .ret))))⟩
theorem d47 : denF Try.prog 47 = some c47 := denF_of (by kernel_rfl)
/-- (*bollard/octet.Reader).Get32 -/
noncomputable def c48 : CF := ⟨36, [.tmp (sel 2), .tmp (sel 3)],
  sSeq (sRegion [iOp (put 2) (.v false (oEv ⟨fun _ => .int .u32 0⟩)),
    iOp (put 3) (.v false (oEv ⟨fun _ => .int .i64 0⟩))])
  (sSeq (sRegion [iOp (put 7) (.v false (oEv (sel 0))),
     iOp (put 8) (.e (eCallF 68 [(sel 7), ⟨fun _ => .int .i64 4⟩])),
     iOp (put 6) (.v false (oEv (sel 8))),
     iOp (put 9) (.v false (oExtract (sel 6) 0)),
     iOp (put 10) (.v false (oExtract (sel 6) 1)),
     iOp (put 4) (.v false (oEv (sel 9))),
     iOp (put 5) (.v false (oEv (sel 10)))])
   (sSeq (sSeq (sRegion [iOp (put 11) (.v false (oEv (sel 5))),
       iOp (put 12) (.v false (oNe (.one 1) (sel 11) ⟨fun _ => .int .i64 0⟩))])
     (sCond (sel 12)
       (sSeq (sRegion [iOp (put 13) (.v false (oEv (sel 5))),
          iOp (put 2) (.v false (oEv ⟨fun _ => .int .u32 0⟩)),
          iOp (put 3) (.v false (oEv (sel 13)))])
        (sEx .ret))
       (sEx .normal)))
    (sSeq (sRegion [iOp (put 14) (.v false (oEv (sel 4))),
       iOp (put 15) (.v false (oIndexAddrS 1 (sel 14) ⟨fun _ => .int .i64 0⟩)),
       iOp (put 16) (.v true (oLoad1 (sel 15))),
       iOp (put 17) (.v false (oConvInt .u32 (sel 16))),
       iOp (put 18) (.v false (oSh fShl (sel 17) ⟨fun _ => .int .u64 24⟩)),
       iOp (put 19) (.v false (oEv (sel 4))),
       iOp (put 20) (.v false (oIndexAddrS 1 (sel 19) ⟨fun _ => .int .i64 1⟩)),
       iOp (put 21) (.v true (oLoad1 (sel 20))),
       iOp (put 22) (.v false (oConvInt .u32 (sel 21))),
       iOp (put 23) (.v false (oSh fShl (sel 22) ⟨fun _ => .int .u64 16⟩)),
       iOp (put 24) (.v false (oInt2 fOr (sel 18) (sel 23))),
       iOp (put 25) (.v false (oEv (sel 4))),
       iOp (put 26) (.v false (oIndexAddrS 1 (sel 25) ⟨fun _ => .int .i64 2⟩)),
       iOp (put 27) (.v true (oLoad1 (sel 26))),
       iOp (put 28) (.v false (oConvInt .u32 (sel 27))),
       iOp (put 29) (.v false (oSh fShl (sel 28) ⟨fun _ => .int .u64 8⟩)),
       iOp (put 30) (.v false (oInt2 fOr (sel 24) (sel 29))),
       iOp (put 31) (.v false (oEv (sel 4))),
       iOp (put 32) (.v false (oIndexAddrS 1 (sel 31) ⟨fun _ => .int .i64 3⟩)),
       iOp (put 33) (.v true (oLoad1 (sel 32))),
       iOp (put 34) (.v false (oConvInt .u32 (sel 33))),
       iOp (put 35) (.v false (oInt2 fOr (sel 30) (sel 34))),
       iOp (put 2) (.v false (oEv (sel 35))),
       iOp (put 3) (.v false (oEv ⟨fun _ => .int .i64 0⟩))])
     (sEx .ret))))⟩
theorem d48 : denF Try.prog 48 = some c48 := denF_of (by kernel_rfl)
/-- bollard/packet.mixed$1 -/
noncomputable def c49 : CF := ⟨6, [.tmp (sel 2)],
  sSeq (sRegion [iOp (put 1) (.a (aBox 33 (sel 0))),
    iOp (put 2) (.v false (oEv ⟨fun _ => .bool false⟩))])
  (sSeq (sRegion [iOp (put 3) (.v false (oFieldAddr 0 (sel 1))),
     iOp (put 4) (.v true (oLoad1 (sel 3))),
     iOp (put 5) (.e (eCallF 18 [(sel 4)])),
     iOp (put 2) (.v false (oEv (sel 5)))])
   (sEx .ret))⟩
theorem d49 : denF Try.prog 49 = some c49 := denF_of (by kernel_rfl)
noncomputable def c50_0 : Vm.Sem := sSeq (sRegion [iOp (put 9) (.v false (oInt2 fLss (sel 8) (sel 7)))])
 (sSeq (sCond (sel 9)
    (sEx .normal)
    (sEx (.exit 0)))
  (sSeq (sBlock 1 (sSeq (sRegion [iOp (put 10) (.v false (oEv (sel 8))),
       iOp (put 5) (.v false (oEv (sel 10)))])
     (sSeq (sRegion [iOp (put 11) (.v false (oEv (sel 1))),
        iOp (put 12) (.v false (oEv (sel 0))),
        iOp (put 13) (.v false (oEv (sel 5))),
        iOp (put 14) (.v false (oIndexAddrS 12 (sel 12) (sel 13))),
        iOp (put 15) (.v true (oLoadN 12 (sel 14))),
        iOp (put 16) (.e (eCall (sel 11) [(sel 15)]))])
      (sCond (sel 16)
        (sSeq (sRegion [iOp (put 17) (.v false (oEv (sel 5))),
           iOp (put 4) (.v false (oEv (sel 17)))])
         (sEx .ret))
        (sEx .normal)))))
   (sRegion [iOp (put 18) (.v false (oInt2 fAdd (sel 8) ⟨fun _ => .int .i64 1⟩)),
     iOp (put 8) (.v false (oEv (sel 18)))])))
/-- slices.IndexFunc[[]bollard/api.Chunk,bollard/api.Chunk] -/
noncomputable def c50 : CF := ⟨19, [.tmp (sel 4)],
  sSeq (sRegion [iOp (put 4) (.v false (oEv ⟨fun _ => .int .i64 0⟩))])
  (sSeq (sSeq (sRegion [iOp (put 6) (.v false (oEv (sel 0))),
      iOp (put 7) (.v false (oLenS (sel 6))),
      iOp (put 8) (.v false (oEv ⟨fun _ => .int .i64 0⟩))])
    (sBlock 0 (sLoop c50_0)))
   (sSeq (sRegion [iOp (put 4) (.v false (oEv ⟨fun _ => .int .i64 (-1)⟩))])
    (sEx .ret)))⟩
theorem d50 : denF Try.prog 50 = some c50 := denF_of (by kernel_rfl)
end Go.Proofs.Ytdcllpjoejkpnaa

