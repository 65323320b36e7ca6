/- Part of a proof by an abstract run of the program's code: NC. No condition. -/
import Derived.Test.YtnffglfpjcbfaaaChecked
import Derived.Test.YtnffglfpjcbfaaaVmD
namespace Go.Proofs.Ytnffglfpjcbfaaa
open Go Vm
/-- bollard/bollardlaw14.JoinNone -/
noncomputable def c7 : CF := ⟨81, [.tmp (sel 6)],
  sSeq (sRegion [iOp (put 3) (.a (aBox 42 (sel 0))),
    iOp (put 6) (.v false (oEv ⟨fun _ => .bool false⟩))])
  (sSeq (sRegion [iOp (put 12) (.e (eCallF 8 [])),
     iOp (put 7) (.v false (oEv (sel 12)))])
   (sSeq (sSeq (sRegion [iOp (put 13) (.v false (oFieldAddr 11 (sel 3))),
       iOp (put 14) (.v true (oLoad1 (sel 13))),
       iOp (put 15) (.v false (oLenS (sel 14))),
       iOp (put 16) (.v false (oInt2 fGtr (sel 15) ⟨fun _ => .int .i64 2000⟩)),
       iOp (put 17) (.v false (oEv (sel 16))),
       iGuard (sel 17) false (put 18) (iOp (put 18) (.v false (oEv (sel 2)))),
       iGuard (sel 17) false (put 19) (iOp (put 19) (.v false (oLenS (sel 18)))),
       iGuard (sel 17) false (put 20) (iOp (put 20) (.v false (oInt2 fGtr (sel 19) ⟨fun _ => .int .i64 100⟩))),
       iOp (put 21) (.v false (oPick (sel 17) ⟨fun _ => .bool true⟩ (sel 20)))])
     (sCond (sel 21)
       (sSeq (sRegion [iOp (put 22) (.v false (oEv (sel 7))),
          iOp (put 6) (.v false (oEv (sel 22)))])
        (sEx .ret))
       (sEx .normal)))
    (sSeq (sRegion [iOp (put 8) (.v false (oEv ⟨fun _ => .pointer none⟩))])
     (sSeq (sRegion [iOp (put 23) (.v false (oEv (sel 8))),
        iOp (put 24) (.v false (oEv (sel 1))),
        iOp (put 25) (.v false (oEv (sel 2))),
        iOp (put 26) (.e (eCallF 16 [(sel 23), (sel 24), (sel 25)]))])
      (sSeq (sRegion [iOp (put 27) (.v false (oEv (sel 8))),
         iOp (put 28) (.v false (oEv (sel 1))),
         iOp (put 29) (.v false (oConvInt .u16 (sel 28))),
         iOp (put 30) (.e (eCallF 18 [(sel 27), (sel 29)]))])
       (sSeq (sRegion [iOp (put 31) (.e (eCallF 10 [⟨fun _ => .int .i64 1⟩])),
          iOp (put 9) (.v false (oEv (sel 31)))])
        (sSeq (sRegion [iOp (put 32) (.e (eCallF 14 [⟨fun _ => .int .u32 5⟩, ⟨fun _ => .int .u16 0⟩, ⟨fun _ => .int .u16 0⟩, ⟨fun _ => .int .u8 3⟩, ⟨fun _ => .int .u8 7⟩])),
           iOp (put 10) (.a (aAlloc 42 [.int .u8 0, .int .u8 0, .int .u32 0, .int .u32 0, .int .u16 0, .int .u16 0, .int .u32 0, .slice none 0 0, .slice none 0 0, .slice none 0 0, .slice none 0 0, .slice none 0 0])),
           iOp ⟨fun _ a => a⟩ (.e (eStore 12 (sel 10) (sel 32)))])
         (sSeq (sRegion [iOp (put 33) (.v false (oEv (sel 9))),
            iOp (put 34) (.v true (oLoadN 12 (sel 10))),
            iOp (put 35) (.e (eCallF 11 [(sel 33), (sel 34)]))])
          (sSeq (sRegion [iOp (put 36) (.v false (oFieldAddr 11 (sel 10))),
             iOp (put 37) (.v true (oLoad1 (sel 36))),
             iOp (put 38) (.v false (oIndexAddrS 1 (sel 37) ⟨fun _ => .int .i64 0⟩)),
             iOp ⟨fun _ a => a⟩ (.e (eStore 1 (sel 38) ⟨fun _ => .int .u8 9⟩))])
           (sSeq (sRegion [iOp (put 39) (.v false (oEv (sel 9))),
              iOp (put 40) (.e (eCallF 12 [(sel 39)])),
              iOp (put 11) (.v false (oEv (sel 40)))])
            (sSeq (sRegion [iOp (put 41) (.v false (oEv (sel 7))),
               iOp (put 42) (.v false (oEv (sel 41))),
               iGuard (sel 42) true (put 43) (iOp (put 43) (.v false (oEv (sel 8)))),
               iGuard (sel 42) true (put 44) (iOp (put 44) (.v true (oLoadN 12 (sel 3)))),
               iGuard (sel 42) true (put 45) (iOp (put 45) (.e (eCallF 11 [(sel 43), (sel 44)]))),
               iGuard (sel 42) true (put 46) (iOp (put 46) (.v false (oEq (.one 1) (sel 45) ⟨fun _ => .int .i64 1⟩))),
               iOp (put 47) (.v false (oPick (sel 42) (sel 46) ⟨fun _ => .bool false⟩)),
               iOp (put 48) (.v false (oEv (sel 47))),
               iGuard (sel 48) true (put 49) (iOp (put 49) (.v false (oEv (sel 8)))),
               iGuard (sel 48) true (put 50) (iOp (put 50) (.e (eCallF 12 [(sel 49)]))),
               iGuard (sel 48) true (put 51) (iOp (put 51) (.v false (oLenS (sel 50)))),
               iGuard (sel 48) true (put 52) (iOp (put 52) (.v false (oEq (.one 1) (sel 51) ⟨fun _ => .int .i64 0⟩))),
               iOp (put 53) (.v false (oPick (sel 48) (sel 52) ⟨fun _ => .bool false⟩)),
               iOp (put 54) (.v false (oEv (sel 53))),
               iGuard (sel 54) true (put 55) (iOp (put 55) (.v false (oEv (sel 8)))),
               iGuard (sel 54) true (put 56) (iOp (put 56) (.e (eCallF 17 [(sel 55)]))),
               iGuard (sel 54) true (put 57) (iOp (put 57) (.v false (oEq (.one 1) (sel 56) ⟨fun _ => .int .i64 0⟩))),
               iOp (put 58) (.v false (oPick (sel 54) (sel 57) ⟨fun _ => .bool false⟩)),
               iOp (put 59) (.v false (oEv (sel 58))),
               iGuard (sel 59) true (put 60) (iOp (put 60) (.v false (oEv (sel 11)))),
               iGuard (sel 59) true (put 61) (iOp (put 61) (.v false (oLenS (sel 60)))),
               iGuard (sel 59) true (put 62) (iOp (put 62) (.v false (oEq (.one 1) (sel 61) ⟨fun _ => .int .i64 1⟩))),
               iOp (put 63) (.v false (oPick (sel 59) (sel 62) ⟨fun _ => .bool false⟩)),
               iOp (put 64) (.v false (oEv (sel 63))),
               iGuard (sel 64) true (put 65) (iOp (put 65) (.v false (oEv (sel 11)))),
               iGuard (sel 64) true (put 66) (iOp (put 66) (.v false (oIndexAddrS 4 (sel 65) ⟨fun _ => .int .i64 0⟩))),
               iGuard (sel 64) true (put 67) (iOp (put 67) (.v false (oFieldAddr 3 (sel 66)))),
               iGuard (sel 64) true (put 68) (iOp (put 68) (.v true (oLoad1 (sel 67)))),
               iGuard (sel 64) true (put 69) (iOp (put 69) (.v false (oLenS (sel 68)))),
               iGuard (sel 64) true (put 70) (iOp (put 70) (.v false (oEq (.one 1) (sel 69) ⟨fun _ => .int .i64 1⟩))),
               iOp (put 71) (.v false (oPick (sel 64) (sel 70) ⟨fun _ => .bool false⟩)),
               iOp (put 72) (.v false (oEv (sel 71))),
               iGuard (sel 72) true (put 73) (iOp (put 73) (.v false (oEv (sel 11)))),
               iGuard (sel 72) true (put 74) (iOp (put 74) (.v false (oIndexAddrS 4 (sel 73) ⟨fun _ => .int .i64 0⟩))),
               iGuard (sel 72) true (put 75) (iOp (put 75) (.v false (oFieldAddr 3 (sel 74)))),
               iGuard (sel 72) true (put 76) (iOp (put 76) (.v true (oLoad1 (sel 75)))),
               iGuard (sel 72) true (put 77) (iOp (put 77) (.v false (oIndexAddrS 1 (sel 76) ⟨fun _ => .int .i64 0⟩))),
               iGuard (sel 72) true (put 78) (iOp (put 78) (.v true (oLoad1 (sel 77)))),
               iGuard (sel 72) true (put 79) (iOp (put 79) (.v false (oEq (.one 1) (sel 78) ⟨fun _ => .int .u8 7⟩))),
               iOp (put 80) (.v false (oPick (sel 72) (sel 79) ⟨fun _ => .bool false⟩)),
               iOp (put 6) (.v false (oEv (sel 80)))])
             (sEx .ret))))))))))))⟩
theorem d7 : denF Try.prog 7 = some c7 := denF_of (by kernel_rfl)
noncomputable def c16_0 : Vm.Sem := sSeq (sRegion [iOp (put 19) (.v false (oInt2 fLss (sel 18) (sel 17)))])
 (sSeq (sCond (sel 19)
    (sEx .normal)
    (sEx (.exit 0)))
  (sSeq (sBlock 1 (sSeq (sRegion [iOp (put 20) (.v false (oIndexAddrS 2 (sel 16) (sel 18))),
       iOp (put 21) (.v true (oLoadN 2 (sel 20))),
       iOp (put 7) (.a (aAlloc 51 [.int .u16 0, .int .u16 0])),
       iOp ⟨fun _ a => a⟩ (.e (eStore 2 (sel 7) (sel 21)))])
     (sRegion [iOp (put 22) (.v true (oLoad1 (sel 3))),
       iOp (put 23) (.v true (oLoadN 2 (sel 7))),
       iOp (put 24) (.e (eCallF 27 [(sel 22), (sel 23)]))])))
   (sRegion [iOp (put 25) (.v false (oInt2 fAdd (sel 18) ⟨fun _ => .int .i64 1⟩)),
     iOp (put 18) (.v false (oEv (sel 25)))])))
/-- (*bollard/join.Join).Forward -/
noncomputable def c16 : CF := ⟨26, [],
  sSeq (sRegion [iOp (put 3) (.a (aBox 34 (sel 0))),
    iOp (put 4) (.a (aBox 22 (sel 1)))])
  (sSeq (sSeq (sRegion [iOp (put 8) (.v true (oLoad1 (sel 3))),
      iOp (put 9) (.v false (oEq (.one 3) (sel 8) ⟨fun _ => .pointer none⟩))])
    (sCond (sel 9)
      (sEx .ret)
      (sEx .normal)))
   (sSeq (sRegion [iOp (put 10) (.v true (oLoad1 (sel 3))),
      iOp (put 11) (.v false (oNilCheck (sel 10))),
      iOp (put 12) (.v false (oFieldAddr 1 (sel 11))),
      iOp (put 13) (.v true (oLoad1 (sel 12))),
      iOp (put 14) (.v false (oFunc (.func 25) [] [(sel 4), (sel 3)])),
      iOp (put 15) (.e (eCallF 24 [(sel 13), (sel 14)]))])
    (sSeq (sRegion [iOp (put 16) (.v false (oEv (sel 2))),
       iOp (put 17) (.v false (oLenS (sel 16))),
       iOp (put 18) (.v false (oEv ⟨fun _ => .int .i64 0⟩))])
     (sBlock 0 (sLoop c16_0)))))⟩
theorem d16 : denF Try.prog 16 = some c16 := denF_of (by kernel_rfl)
/-- (*bollard/join.Join).Reset -/
noncomputable def c18 : CF := ⟨20, [],
  sSeq (sRegion [iOp (put 2) (.a (aBox 34 (sel 0))),
    iOp (put 3) (.a (aBox 27 (sel 1)))])
  (sSeq (sSeq (sRegion [iOp (put 4) (.v true (oLoad1 (sel 2))),
      iOp (put 5) (.v true (oLoad1 (sel 3))),
      iOp (put 6) (.e (eCallF 19 [(sel 4), (sel 5)])),
      iOp (put 7) (.v false (oNot (sel 6)))])
    (sCond (sel 7)
      (sEx .ret)
      (sEx .normal)))
   (sSeq (sRegion [iOp (put 8) (.v true (oLoad1 (sel 2))),
      iOp (put 9) (.v false (oNilCheck (sel 8))),
      iOp (put 10) (.v false (oFieldAddr 2 (sel 9))),
      iOp (put 11) (.v true (oLoad1 (sel 10))),
      iOp (put 12) (.v false (oFunc (.func 29) [] [(sel 3), (sel 2)])),
      iOp (put 13) (.e (eCallF 28 [(sel 11), (sel 12)]))])
    (sRegion [iOp (put 14) (.v true (oLoad1 (sel 2))),
      iOp (put 15) (.v false (oNilCheck (sel 14))),
      iOp (put 16) (.v false (oFieldAddr 0 (sel 15))),
      iOp (put 17) (.v true (oLoad1 (sel 16))),
      iOp (put 18) (.v true (oLoad1 (sel 3))),
      iOp (put 19) (.v false (oIndexAddrS 1 (sel 17) (sel 18))),
      iOp ⟨fun _ a => a⟩ (.e (eStore 1 (sel 19) ⟨fun _ => .int .u16 0⟩))])))⟩
theorem d18 : denF Try.prog 18 = some c18 := denF_of (by kernel_rfl)
/-- (*bollard/join.Join).knows -/
noncomputable def c19 : CF := ⟨17, [.tmp (sel 4)],
  sSeq (sRegion [iOp (put 4) (.v false (oEv ⟨fun _ => .bool false⟩))])
  (sSeq (sRegion [iOp (put 5) (.v false (oEv (sel 0))),
     iOp (put 6) (.v false (oNe (.one 3) (sel 5) ⟨fun _ => .pointer none⟩)),
     iOp (put 7) (.v false (oEv (sel 6))),
     iGuard (sel 7) true (put 8) (iOp (put 8) (.v false (oEv (sel 1)))),
     iGuard (sel 7) true (put 9) (iOp (put 9) (.v false (oConvInt .i64 (sel 8)))),
     iGuard (sel 7) true (put 10) (iOp (put 10) (.v false (oEv (sel 0)))),
     iGuard (sel 7) true (put 11) (iOp (put 11) (.v false (oNilCheck (sel 10)))),
     iGuard (sel 7) true (put 12) (iOp (put 12) (.v false (oFieldAddr 0 (sel 11)))),
     iGuard (sel 7) true (put 13) (iOp (put 13) (.v true (oLoad1 (sel 12)))),
     iGuard (sel 7) true (put 14) (iOp (put 14) (.v false (oLenS (sel 13)))),
     iGuard (sel 7) true (put 15) (iOp (put 15) (.v false (oInt2 fLss (sel 9) (sel 14)))),
     iOp (put 16) (.v false (oPick (sel 7) (sel 15) ⟨fun _ => .bool false⟩)),
     iOp (put 4) (.v false (oEv (sel 16)))])
   (sEx .ret))⟩
theorem d19 : denF Try.prog 19 = some c19 := denF_of (by kernel_rfl)
end Go.Proofs.Ytnffglfpjcbfaaa

