/- Part of a proof by an abstract run of the program's code: C. No condition. -/
import Derived.Test.YtnnffmnbcealkaaChecked
import Derived.Test.YtnnffmnbcealkaaVmD
/-! The functions of the program in the abstract run (printed). -/
namespace Go.Proofs.Ytnnffmnbcealkaa
open Go Vm
/-- bollard/bollardlaw06.TlvEncodes -/
noncomputable def c3 : CF := ⟨45, [.tmp (sel 4)],
  sSeq (sRegion [iOp (put 4) (.v false (oEv ⟨fun _ => .bool false⟩))])
  (sSeq (sRegion [iOp (put 10) (.e (eCallF 10 [])),
     iOp (put 5) (.v false (oEv (sel 10)))])
   (sSeq (sSeq (sRegion [iOp (put 11) (.v false (oEv (sel 0))),
       iOp (put 12) (.e (eCallF 11 [(sel 11)])),
       iOp (put 13) (.v false (oNot (sel 12)))])
     (sCond (sel 13)
       (sSeq (sRegion [iOp (put 14) (.v false (oEv (sel 5))),
          iOp (put 4) (.v false (oEv (sel 14)))])
        (sEx .ret))
       (sEx .normal)))
    (sSeq (sRegion [iOp (put 16) (.v false (oEv (sel 0))),
       iOp (put 17) (.e (eCallF 12 [(sel 16)])),
       iOp (put 15) (.v false (oEv (sel 17))),
       iOp (put 18) (.v false (oExtract (sel 15) 0)),
       iOp (put 19) (.v false (oExtract (sel 15) 1)),
       iOp (put 6) (.v false (oEv (sel 18))),
       iOp (put 7) (.v false (oEv (sel 19)))])
     (sSeq (sRegion [iOp (put 21) (.v false (oEv (sel 0))),
        iOp (put 22) (.e (eCallF 13 [(sel 21)])),
        iOp (put 20) (.v false (oEv (sel 22))),
        iOp (put 23) (.v false (oExtract (sel 20) 0)),
        iOp (put 24) (.v false (oExtract (sel 20) 1)),
        iOp (put 8) (.v false (oEv (sel 23))),
        iOp (put 9) (.v false (oEv (sel 24)))])
      (sSeq (sRegion [iOp (put 25) (.v false (oEv (sel 5))),
         iOp (put 26) (.v false (oEv (sel 25))),
         iGuard (sel 26) true (put 27) (iOp (put 27) (.v false (oEv (sel 7)))),
         iGuard (sel 26) true (put 28) (iOp (put 28) (.v false (oEv (sel 9)))),
         iGuard (sel 26) true (put 29) (iOp (put 29) (.v false (oEq (.one 1) (sel 27) (sel 28)))),
         iOp (put 30) (.v false (oPick (sel 26) (sel 29) ⟨fun _ => .bool false⟩)),
         iOp (put 31) (.v false (oEv (sel 30))),
         iGuard (sel 31) true (put 32) (iOp (put 32) (.v false (oEv (sel 6)))),
         iGuard (sel 31) true (put 33) (iOp (put 33) (.v false (oEv (sel 8)))),
         iGuard (sel 31) true (put 34) (iOp (put 34) (.e (eCallF 14 [(sel 32), (sel 33)]))),
         iOp (put 35) (.v false (oPick (sel 31) (sel 34) ⟨fun _ => .bool false⟩)),
         iOp (put 36) (.v false (oEv (sel 35))),
         iGuard (sel 36) true (put 37) (iOp (put 37) (.v false (oEv (sel 0)))),
         iGuard (sel 36) true (put 38) (iOp (put 38) (.v false (oEv (sel 1)))),
         iGuard (sel 36) true (put 39) (iOp (put 39) (.e (eCallF 15 [(sel 37), (sel 38)]))),
         iGuard (sel 36) true (put 40) (iOp (put 40) (.v false (oEv (sel 0)))),
         iGuard (sel 36) true (put 41) (iOp (put 41) (.v false (oEv (sel 1)))),
         iGuard (sel 36) true (put 42) (iOp (put 42) (.e (eCallF 16 [(sel 40), (sel 41)]))),
         iGuard (sel 36) true (put 43) (iOp (put 43) (.v false (oEq (.one 1) (sel 39) (sel 42)))),
         iOp (put 44) (.v false (oPick (sel 36) (sel 43) ⟨fun _ => .bool false⟩)),
         iOp (put 4) (.v false (oEv (sel 44)))])
       (sEx .ret))))))⟩
theorem d3 : denF Try.prog 3 = some c3 := denF_of (by kernel_rfl)
/-- bollard/bollardlaw06.TlvDecodes -/
noncomputable def c4 : CF := ⟨34, [.tmp (sel 2)],
  sSeq (sRegion [iOp (put 2) (.v false (oEv ⟨fun _ => .bool false⟩))])
  (sSeq (sRegion [iOp (put 8) (.e (eCallF 10 [])),
     iOp (put 3) (.v false (oEv (sel 8)))])
   (sSeq (sSeq (sRegion [iOp (put 9) (.v false (oEv (sel 0))),
       iOp (put 10) (.v false (oLenS (sel 9))),
       iOp (put 11) (.v false (oInt2 fGtr (sel 10) ⟨fun _ => .int .i64 3000⟩))])
     (sCond (sel 11)
       (sSeq (sRegion [iOp (put 12) (.v false (oEv (sel 3))),
          iOp (put 2) (.v false (oEv (sel 12)))])
        (sEx .ret))
       (sEx .normal)))
    (sSeq (sRegion [iOp (put 14) (.v false (oEv (sel 0))),
       iOp (put 15) (.e (eCallF 17 [(sel 14)])),
       iOp (put 13) (.v false (oEv (sel 15))),
       iOp (put 16) (.v false (oExtract (sel 13) 0)),
       iOp (put 17) (.v false (oExtract (sel 13) 1)),
       iOp (put 4) (.v false (oEv (sel 16))),
       iOp (put 5) (.v false (oEv (sel 17)))])
     (sSeq (sRegion [iOp (put 19) (.v false (oEv (sel 0))),
        iOp (put 20) (.e (eCallF 18 [(sel 19)])),
        iOp (put 18) (.v false (oEv (sel 20))),
        iOp (put 21) (.v false (oExtract (sel 18) 0)),
        iOp (put 22) (.v false (oExtract (sel 18) 1)),
        iOp (put 6) (.v false (oEv (sel 21))),
        iOp (put 7) (.v false (oEv (sel 22)))])
      (sSeq (sRegion [iOp (put 23) (.v false (oEv (sel 3))),
         iOp (put 24) (.v false (oEv (sel 23))),
         iGuard (sel 24) true (put 25) (iOp (put 25) (.v false (oEv (sel 5)))),
         iGuard (sel 24) true (put 26) (iOp (put 26) (.v false (oEv (sel 7)))),
         iGuard (sel 24) true (put 27) (iOp (put 27) (.v false (oEq (.one 1) (sel 25) (sel 26)))),
         iOp (put 28) (.v false (oPick (sel 24) (sel 27) ⟨fun _ => .bool false⟩)),
         iOp (put 29) (.v false (oEv (sel 28))),
         iGuard (sel 29) true (put 30) (iOp (put 30) (.v false (oEv (sel 4)))),
         iGuard (sel 29) true (put 31) (iOp (put 31) (.v false (oEv (sel 6)))),
         iGuard (sel 29) true (put 32) (iOp (put 32) (.e (eCallF 19 [(sel 30), (sel 31)]))),
         iOp (put 33) (.v false (oPick (sel 29) (sel 32) ⟨fun _ => .bool false⟩)),
         iOp (put 2) (.v false (oEv (sel 33)))])
       (sEx .ret))))))⟩
theorem d4 : denF Try.prog 4 = some c4 := denF_of (by kernel_rfl)
/-- bollard/bollardlaw06.TlvActions -/
noncomputable def c5 : CF := ⟨58, [.tmp (sel 2)],
  sSeq (sRegion [iOp (put 2) (.v false (oEv ⟨fun _ => .bool false⟩))])
  (sSeq (sRegion [iOp (put 12) (.e (eCallF 10 [])),
     iOp (put 3) (.v false (oEv (sel 12)))])
   (sSeq (sRegion [iOp (put 14) (.v false (oEv (sel 0))),
      iOp (put 15) (.e (eCallF 20 [(sel 14)])),
      iOp (put 13) (.v false (oEv (sel 15))),
      iOp (put 16) (.v false (oExtract (sel 13) 0)),
      iOp (put 17) (.v false (oExtract (sel 13) 1)),
      iOp (put 4) (.v false (oEv (sel 16))),
      iOp (put 5) (.v false (oEv (sel 17)))])
    (sSeq (sRegion [iOp (put 19) (.v false (oEv (sel 0))),
       iOp (put 20) (.v false (oConvInt .i64 (sel 19))),
       iOp (put 21) (.e (eCallF 21 [(sel 20), ⟨fun _ => .int .i64 16⟩])),
       iOp (put 18) (.v false (oEv (sel 21))),
       iOp (put 22) (.v false (oExtract (sel 18) 0)),
       iOp (put 23) (.v false (oExtract (sel 18) 1)),
       iOp (put 6) (.v false (oEv (sel 22))),
       iOp (put 7) (.v false (oEv (sel 23)))])
     (sSeq (sRegion [iOp (put 25) (.v false (oEv (sel 0))),
        iOp (put 26) (.v false (oConvInt .u8 (sel 25))),
        iOp (put 27) (.e (eCallF 22 [(sel 26)])),
        iOp (put 24) (.v false (oEv (sel 27))),
        iOp (put 28) (.v false (oExtract (sel 24) 0)),
        iOp (put 29) (.v false (oExtract (sel 24) 1)),
        iOp (put 8) (.v false (oEv (sel 28))),
        iOp (put 9) (.v false (oEv (sel 29)))])
      (sSeq (sRegion [iOp (put 31) (.v false (oEv (sel 0))),
         iOp (put 32) (.v false (oConvInt .u8 (sel 31))),
         iOp (put 33) (.v false (oConvInt .i64 (sel 32))),
         iOp (put 34) (.e (eCallF 21 [(sel 33), ⟨fun _ => .int .i64 8⟩])),
         iOp (put 30) (.v false (oEv (sel 34))),
         iOp (put 35) (.v false (oExtract (sel 30) 0)),
         iOp (put 36) (.v false (oExtract (sel 30) 1)),
         iOp (put 10) (.v false (oEv (sel 35))),
         iOp (put 11) (.v false (oEv (sel 36)))])
       (sSeq (sRegion [iOp (put 37) (.v false (oEv (sel 3))),
          iOp (put 38) (.v false (oEv (sel 37))),
          iGuard (sel 38) true (put 39) (iOp (put 39) (.v false (oEv (sel 4)))),
          iGuard (sel 38) true (put 40) (iOp (put 40) (.v false (oEv (sel 6)))),
          iGuard (sel 38) true (put 41) (iOp (put 41) (.v false (oEq (.one 0) (sel 39) (sel 40)))),
          iOp (put 42) (.v false (oPick (sel 38) (sel 41) ⟨fun _ => .bool false⟩)),
          iOp (put 43) (.v false (oEv (sel 42))),
          iGuard (sel 43) true (put 44) (iOp (put 44) (.v false (oEv (sel 5)))),
          iGuard (sel 43) true (put 45) (iOp (put 45) (.v false (oEv (sel 7)))),
          iGuard (sel 43) true (put 46) (iOp (put 46) (.v false (oEq (.one 0) (sel 44) (sel 45)))),
          iOp (put 47) (.v false (oPick (sel 43) (sel 46) ⟨fun _ => .bool false⟩)),
          iOp (put 48) (.v false (oEv (sel 47))),
          iGuard (sel 48) true (put 49) (iOp (put 49) (.v false (oEv (sel 8)))),
          iGuard (sel 48) true (put 50) (iOp (put 50) (.v false (oEv (sel 10)))),
          iGuard (sel 48) true (put 51) (iOp (put 51) (.v false (oEq (.one 0) (sel 49) (sel 50)))),
          iOp (put 52) (.v false (oPick (sel 48) (sel 51) ⟨fun _ => .bool false⟩)),
          iOp (put 53) (.v false (oEv (sel 52))),
          iGuard (sel 53) true (put 54) (iOp (put 54) (.v false (oEv (sel 9)))),
          iGuard (sel 53) true (put 55) (iOp (put 55) (.v false (oEv (sel 11)))),
          iGuard (sel 53) true (put 56) (iOp (put 56) (.v false (oEq (.one 0) (sel 54) (sel 55)))),
          iOp (put 57) (.v false (oPick (sel 53) (sel 56) ⟨fun _ => .bool false⟩)),
          iOp (put 2) (.v false (oEv (sel 57)))])
        (sEx .ret)))))))⟩
theorem d5 : denF Try.prog 5 = some c5 := denF_of (by kernel_rfl)
/-- bollard/bollardlaw06.TlvBack -/
noncomputable def c6 : CF := ⟨51, [.tmp (sel 2)],
  sSeq (sRegion [iOp (put 2) (.v false (oEv ⟨fun _ => .bool false⟩))])
  (sSeq (sRegion [iOp (put 8) (.e (eCallF 10 [])),
     iOp (put 3) (.v false (oEv (sel 8)))])
   (sSeq (sSeq (sRegion [iOp (put 9) (.v false (oEv (sel 0))),
       iOp (put 10) (.e (eCallF 11 [(sel 9)])),
       iOp (put 11) (.v false (oNot (sel 10)))])
     (sCond (sel 11)
       (sSeq (sRegion [iOp (put 12) (.v false (oEv (sel 3))),
          iOp (put 2) (.v false (oEv (sel 12)))])
        (sEx .ret))
       (sEx .normal)))
    (sSeq (sRegion [iOp (put 14) (.v false (oEv (sel 0))),
       iOp (put 15) (.e (eCallF 12 [(sel 14)])),
       iOp (put 13) (.v false (oEv (sel 15))),
       iOp (put 16) (.v false (oExtract (sel 13) 0)),
       iOp (put 17) (.v false (oExtract (sel 13) 1)),
       iOp (put 4) (.v false (oEv (sel 16))),
       iOp (put 5) (.v false (oEv (sel 17)))])
     (sSeq (sSeq (sRegion [iOp (put 18) (.v false (oEv (sel 5))),
         iOp (put 19) (.v false (oNe (.one 1) (sel 18) ⟨fun _ => .int .i64 0⟩))])
       (sCond (sel 19)
         (sSeq (sRegion [iOp (put 20) (.v false (oEv (sel 3))),
            iOp (put 21) (.v false (oEv (sel 20))),
            iGuard (sel 21) true (put 22) (iOp (put 22) (.v false (oEv (sel 5)))),
            iGuard (sel 21) true (put 23) (iOp (put 23) (.v false (oEq (.one 1) (sel 22) ⟨fun _ => .int .i64 10⟩))),
            iOp (put 24) (.v false (oPick (sel 21) (sel 23) ⟨fun _ => .bool false⟩)),
            iOp (put 25) (.v false (oEv (sel 24))),
            iGuard (sel 25) true (put 26) (iOp (put 26) (.v false (oEv (sel 4)))),
            iGuard (sel 25) true (put 27) (iOp (put 27) (.v false (oLenS (sel 26)))),
            iGuard (sel 25) true (put 28) (iOp (put 28) (.v false (oEq (.one 1) (sel 27) ⟨fun _ => .int .i64 0⟩))),
            iOp (put 29) (.v false (oPick (sel 25) (sel 28) ⟨fun _ => .bool false⟩)),
            iOp (put 2) (.v false (oEv (sel 29)))])
          (sEx .ret))
         (sEx .normal)))
      (sSeq (sRegion [iOp (put 31) (.v false (oEv (sel 4))),
         iOp (put 32) (.e (eCallF 17 [(sel 31)])),
         iOp (put 30) (.v false (oEv (sel 32))),
         iOp (put 33) (.v false (oExtract (sel 30) 0)),
         iOp (put 34) (.v false (oExtract (sel 30) 1)),
         iOp (put 6) (.v false (oEv (sel 33))),
         iOp (put 7) (.v false (oEv (sel 34)))])
       (sSeq (sRegion [iOp (put 35) (.v false (oEv (sel 3))),
          iOp (put 36) (.v false (oEv (sel 35))),
          iGuard (sel 36) true (put 37) (iOp (put 37) (.v false (oEv (sel 7)))),
          iGuard (sel 36) true (put 38) (iOp (put 38) (.v false (oEq (.one 1) (sel 37) ⟨fun _ => .int .i64 0⟩))),
          iOp (put 39) (.v false (oPick (sel 36) (sel 38) ⟨fun _ => .bool false⟩)),
          iOp (put 40) (.v false (oEv (sel 39))),
          iGuard (sel 40) true (put 41) (iOp (put 41) (.v false (oEv (sel 6)))),
          iGuard (sel 40) true (put 42) (iOp (put 42) (.v false (oEv (sel 0)))),
          iGuard (sel 40) true (put 43) (iOp (put 43) (.e (eCallF 19 [(sel 41), (sel 42)]))),
          iOp (put 44) (.v false (oPick (sel 40) (sel 43) ⟨fun _ => .bool false⟩)),
          iOp (put 45) (.v false (oEv (sel 44))),
          iGuard (sel 45) true (put 46) (iOp (put 46) (.v false (oEv (sel 4)))),
          iGuard (sel 45) true (put 47) (iOp (put 47) (.v false (oLenS (sel 46)))),
          iGuard (sel 45) true (put 48) (iOp (put 48) (.v false (oInt2 fRem (sel 47) ⟨fun _ => .int .i64 4⟩))),
          iGuard (sel 45) true (put 49) (iOp (put 49) (.v false (oEq (.one 1) (sel 48) ⟨fun _ => .int .i64 0⟩))),
          iOp (put 50) (.v false (oPick (sel 45) (sel 49) ⟨fun _ => .bool false⟩)),
          iOp (put 2) (.v false (oEv (sel 50)))])
        (sEx .ret)))))))⟩
theorem d6 : denF Try.prog 6 = some c6 := denF_of (by kernel_rfl)
/-- bollard/bollardlaw06.TlvOnly -/
noncomputable def c7 : CF := ⟨41, [.tmp (sel 2)],
  sSeq (sRegion [iOp (put 2) (.v false (oEv ⟨fun _ => .bool false⟩))])
  (sSeq (sRegion [iOp (put 8) (.e (eCallF 10 [])),
     iOp (put 3) (.v false (oEv (sel 8)))])
   (sSeq (sSeq (sRegion [iOp (put 9) (.v false (oEv (sel 0))),
       iOp (put 10) (.v false (oLenS (sel 9))),
       iOp (put 11) (.v false (oInt2 fGtr (sel 10) ⟨fun _ => .int .i64 3000⟩))])
     (sCond (sel 11)
       (sSeq (sRegion [iOp (put 12) (.v false (oEv (sel 3))),
          iOp (put 2) (.v false (oEv (sel 12)))])
        (sEx .ret))
       (sEx .normal)))
    (sSeq (sRegion [iOp (put 14) (.v false (oEv (sel 0))),
       iOp (put 15) (.e (eCallF 17 [(sel 14)])),
       iOp (put 13) (.v false (oEv (sel 15))),
       iOp (put 16) (.v false (oExtract (sel 13) 0)),
       iOp (put 17) (.v false (oExtract (sel 13) 1)),
       iOp (put 4) (.v false (oEv (sel 16))),
       iOp (put 5) (.v false (oEv (sel 17)))])
     (sSeq (sSeq (sRegion [iOp (put 18) (.v false (oEv (sel 5))),
         iOp (put 19) (.v false (oNe (.one 1) (sel 18) ⟨fun _ => .int .i64 0⟩))])
       (sCond (sel 19)
         (sSeq (sRegion [iOp (put 20) (.v false (oEv (sel 3))),
            iOp (put 21) (.v false (oEv (sel 20))),
            iGuard (sel 21) true (put 22) (iOp (put 22) (.v false (oEv (sel 4)))),
            iGuard (sel 21) true (put 23) (iOp (put 23) (.v false (oLenS (sel 22)))),
            iGuard (sel 21) true (put 24) (iOp (put 24) (.v false (oEq (.one 1) (sel 23) ⟨fun _ => .int .i64 0⟩))),
            iOp (put 25) (.v false (oPick (sel 21) (sel 24) ⟨fun _ => .bool false⟩)),
            iOp (put 2) (.v false (oEv (sel 25)))])
          (sEx .ret))
         (sEx .normal)))
      (sSeq (sRegion [iOp (put 27) (.v false (oEv (sel 4))),
         iOp (put 28) (.e (eCallF 12 [(sel 27)])),
         iOp (put 26) (.v false (oEv (sel 28))),
         iOp (put 29) (.v false (oExtract (sel 26) 0)),
         iOp (put 30) (.v false (oExtract (sel 26) 1)),
         iOp (put 6) (.v false (oEv (sel 29))),
         iOp (put 7) (.v false (oEv (sel 30)))])
       (sSeq (sRegion [iOp (put 31) (.v false (oEv (sel 3))),
          iOp (put 32) (.v false (oEv (sel 31))),
          iGuard (sel 32) true (put 33) (iOp (put 33) (.v false (oEv (sel 7)))),
          iGuard (sel 32) true (put 34) (iOp (put 34) (.v false (oEq (.one 1) (sel 33) ⟨fun _ => .int .i64 0⟩))),
          iOp (put 35) (.v false (oPick (sel 32) (sel 34) ⟨fun _ => .bool false⟩)),
          iOp (put 36) (.v false (oEv (sel 35))),
          iGuard (sel 36) true (put 37) (iOp (put 37) (.v false (oEv (sel 0)))),
          iGuard (sel 36) true (put 38) (iOp (put 38) (.v false (oEv (sel 6)))),
          iGuard (sel 36) true (put 39) (iOp (put 39) (.e (eCallF 14 [(sel 37), (sel 38)]))),
          iOp (put 40) (.v false (oPick (sel 36) (sel 39) ⟨fun _ => .bool false⟩)),
          iOp (put 2) (.v false (oEv (sel 40)))])
        (sEx .ret)))))))⟩
theorem d7 : denF Try.prog 7 = some c7 := denF_of (by kernel_rfl)
/-- bollard/bollardlaw06.TlvJoins -/
noncomputable def c8 : CF := ⟨113, [.tmp (sel 6)],
  sSeq (sRegion [iOp (put 6) (.v false (oEv ⟨fun _ => .bool false⟩))])
  (sSeq (sRegion [iOp (put 17) (.e (eCallF 10 [])),
     iOp (put 7) (.v false (oEv (sel 17)))])
   (sSeq (sSeq (sRegion [iOp (put 18) (.v false (oEv (sel 0))),
       iOp (put 19) (.e (eCallF 11 [(sel 18)])),
       iOp (put 20) (.v false (oNot (sel 19))),
       iOp (put 21) (.v false (oEv (sel 20))),
       iGuard (sel 21) false (put 22) (iOp (put 22) (.v false (oEv (sel 1)))),
       iGuard (sel 21) false (put 23) (iOp (put 23) (.e (eCallF 11 [(sel 22)]))),
       iGuard (sel 21) false (put 24) (iOp (put 24) (.v false (oNot (sel 23)))),
       iOp (put 25) (.v false (oPick (sel 21) ⟨fun _ => .bool true⟩ (sel 24))),
       iOp (put 26) (.v false (oEv (sel 25))),
       iGuard (sel 26) false (put 27) (iOp (put 27) (.v false (oEv (sel 0)))),
       iGuard (sel 26) false (put 28) (iOp (put 28) (.v false (oLenS (sel 27)))),
       iGuard (sel 26) false (put 29) (iOp (put 29) (.v false (oEv (sel 1)))),
       iGuard (sel 26) false (put 30) (iOp (put 30) (.v false (oLenS (sel 29)))),
       iGuard (sel 26) false (put 31) (iOp (put 31) (.v false (oInt2 fAdd (sel 28) (sel 30)))),
       iGuard (sel 26) false (put 32) (iOp (put 32) (.v false (oInt2 fGtr (sel 31) ⟨fun _ => .int .i64 32⟩))),
       iOp (put 33) (.v false (oPick (sel 26) ⟨fun _ => .bool true⟩ (sel 32)))])
     (sCond (sel 33)
       (sSeq (sRegion [iOp (put 34) (.v false (oEv (sel 7))),
          iOp (put 6) (.v false (oEv (sel 34)))])
        (sEx .ret))
       (sEx .normal)))
    (sSeq (sRegion [iOp (put 36) (.v false (oEv (sel 0))),
       iOp (put 37) (.e (eCallF 12 [(sel 36)])),
       iOp (put 35) (.v false (oEv (sel 37))),
       iOp (put 38) (.v false (oExtract (sel 35) 0)),
       iOp (put 39) (.v false (oExtract (sel 35) 1)),
       iOp (put 8) (.v false (oEv (sel 38))),
       iOp (put 9) (.v false (oEv (sel 39)))])
     (sSeq (sRegion [iOp (put 41) (.v false (oEv (sel 1))),
        iOp (put 42) (.e (eCallF 12 [(sel 41)])),
        iOp (put 40) (.v false (oEv (sel 42))),
        iOp (put 43) (.v false (oExtract (sel 40) 0)),
        iOp (put 44) (.v false (oExtract (sel 40) 1)),
        iOp (put 10) (.v false (oEv (sel 43))),
        iOp (put 11) (.v false (oEv (sel 44)))])
      (sSeq (sRegion [iOp (put 46) (.a (aBuildSlice 44 0 (rep 0 [.int .u16 0, .slice none 0 0]) [])),
         iOp (put 47) (.v false (oEv (sel 0))),
         iOp (put 48) (.e (eAppend 44 2 32 (sel 46) (sel 47))),
         iOp (put 49) (.v false (oEv (sel 1))),
         iOp (put 50) (.e (eAppend 44 2 32 (sel 48) (sel 49))),
         iOp (put 51) (.e (eCallF 12 [(sel 50)])),
         iOp (put 45) (.v false (oEv (sel 51))),
         iOp (put 52) (.v false (oExtract (sel 45) 0)),
         iOp (put 53) (.v false (oExtract (sel 45) 1)),
         iOp (put 12) (.v false (oEv (sel 52))),
         iOp (put 13) (.v false (oEv (sel 53)))])
       (sSeq (sSeq (sRegion [iOp (put 54) (.v false (oEv (sel 9))),
           iOp (put 55) (.v false (oNe (.one 1) (sel 54) ⟨fun _ => .int .i64 0⟩)),
           iOp (put 56) (.v false (oEv (sel 55))),
           iGuard (sel 56) false (put 57) (iOp (put 57) (.v false (oEv (sel 11)))),
           iGuard (sel 56) false (put 58) (iOp (put 58) (.v false (oNe (.one 1) (sel 57) ⟨fun _ => .int .i64 0⟩))),
           iOp (put 59) (.v false (oPick (sel 56) ⟨fun _ => .bool true⟩ (sel 58)))])
         (sCond (sel 59)
           (sSeq (sRegion [iOp (put 60) (.v false (oEv (sel 7))),
              iOp (put 61) (.v false (oEv (sel 60))),
              iGuard (sel 61) true (put 62) (iOp (put 62) (.v false (oEv (sel 13)))),
              iGuard (sel 61) true (put 63) (iOp (put 63) (.v false (oEq (.one 1) (sel 62) ⟨fun _ => .int .i64 10⟩))),
              iOp (put 64) (.v false (oPick (sel 61) (sel 63) ⟨fun _ => .bool false⟩)),
              iOp (put 6) (.v false (oEv (sel 64)))])
            (sEx .ret))
           (sEx .normal)))
        (sSeq (sSeq (sRegion [iOp (put 65) (.v false (oEv (sel 1))),
            iOp (put 66) (.v false (oLenS (sel 65))),
            iOp (put 67) (.v false (oEq (.one 1) (sel 66) ⟨fun _ => .int .i64 0⟩))])
          (sCond (sel 67)
            (sSeq (sRegion [iOp (put 68) (.v false (oEv (sel 7))),
               iOp (put 69) (.v false (oEv (sel 68))),
               iGuard (sel 69) true (put 70) (iOp (put 70) (.v false (oEv (sel 13)))),
               iGuard (sel 69) true (put 71) (iOp (put 71) (.v false (oEq (.one 1) (sel 70) ⟨fun _ => .int .i64 0⟩))),
               iOp (put 72) (.v false (oPick (sel 69) (sel 71) ⟨fun _ => .bool false⟩)),
               iOp (put 73) (.v false (oEv (sel 72))),
               iGuard (sel 73) true (put 74) (iOp (put 74) (.v false (oEv (sel 8)))),
               iGuard (sel 73) true (put 75) (iOp (put 75) (.v false (oEv (sel 12)))),
               iGuard (sel 73) true (put 76) (iOp (put 76) (.e (eCallF 14 [(sel 74), (sel 75)]))),
               iOp (put 77) (.v false (oPick (sel 73) (sel 76) ⟨fun _ => .bool false⟩)),
               iOp (put 6) (.v false (oEv (sel 77)))])
             (sEx .ret))
            (sEx .normal)))
         (sSeq (sRegion [iOp (put 78) (.v false (oEv (sel 8))),
            iOp (put 79) (.v false (oLenS (sel 78))),
            iOp (put 80) (.v false (oInt2 fAdd (sel 79) ⟨fun _ => .int .i64 1⟩)),
            iOp (put 81) (.v false (oEv (sel 2))),
            iOp (put 82) (.v false (oInt2 fAnd (sel 81) ⟨fun _ => .int .i64 65535⟩)),
            iOp (put 83) (.v false (oInt2 fRem (sel 82) ⟨fun _ => .int .i64 3⟩)),
            iOp (put 84) (.v false (oInt2 fAdd (sel 80) (sel 83))),
            iOp (put 14) (.v false (oEv (sel 84)))])
          (sSeq (sRegion [iOp (put 86) (.v false (oEv (sel 12))),
             iOp (put 87) (.v false (oEv (sel 14))),
             iOp (put 88) (.v false (oEv (sel 12))),
             iOp (put 89) (.v false (oLenS (sel 88))),
             iOp (put 90) (.v false (oBest true (sel 87) [(sel 89)])),
             iOp (put 91) (.v false (oSlice 1 (sel 86) none (some (sel 90)) none)),
             iOp (put 92) (.e (eCallF 17 [(sel 91)])),
             iOp (put 85) (.v false (oEv (sel 92))),
             iOp (put 93) (.v false (oExtract (sel 85) 0)),
             iOp (put 94) (.v false (oExtract (sel 85) 1)),
             iOp (put 15) (.v false (oEv (sel 93))),
             iOp (put 16) (.v false (oEv (sel 94)))])
           (sSeq (sRegion [iOp (put 95) (.v false (oEv (sel 7))),
              iOp (put 96) (.v false (oEv (sel 95))),
              iGuard (sel 96) true (put 97) (iOp (put 97) (.v false (oEv (sel 13)))),
              iGuard (sel 96) true (put 98) (iOp (put 98) (.v false (oEq (.one 1) (sel 97) ⟨fun _ => .int .i64 0⟩))),
              iOp (put 99) (.v false (oPick (sel 96) (sel 98) ⟨fun _ => .bool false⟩)),
              iOp (put 100) (.v false (oEv (sel 99))),
              iGuard (sel 100) true (put 101) (iOp (put 101) (.a (aBuildSlice 5 0 (rep 0 [.int .u8 0]) []))),
              iGuard (sel 100) true (put 102) (iOp (put 102) (.v false (oEv (sel 8)))),
              iGuard (sel 100) true (put 103) (iOp (put 103) (.e (eAppend 5 1 1 (sel 101) (sel 102)))),
              iGuard (sel 100) true (put 104) (iOp (put 104) (.v false (oEv (sel 10)))),
              iGuard (sel 100) true (put 105) (iOp (put 105) (.e (eAppend 5 1 1 (sel 103) (sel 104)))),
              iGuard (sel 100) true (put 106) (iOp (put 106) (.v false (oEv (sel 12)))),
              iGuard (sel 100) true (put 107) (iOp (put 107) (.e (eCallF 14 [(sel 105), (sel 106)]))),
              iOp (put 108) (.v false (oPick (sel 100) (sel 107) ⟨fun _ => .bool false⟩)),
              iOp (put 109) (.v false (oEv (sel 108))),
              iGuard (sel 109) true (put 110) (iOp (put 110) (.v false (oEv (sel 16)))),
              iGuard (sel 109) true (put 111) (iOp (put 111) (.v false (oEq (.one 1) (sel 110) ⟨fun _ => .int .i64 2⟩))),
              iOp (put 112) (.v false (oPick (sel 109) (sel 111) ⟨fun _ => .bool false⟩)),
              iOp (put 6) (.v false (oEv (sel 112)))])
            (sEx .ret)))))))))))⟩
theorem d8 : denF Try.prog 8 = some c8 := denF_of (by kernel_rfl)
noncomputable def c9_0 : Vm.Sem := sSeq (sSeq (sRegion [iOp (put 16) (.v false (oEv (sel 7))),
    iOp (put 17) (.v false (oEv (sel 0))),
    iOp (put 18) (.v false (oLenS (sel 17))),
    iOp (put 19) (.v false (oInt2 fLss (sel 16) (sel 18)))])
  (sCond (sel 19)
    (sEx .normal)
    (sEx (.exit 0))))
 (sSeq (sBlock 1 (sSeq (sRegion [iOp (put 22) (.v false (oEv (sel 0))),
      iOp (put 23) (.v false (oEv (sel 7))),
      iOp (put 24) (.v false (oIndexAddrS 2 (sel 22) (sel 23))),
      iOp (put 25) (.v false (oFieldAddr 0 (sel 24))),
      iOp (put 26) (.v true (oLoad1 (sel 25))),
      iOp (put 27) (.v false (oEv (sel 1))),
      iOp (put 28) (.v false (oEq (.one 1) (sel 26) (sel 27))),
      iOp (put 29) (.v false (oEv (sel 28))),
      iGuard (sel 29) true (put 30) (iOp (put 30) (.v false (oEv (sel 6)))),
      iGuard (sel 29) true (put 31) (iOp (put 31) (.v false (oInt2 fLss (sel 30) ⟨fun _ => .int .i64 0⟩))),
      iGuard (sel 29) true (put 32) (iOp (put 32) (.v false (oEv (sel 31)))),
      iGuard (sel 32) false (put 33) (iOp (put 33) (.v false (oEv (sel 7)))),
      iGuard (sel 32) false (put 34) (iOp (put 34) (.v false (oEv (sel 6)))),
      iGuard (sel 32) false (put 35) (iOp (put 35) (.v false (oInt2 fLss (sel 33) (sel 34)))),
      iGuard (sel 29) true (put 36) (iOp (put 36) (.v false (oPick (sel 32) ⟨fun _ => .bool true⟩ (sel 35)))),
      iOp (put 37) (.v false (oPick (sel 29) (sel 36) ⟨fun _ => .bool false⟩)),
      iOp (put 38) (.v false (oEv (sel 37))),
      iGuard (sel 38) false (put 39) (iOp (put 39) (.v false (oEv (sel 7)))),
      iGuard (sel 38) false (put 40) (iOp (put 40) (.v false (oEv (sel 6)))),
      iGuard (sel 38) false (put 41) (iOp (put 41) (.v false (oEq (.one 1) (sel 39) (sel 40)))),
      iGuard (sel 38) false (put 42) (iOp (put 42) (.v false (oEv (sel 41)))),
      iGuard (sel 42) true (put 43) (iOp (put 43) (.v false (oEv (sel 0)))),
      iGuard (sel 42) true (put 44) (iOp (put 44) (.v false (oEv (sel 7)))),
      iGuard (sel 42) true (put 45) (iOp (put 45) (.v false (oIndexAddrS 2 (sel 43) (sel 44)))),
      iGuard (sel 42) true (put 46) (iOp (put 46) (.v false (oFieldAddr 0 (sel 45)))),
      iGuard (sel 42) true (put 47) (iOp (put 47) (.v true (oLoad1 (sel 46)))),
      iGuard (sel 42) true (put 48) (iOp (put 48) (.v false (oEv (sel 1)))),
      iGuard (sel 42) true (put 49) (iOp (put 49) (.v false (oNe (.one 1) (sel 47) (sel 48)))),
      iGuard (sel 38) false (put 50) (iOp (put 50) (.v false (oPick (sel 42) (sel 49) ⟨fun _ => .bool false⟩))),
      iOp (put 51) (.v false (oPick (sel 38) ⟨fun _ => .bool true⟩ (sel 50)))])
    (sCond (sel 51)
      (sSeq (sRegion [iOp (put 4) (.v false (oEv ⟨fun _ => .bool false⟩))])
       (sEx .ret))
      (sEx .normal))))
  (sRegion [iOp (put 20) (.v false (oEv (sel 7))),
    iOp (put 21) (.v false (oInt2 fAdd (sel 20) ⟨fun _ => .int .i64 1⟩)),
    iOp (put 7) (.v false (oEv (sel 21)))]))
/-- bollard/bollardlaw06.TlvFinds -/
noncomputable def c9 : CF := ⟨73, [.tmp (sel 4)],
  sSeq (sRegion [iOp (put 4) (.v false (oEv ⟨fun _ => .bool false⟩))])
  (sSeq (sRegion [iOp (put 8) (.e (eCallF 10 [])),
     iOp (put 5) (.v false (oEv (sel 8)))])
   (sSeq (sSeq (sRegion [iOp (put 9) (.v false (oEv (sel 0))),
       iOp (put 10) (.v false (oLenS (sel 9))),
       iOp (put 11) (.v false (oInt2 fGtr (sel 10) ⟨fun _ => .int .i64 100⟩))])
     (sCond (sel 11)
       (sSeq (sRegion [iOp (put 12) (.v false (oEv (sel 5))),
          iOp (put 4) (.v false (oEv (sel 12)))])
        (sEx .ret))
       (sEx .normal)))
    (sSeq (sRegion [iOp (put 13) (.v false (oEv (sel 0))),
       iOp (put 14) (.v false (oEv (sel 1))),
       iOp (put 15) (.e (eCallF 15 [(sel 13), (sel 14)])),
       iOp (put 6) (.v false (oEv (sel 15)))])
     (sSeq (sSeq (sRegion [iOp (put 7) (.v false (oEv ⟨fun _ => .int .i64 0⟩))])
       (sBlock 0 (sLoop c9_0)))
      (sSeq (sRegion [iOp (put 52) (.v false (oEv (sel 5))),
         iOp (put 53) (.v false (oEv (sel 52))),
         iGuard (sel 53) true (put 54) (iOp (put 54) (.v false (oEv (sel 6)))),
         iGuard (sel 53) true (put 55) (iOp (put 55) (.v false (oInt2 fGeq (sel 54) ⟨fun _ => .int .i64 (-1)⟩))),
         iOp (put 56) (.v false (oPick (sel 53) (sel 55) ⟨fun _ => .bool false⟩)),
         iOp (put 57) (.v false (oEv (sel 56))),
         iGuard (sel 57) true (put 58) (iOp (put 58) (.v false (oEv (sel 6)))),
         iGuard (sel 57) true (put 59) (iOp (put 59) (.v false (oEv (sel 0)))),
         iGuard (sel 57) true (put 60) (iOp (put 60) (.v false (oLenS (sel 59)))),
         iGuard (sel 57) true (put 61) (iOp (put 61) (.v false (oInt2 fLss (sel 58) (sel 60)))),
         iOp (put 62) (.v false (oPick (sel 57) (sel 61) ⟨fun _ => .bool false⟩)),
         iOp (put 63) (.v false (oEv (sel 62))),
         iGuard (sel 63) true (put 64) (iOp (put 64) (.v false (oEv (sel 1)))),
         iGuard (sel 63) true (put 65) (iOp (put 65) (.v false (oBuild [.int .u16 0, .slice none 0 0] [(0, 1, (sel 64))]))),
         iGuard (sel 63) true (put 66) (iOp (put 66) (.a (aBuildSlice 44 1 (rep 1 [.int .u16 0, .slice none 0 0]) [(0, 2, (sel 65))]))),
         iGuard (sel 63) true (put 67) (iOp (put 67) (.v false (oEv (sel 0)))),
         iGuard (sel 63) true (put 68) (iOp (put 68) (.e (eAppend 44 2 32 (sel 66) (sel 67)))),
         iGuard (sel 63) true (put 69) (iOp (put 69) (.v false (oEv (sel 1)))),
         iGuard (sel 63) true (put 70) (iOp (put 70) (.e (eCallF 15 [(sel 68), (sel 69)]))),
         iGuard (sel 63) true (put 71) (iOp (put 71) (.v false (oEq (.one 1) (sel 70) ⟨fun _ => .int .i64 0⟩))),
         iOp (put 72) (.v false (oPick (sel 63) (sel 71) ⟨fun _ => .bool false⟩)),
         iOp (put 4) (.v false (oEv (sel 72)))])
       (sEx .ret))))))⟩
theorem d9 : denF Try.prog 9 = some c9 := denF_of (by kernel_rfl)
/-- bollard/bollardlaw06.awake -/
noncomputable def c10 : CF := ⟨70, [.tmp (sel 0)],
  sSeq (sRegion [iOp (put 0) (.v false (oEv ⟨fun _ => .bool false⟩))])
  (sSeq (sRegion [iOp (put 10) (.a (aBuildSlice 5 1 (rep 1 [.int .u8 0]) [(0, 1, ⟨fun _ => .int .u8 9⟩)])),
     iOp (put 11) (.v false (oBuild [.int .u16 0, .slice none 0 0] [(0, 1, ⟨fun _ => .int .u16 7⟩), (1, 1, (sel 10))])),
     iOp (put 12) (.a (aBuildSlice 44 1 (rep 1 [.int .u16 0, .slice none 0 0]) [(0, 2, (sel 11))])),
     iOp (put 1) (.v false (oEv (sel 12)))])
   (sSeq (sRegion [iOp (put 14) (.v false (oEv (sel 1))),
      iOp (put 15) (.e (eCallF 12 [(sel 14)])),
      iOp (put 13) (.v false (oEv (sel 15))),
      iOp (put 16) (.v false (oExtract (sel 13) 0)),
      iOp (put 17) (.v false (oExtract (sel 13) 1)),
      iOp (put 2) (.v false (oEv (sel 16))),
      iOp (put 3) (.v false (oEv (sel 17)))])
    (sSeq (sRegion [iOp (put 19) (.v false (oEv (sel 2))),
       iOp (put 20) (.e (eCallF 17 [(sel 19)])),
       iOp (put 18) (.v false (oEv (sel 20))),
       iOp (put 21) (.v false (oExtract (sel 18) 0)),
       iOp (put 22) (.v false (oExtract (sel 18) 1)),
       iOp (put 4) (.v false (oEv (sel 21))),
       iOp (put 5) (.v false (oEv (sel 22)))])
     (sSeq (sRegion [iOp (put 24) (.e (eCallF 20 [⟨fun _ => .int .u16 49152⟩])),
        iOp (put 23) (.v false (oEv (sel 24))),
        iOp (put 25) (.v false (oExtract (sel 23) 0)),
        iOp (put 26) (.v false (oExtract (sel 23) 1)),
        iOp (put 6) (.v false (oEv (sel 25))),
        iOp (put 7) (.v false (oEv (sel 26)))])
      (sSeq (sRegion [iOp (put 28) (.e (eCallF 22 [⟨fun _ => .int .u8 64⟩])),
         iOp (put 27) (.v false (oEv (sel 28))),
         iOp (put 29) (.v false (oExtract (sel 27) 0)),
         iOp (put 30) (.v false (oExtract (sel 27) 1)),
         iOp (put 8) (.v false (oEv (sel 29))),
         iOp (put 9) (.v false (oEv (sel 30)))])
       (sSeq (sRegion [iOp (put 31) (.v false (oEv (sel 3))),
          iOp (put 32) (.v false (oEq (.one 1) (sel 31) ⟨fun _ => .int .i64 0⟩)),
          iOp (put 33) (.v false (oEv (sel 32))),
          iGuard (sel 33) true (put 34) (iOp (put 34) (.v false (oEv (sel 2)))),
          iGuard (sel 33) true (put 35) (iOp (put 35) (.a (aBuildSlice 5 8 (rep 8 [.int .u8 0]) [(0, 1, ⟨fun _ => .int .u8 0⟩), (1, 1, ⟨fun _ => .int .u8 7⟩), (2, 1, ⟨fun _ => .int .u8 0⟩), (3, 1, ⟨fun _ => .int .u8 5⟩), (4, 1, ⟨fun _ => .int .u8 9⟩), (5, 1, ⟨fun _ => .int .u8 0⟩), (6, 1, ⟨fun _ => .int .u8 0⟩), (7, 1, ⟨fun _ => .int .u8 0⟩)]))),
          iGuard (sel 33) true (put 36) (iOp (put 36) (.e (eCallF 14 [(sel 34), (sel 35)]))),
          iOp (put 37) (.v false (oPick (sel 33) (sel 36) ⟨fun _ => .bool false⟩)),
          iOp (put 38) (.v false (oEv (sel 37))),
          iGuard (sel 38) true (put 39) (iOp (put 39) (.v false (oEv (sel 5)))),
          iGuard (sel 38) true (put 40) (iOp (put 40) (.v false (oEq (.one 1) (sel 39) ⟨fun _ => .int .i64 0⟩))),
          iOp (put 41) (.v false (oPick (sel 38) (sel 40) ⟨fun _ => .bool false⟩)),
          iOp (put 42) (.v false (oEv (sel 41))),
          iGuard (sel 42) true (put 43) (iOp (put 43) (.v false (oEv (sel 4)))),
          iGuard (sel 42) true (put 44) (iOp (put 44) (.v false (oEv (sel 1)))),
          iGuard (sel 42) true (put 45) (iOp (put 45) (.e (eCallF 19 [(sel 43), (sel 44)]))),
          iOp (put 46) (.v false (oPick (sel 42) (sel 45) ⟨fun _ => .bool false⟩)),
          iOp (put 47) (.v false (oEv (sel 46))),
          iGuard (sel 47) true (put 48) (iOp (put 48) (.v false (oEv (sel 1)))),
          iGuard (sel 47) true (put 49) (iOp (put 49) (.e (eCallF 15 [(sel 48), ⟨fun _ => .int .u16 7⟩]))),
          iGuard (sel 47) true (put 50) (iOp (put 50) (.v false (oEq (.one 1) (sel 49) ⟨fun _ => .int .i64 0⟩))),
          iOp (put 51) (.v false (oPick (sel 47) (sel 50) ⟨fun _ => .bool false⟩)),
          iOp (put 52) (.v false (oEv (sel 51))),
          iGuard (sel 52) true (put 53) (iOp (put 53) (.v false (oEv (sel 1)))),
          iGuard (sel 52) true (put 54) (iOp (put 54) (.e (eCallF 15 [(sel 53), ⟨fun _ => .int .u16 8⟩]))),
          iGuard (sel 52) true (put 55) (iOp (put 55) (.v false (oEq (.one 1) (sel 54) ⟨fun _ => .int .i64 (-1)⟩))),
          iOp (put 56) (.v false (oPick (sel 52) (sel 55) ⟨fun _ => .bool false⟩)),
          iOp (put 57) (.v false (oEv (sel 56))),
          iGuard (sel 57) true (put 58) (iOp (put 58) (.v false (oEv (sel 6)))),
          iGuard (sel 57) true (put 59) (iOp (put 59) (.v false (oNot (sel 58)))),
          iOp (put 60) (.v false (oPick (sel 57) (sel 59) ⟨fun _ => .bool false⟩)),
          iOp (put 61) (.v false (oEv (sel 60))),
          iGuard (sel 61) true (put 62) (iOp (put 62) (.v false (oEv (sel 7)))),
          iOp (put 63) (.v false (oPick (sel 61) (sel 62) ⟨fun _ => .bool false⟩)),
          iOp (put 64) (.v false (oEv (sel 63))),
          iGuard (sel 64) true (put 65) (iOp (put 65) (.v false (oEv (sel 8)))),
          iOp (put 66) (.v false (oPick (sel 64) (sel 65) ⟨fun _ => .bool false⟩)),
          iOp (put 67) (.v false (oEv (sel 66))),
          iGuard (sel 67) true (put 68) (iOp (put 68) (.v false (oEv (sel 9)))),
          iOp (put 69) (.v false (oPick (sel 67) (sel 68) ⟨fun _ => .bool false⟩)),
          iOp (put 0) (.v false (oEv (sel 69)))])
        (sEx .ret)))))))⟩
theorem d10 : denF Try.prog 10 = some c10 := denF_of (by kernel_rfl)
noncomputable def c11_0 : Vm.Sem := sSeq (sSeq (sRegion [iOp (put 7) (.v false (oEv (sel 3))),
    iOp (put 8) (.v false (oEv (sel 0))),
    iOp (put 9) (.v false (oLenS (sel 8))),
    iOp (put 10) (.v false (oInt2 fLss (sel 7) (sel 9)))])
  (sCond (sel 10)
    (sEx .normal)
    (sEx (.exit 0))))
 (sSeq (sBlock 1 (sSeq (sRegion [iOp (put 13) (.v false (oEv (sel 0))),
      iOp (put 14) (.v false (oEv (sel 3))),
      iOp (put 15) (.v false (oIndexAddrS 2 (sel 13) (sel 14))),
      iOp (put 16) (.v false (oFieldAddr 1 (sel 15))),
      iOp (put 17) (.v true (oLoad1 (sel 16))),
      iOp (put 18) (.v false (oLenS (sel 17))),
      iOp (put 19) (.v false (oInt2 fGtr (sel 18) ⟨fun _ => .int .i64 1300⟩))])
    (sCond (sel 19)
      (sSeq (sRegion [iOp (put 2) (.v false (oEv ⟨fun _ => .bool false⟩))])
       (sEx .ret))
      (sEx .normal))))
  (sRegion [iOp (put 11) (.v false (oEv (sel 3))),
    iOp (put 12) (.v false (oInt2 fAdd (sel 11) ⟨fun _ => .int .i64 1⟩)),
    iOp (put 3) (.v false (oEv (sel 12)))]))
/-- bollard/bollardlaw06.few -/
noncomputable def c11 : CF := ⟨20, [.tmp (sel 2)],
  sSeq (sRegion [iOp (put 2) (.v false (oEv ⟨fun _ => .bool false⟩))])
  (sSeq (sSeq (sRegion [iOp (put 4) (.v false (oEv (sel 0))),
      iOp (put 5) (.v false (oLenS (sel 4))),
      iOp (put 6) (.v false (oInt2 fGtr (sel 5) ⟨fun _ => .int .i64 40⟩))])
    (sCond (sel 6)
      (sSeq (sRegion [iOp (put 2) (.v false (oEv ⟨fun _ => .bool false⟩))])
       (sEx .ret))
      (sEx .normal)))
   (sSeq (sSeq (sRegion [iOp (put 3) (.v false (oEv ⟨fun _ => .int .i64 0⟩))])
     (sBlock 0 (sLoop c11_0)))
    (sSeq (sRegion [iOp (put 2) (.v false (oEv ⟨fun _ => .bool true⟩))])
     (sEx .ret))))⟩
theorem d11 : denF Try.prog 11 = some c11 := denF_of (by kernel_rfl)
noncomputable def c12_0 : Vm.Sem := sSeq (sRegion [iOp (put 18) (.v false (oInt2 fLss (sel 17) (sel 16)))])
 (sSeq (sCond (sel 18)
    (sEx .normal)
    (sEx (.exit 0)))
  (sSeq (sBlock 1 (sSeq (sRegion [iOp (put 19) (.v false (oIndexAddrS 2 (sel 15) (sel 17))),
       iOp (put 20) (.v true (oLoadN 2 (sel 19))),
       iOp (put 6) (.a (aAlloc 44 [.int .u16 0, .slice none 0 0])),
       iOp ⟨fun _ a => a⟩ (.e (eStore 2 (sel 6) (sel 20)))])
     (sSeq (sDr [iOp (put 21) (.v false (oFieldAddr 0 (sel 6))),
        iOp (put 22) (.v true (oLoad1 (sel 21))),
        iOp (put 23) (.e (eCallF 25 [⟨fun _ => .slice none 0 0⟩, (sel 22)])),
        iOp (put 24) (.v false (oFieldAddr 1 (sel 6))),
        iOp (put 25) (.v true (oLoad1 (sel 24))),
        iOp (put 26) (.v false (oLenS (sel 25))),
        iOp (put 27) (.v false (oInt2 fAdd ⟨fun _ => .int .i64 4⟩ (sel 26))),
        iOp (put 28) (.v false (oConvInt .u16 (sel 27))),
        iOp (put 29) (.e (eCallF 25 [(sel 23), (sel 28)])),
        iOp (put 7) (.v false (oEv (sel 29)))]
        [(4, none, (oLoad1 (sel 24)), [0, 3])])
      (sRegion [iOp (put 30) (.v false (oEv (sel 4))),
        iOp (put 31) (.v false (oEv (sel 7))),
        iOp (put 32) (.v false (oFieldAddr 1 (sel 6))),
        iOp (put 33) (.v true (oLoad1 (sel 32))),
        iOp (put 34) (.e (eAppend 5 1 1 (sel 31) (sel 33))),
        iOp (put 35) (.e (eCallF 26 [(sel 34)])),
        iOp (put 36) (.e (eAppend 5 1 1 (sel 30) (sel 35))),
        iOp (put 4) (.v false (oEv (sel 36)))]))))
   (sRegion [iOp (put 37) (.v false (oInt2 fAdd (sel 17) ⟨fun _ => .int .i64 1⟩)),
     iOp (put 17) (.v false (oEv (sel 37)))])))
/-- bollard/tlv.Encode -/
noncomputable def c12 : CF := ⟨39, [.tmp (sel 2), .tmp (sel 3)],
  sSeq (sRegion [iOp (put 2) (.v false (oEv ⟨fun _ => .slice none 0 0⟩)),
    iOp (put 3) (.v false (oEv ⟨fun _ => .int .i64 0⟩))])
  (sSeq (sSeq (sRegion [iOp (put 8) (.v false (oEv (sel 0))),
      iOp (put 9) (.v false (oLenS (sel 8))),
      iOp (put 10) (.v false (oInt2 fGtr (sel 9) ⟨fun _ => .int .i64 32⟩)),
      iOp (put 11) (.v false (oEv (sel 10))),
      iGuard (sel 11) false (put 12) (iOp (put 12) (.v false (oEv (sel 0)))),
      iGuard (sel 11) false (put 13) (iOp (put 13) (.e (eCallF 23 [(sel 12), ⟨fun _ => .func (.func 24) #[] #[]⟩]))),
      iOp (put 14) (.v false (oPick (sel 11) ⟨fun _ => .bool true⟩ (sel 13)))])
    (sCond (sel 14)
      (sSeq (sRegion [iOp (put 2) (.v false (oEv ⟨fun _ => .slice none 0 0⟩)),
         iOp (put 3) (.v false (oEv ⟨fun _ => .int .i64 10⟩))])
       (sEx .ret))
      (sEx .normal)))
   (sSeq (sRegion [iOp (put 4) (.v false (oEv ⟨fun _ => .slice none 0 0⟩))])
    (sSeq (sSeq (sRegion [iOp (put 15) (.v false (oEv (sel 0))),
        iOp (put 16) (.v false (oLenS (sel 15))),
        iOp (put 17) (.v false (oEv ⟨fun _ => .int .i64 0⟩))])
      (sBlock 0 (sLoop c12_0)))
     (sSeq (sRegion [iOp (put 38) (.v false (oEv (sel 4))),
        iOp (put 2) (.v false (oEv (sel 38))),
        iOp (put 3) (.v false (oEv ⟨fun _ => .int .i64 0⟩))])
      (sEx .ret)))))⟩
theorem d12 : denF Try.prog 12 = some c12 := denF_of (by kernel_rfl)
noncomputable def c13_0 : Vm.Sem := sSeq (sSeq (sRegion [iOp (put 9) (.v false (oEv (sel 5))),
    iOp (put 10) (.v false (oEv (sel 0))),
    iOp (put 11) (.v false (oLenS (sel 10))),
    iOp (put 12) (.v false (oInt2 fLss (sel 9) (sel 11)))])
  (sCond (sel 12)
    (sEx .normal)
    (sEx (.exit 0))))
 (sSeq (sBlock 1 (sSeq (sSeq (sRegion [iOp (put 15) (.v false (oEv (sel 0))),
       iOp (put 16) (.v false (oEv (sel 5))),
       iOp (put 17) (.v false (oIndexAddrS 2 (sel 15) (sel 16))),
       iOp (put 18) (.v false (oFieldAddr 1 (sel 17))),
       iOp (put 19) (.v true (oLoad1 (sel 18))),
       iOp (put 20) (.v false (oLenS (sel 19))),
       iOp (put 21) (.v false (oInt2 fGtr (sel 20) ⟨fun _ => .int .i64 1200⟩))])
     (sCond (sel 21)
       (sSeq (sRegion [iOp (put 2) (.v false (oEv ⟨fun _ => .slice none 0 0⟩)),
          iOp (put 3) (.v false (oEv ⟨fun _ => .int .i64 10⟩))])
        (sEx .ret))
       (sEx .normal)))
    (sSeq (sDr [iOp (put 22) (.v false (oEv (sel 4))),
       iOp (put 23) (.v false (oEv (sel 0))),
       iOp (put 24) (.v false (oEv (sel 5))),
       iOp (put 25) (.v false (oIndexAddrS 2 (sel 23) (sel 24))),
       iOp (put 26) (.v false (oFieldAddr 0 (sel 25))),
       iOp (put 27) (.v true (oLoad1 (sel 26))),
       iOp (put 28) (.v false (oConvInt .u32 (sel 27))),
       iOp (put 29) (.e (eCallF 27 [(sel 22), (sel 28), ⟨fun _ => .int .i64 2⟩])),
       iOp (put 30) (.v false (oEv (sel 0))),
       iOp (put 31) (.v false (oEv (sel 5))),
       iOp (put 32) (.v false (oIndexAddrS 2 (sel 30) (sel 31))),
       iOp (put 33) (.v false (oFieldAddr 1 (sel 32))),
       iOp (put 34) (.v true (oLoad1 (sel 33))),
       iOp (put 35) (.v false (oLenS (sel 34))),
       iOp (put 36) (.v false (oInt2 fAdd ⟨fun _ => .int .i64 4⟩ (sel 35))),
       iOp (put 37) (.v false (oConvInt .u32 (sel 36))),
       iOp (put 38) (.e (eCallF 27 [(sel 29), (sel 37), ⟨fun _ => .int .i64 2⟩])),
       iOp (put 4) (.v false (oEv (sel 38)))]
       [(12, none, (oLoad1 (sel 33)), [0, 8])])
     (sSeq (sRegion [iOp (put 39) (.v false (oEv (sel 4))),
        iOp (put 40) (.v false (oEv (sel 0))),
        iOp (put 41) (.v false (oEv (sel 5))),
        iOp (put 42) (.v false (oIndexAddrS 2 (sel 40) (sel 41))),
        iOp (put 43) (.v false (oFieldAddr 1 (sel 42))),
        iOp (put 44) (.v true (oLoad1 (sel 43))),
        iOp (put 45) (.e (eAppend 5 1 1 (sel 39) (sel 44))),
        iOp (put 4) (.v false (oEv (sel 45)))])
      (sRegion [iOp (put 46) (.v false (oEv (sel 4))),
        iOp (put 47) (.e (eCallF 28 [(sel 46)])),
        iOp (put 4) (.v false (oEv (sel 47)))])))))
  (sRegion [iOp (put 13) (.v false (oEv (sel 5))),
    iOp (put 14) (.v false (oInt2 fAdd (sel 13) ⟨fun _ => .int .i64 1⟩)),
    iOp (put 5) (.v false (oEv (sel 14)))]))
/-- bollard/bollardref06.Encode -/
noncomputable def c13 : CF := ⟨49, [.tmp (sel 2), .tmp (sel 3)],
  sSeq (sRegion [iOp (put 2) (.v false (oEv ⟨fun _ => .slice none 0 0⟩)),
    iOp (put 3) (.v false (oEv ⟨fun _ => .int .i64 0⟩))])
  (sSeq (sSeq (sRegion [iOp (put 6) (.v false (oEv (sel 0))),
      iOp (put 7) (.v false (oLenS (sel 6))),
      iOp (put 8) (.v false (oInt2 fGtr (sel 7) ⟨fun _ => .int .i64 32⟩))])
    (sCond (sel 8)
      (sSeq (sRegion [iOp (put 2) (.v false (oEv ⟨fun _ => .slice none 0 0⟩)),
         iOp (put 3) (.v false (oEv ⟨fun _ => .int .i64 10⟩))])
       (sEx .ret))
      (sEx .normal)))
   (sSeq (sRegion [iOp (put 4) (.v false (oEv ⟨fun _ => .slice none 0 0⟩))])
    (sSeq (sSeq (sRegion [iOp (put 5) (.v false (oEv ⟨fun _ => .int .i64 0⟩))])
      (sBlock 0 (sLoop c13_0)))
     (sSeq (sRegion [iOp (put 48) (.v false (oEv (sel 4))),
        iOp (put 2) (.v false (oEv (sel 48))),
        iOp (put 3) (.v false (oEv ⟨fun _ => .int .i64 0⟩))])
      (sEx .ret)))))⟩
theorem d13 : denF Try.prog 13 = some c13 := denF_of (by kernel_rfl)
/-- bollard/bollardlaw06.same -/
noncomputable def c14 : CF := ⟨10, [.tmp (sel 4)],
  sSeq (sRegion [iOp (put 4) (.v false (oEv ⟨fun _ => .bool false⟩))])
  (sSeq (sRegion [iOp (put 5) (.v false (oEv (sel 0))),
     iOp (put 6) (.v true (oToString (sel 5))),
     iOp (put 7) (.v false (oEv (sel 1))),
     iOp (put 8) (.v true (oToString (sel 7))),
     iOp (put 9) (.v false (oEq (.one 2) (sel 6) (sel 8))),
     iOp (put 4) (.v false (oEv (sel 9)))])
   (sEx .ret))⟩
theorem d14 : denF Try.prog 14 = some c14 := denF_of (by kernel_rfl)
/-- bollard/tlv.Find -/
noncomputable def c15 : CF := ⟨8, [.tmp (sel 4)],
  sSeq (sRegion [iOp (put 3) (.a (aBox 23 (sel 1))),
    iOp (put 4) (.v false (oEv ⟨fun _ => .int .i64 0⟩))])
  (sSeq (sRegion [iOp (put 5) (.v false (oEv (sel 0))),
     iOp (put 6) (.v false (oFunc (.func 30) [] [(sel 3)])),
     iOp (put 7) (.e (eCallF 29 [(sel 5), (sel 6)])),
     iOp (put 4) (.v false (oEv (sel 7)))])
   (sEx .ret))⟩
theorem d15 : denF Try.prog 15 = some c15 := denF_of (by kernel_rfl)
noncomputable def c16_0 : Vm.Sem := sSeq (sSeq (sRegion [iOp (put 6) (.v false (oEv (sel 5))),
    iOp (put 7) (.v false (oEv (sel 0))),
    iOp (put 8) (.v false (oLenS (sel 7))),
    iOp (put 9) (.v false (oInt2 fLss (sel 6) (sel 8)))])
  (sCond (sel 9)
    (sEx .normal)
    (sEx (.exit 0))))
 (sSeq (sBlock 1 (sSeq (sRegion [iOp (put 12) (.v false (oEv (sel 0))),
      iOp (put 13) (.v false (oEv (sel 5))),
      iOp (put 14) (.v false (oIndexAddrS 2 (sel 12) (sel 13))),
      iOp (put 15) (.v false (oFieldAddr 0 (sel 14))),
      iOp (put 16) (.v true (oLoad1 (sel 15))),
      iOp (put 17) (.v false (oEv (sel 1))),
      iOp (put 18) (.v false (oEq (.one 1) (sel 16) (sel 17)))])
    (sCond (sel 18)
      (sSeq (sRegion [iOp (put 19) (.v false (oEv (sel 5))),
         iOp (put 4) (.v false (oEv (sel 19)))])
       (sEx .ret))
      (sEx .normal))))
  (sRegion [iOp (put 10) (.v false (oEv (sel 5))),
    iOp (put 11) (.v false (oInt2 fAdd (sel 10) ⟨fun _ => .int .i64 1⟩)),
    iOp (put 5) (.v false (oEv (sel 11)))]))
/-- bollard/bollardref06.Find -/
noncomputable def c16 : CF := ⟨20, [.tmp (sel 4)],
  sSeq (sRegion [iOp (put 4) (.v false (oEv ⟨fun _ => .int .i64 0⟩))])
  (sSeq (sSeq (sRegion [iOp (put 5) (.v false (oEv ⟨fun _ => .int .i64 0⟩))])
    (sBlock 0 (sLoop c16_0)))
   (sSeq (sRegion [iOp (put 4) (.v false (oEv ⟨fun _ => .int .i64 (-1)⟩))])
    (sEx .ret)))⟩
theorem d16 : denF Try.prog 16 = some c16 := denF_of (by kernel_rfl)
noncomputable def k17_0 : Code × Code := pickR (bodyOf Try.prog 17) 0
noncomputable def a17_0 : Vm.Sem := sSeq (sRegion [iOp (put 5) (.a (aAlloc 44 [.int .u16 0, .slice none 0 0])),
   iOp ⟨fun _ a => a⟩ (.e (eStore 2 (sel 5) (sel 10)))])
 (sRegion [iOp (put 6) (.v false (oEv (sel 11)))])
noncomputable def b17_0 : Vm.Sem := sBlock 1 (sSeq (sSeq (sRegion [iOp (put 12) (.v false (oEv (sel 6))),
     iOp (put 13) (.v false (oNe (.one 1) (sel 12) ⟨fun _ => .int .i64 0⟩))])
   (sCond (sel 13)
     (sSeq (sRegion [iOp (put 14) (.v false (oEv (sel 6))),
        iOp ⟨fun _ a => a⟩ (.e (eStore 1 (sel 2) ⟨fun _ => .slice none 0 0⟩)),
        iOp ⟨fun _ a => a⟩ (.e (eStore 1 (sel 3) (sel 14)))])
      (sEx .ret))
     (sEx .normal)))
  (sRegion [iOp (put 15) (.v true (oLoad1 (sel 4))),
    iOp (put 16) (.v true (oLoadN 2 (sel 5))),
    iOp (put 17) (.a (aBuildSlice 44 1 (rep 1 [.int .u16 0, .slice none 0 0]) [(0, 2, (sel 16))])),
    iOp (put 18) (.e (eAppend 44 2 32 (sel 15) (sel 17))),
    iOp ⟨fun _ a => a⟩ (.e (eStore 1 (sel 4) (sel 18)))]))
theorem ea17_0 : den0 Try.prog 20 true k17_0.1 = a17_0 := den0_of (by kernel_rfl)
theorem eb17_0 : den0 Try.prog 20 true k17_0.2 = b17_0 := den0_of (by kernel_rfl)
/-- bollard/tlv.Decode -/
noncomputable def c17 : CF := ⟨20, [.one (sel 2), .one (sel 3)],
  sSeq (sRegion [iOp (put 2) (.a (aAlloc 22 [.slice none 0 0])),
    iOp (put 3) (.a (aAlloc 27 [.int .i64 0]))])
  (sSeq (sRegion [iOp (put 4) (.a (aAlloc 22 [.slice none 0 0]))])
   (sSeq (sSeq (sRegion [iOp (put 7) (.v false (oEv (sel 0))),
       iOp (put 8) (.e (eCallF 32 [(sel 7)])),
       iOp (put 9) (.e (eCallF 31 [(sel 8)]))])
     (sBlock 0 (sRangeFunc 20 (sel 9) [10, 11] k17_0.1 k17_0.2)))
    (sSeq (sRegion [iOp (put 19) (.v true (oLoad1 (sel 4))),
       iOp ⟨fun _ a => a⟩ (.e (eStore 1 (sel 2) (sel 19))),
       iOp ⟨fun _ a => a⟩ (.e (eStore 1 (sel 3) ⟨fun _ => .int .i64 0⟩))])
     (sEx .ret))))⟩
theorem d17 : denF Try.prog 17 = some c17 := denF_of (by kernel_rfl)
noncomputable def c18_0 : Vm.Sem := sSeq (sSeq (sRegion [iOp (put 8) (.v false (oEv (sel 0))),
    iOp (put 9) (.v false (oLenS (sel 8))),
    iOp (put 10) (.v false (oInt2 fGtr (sel 9) ⟨fun _ => .int .i64 0⟩))])
  (sCond (sel 10)
    (sEx .normal)
    (sEx (.exit 0))))
 (sBlock 1 (sSeq (sSeq (sRegion [iOp (put 11) (.v false (oEv (sel 4))),
      iOp (put 12) (.v false (oLenS (sel 11))),
      iOp (put 13) (.v false (oEq (.one 1) (sel 12) ⟨fun _ => .int .i64 32⟩))])
    (sCond (sel 13)
      (sSeq (sRegion [iOp (put 2) (.v false (oEv ⟨fun _ => .slice none 0 0⟩)),
         iOp (put 3) (.v false (oEv ⟨fun _ => .int .i64 10⟩))])
       (sEx .ret))
      (sEx .normal)))
   (sSeq (sRegion [iOp (put 15) (.v false (oEv (sel 0))),
      iOp (put 16) (.e (eCallF 33 [(sel 15)])),
      iOp (put 14) (.v false (oEv (sel 16))),
      iOp (put 17) (.v false (oExtract (sel 14) 0)),
      iOp (put 18) (.v false (oExtract (sel 14) 1)),
      iOp (put 19) (.v false (oExtract (sel 14) 2)),
      iOp (put 5) (.a (aAlloc 44 [.int .u16 0, .slice none 0 0])),
      iOp ⟨fun _ a => a⟩ (.e (eStore 2 (sel 5) (sel 17))),
      iOp (put 6) (.v false (oEv (sel 18))),
      iOp (put 7) (.v false (oEv (sel 19)))])
    (sSeq (sSeq (sRegion [iOp (put 20) (.v false (oEv (sel 7))),
        iOp (put 21) (.v false (oNe (.one 1) (sel 20) ⟨fun _ => .int .i64 0⟩))])
      (sCond (sel 21)
        (sSeq (sRegion [iOp (put 22) (.v false (oEv (sel 7))),
           iOp (put 2) (.v false (oEv ⟨fun _ => .slice none 0 0⟩)),
           iOp (put 3) (.v false (oEv (sel 22)))])
         (sEx .ret))
        (sEx .normal)))
     (sSeq (sRegion [iOp (put 23) (.v false (oEv (sel 4))),
        iOp (put 24) (.v true (oLoadN 2 (sel 5))),
        iOp (put 25) (.a (aBuildSlice 44 1 (rep 1 [.int .u16 0, .slice none 0 0]) [(0, 2, (sel 24))])),
        iOp (put 26) (.e (eAppend 44 2 32 (sel 23) (sel 25))),
        iOp (put 4) (.v false (oEv (sel 26)))])
      (sRegion [iOp (put 27) (.v false (oEv (sel 6))),
        iOp (put 0) (.v false (oEv (sel 27)))]))))))
/-- bollard/bollardref06.Decode -/
noncomputable def c18 : CF := ⟨29, [.tmp (sel 2), .tmp (sel 3)],
  sSeq (sRegion [iOp (put 2) (.v false (oEv ⟨fun _ => .slice none 0 0⟩)),
    iOp (put 3) (.v false (oEv ⟨fun _ => .int .i64 0⟩))])
  (sSeq (sRegion [iOp (put 4) (.v false (oEv ⟨fun _ => .slice none 0 0⟩))])
   (sSeq (sBlock 0 (sLoop c18_0))
    (sSeq (sRegion [iOp (put 28) (.v false (oEv (sel 4))),
       iOp (put 2) (.v false (oEv (sel 28))),
       iOp (put 3) (.v false (oEv ⟨fun _ => .int .i64 0⟩))])
     (sEx .ret))))⟩
theorem d18 : denF Try.prog 18 = some c18 := denF_of (by kernel_rfl)
noncomputable def c19_0 : Vm.Sem := sSeq (sSeq (sRegion [iOp (put 11) (.v false (oEv (sel 5))),
    iOp (put 12) (.v false (oEv (sel 0))),
    iOp (put 13) (.v false (oLenS (sel 12))),
    iOp (put 14) (.v false (oInt2 fLss (sel 11) (sel 13)))])
  (sCond (sel 14)
    (sEx .normal)
    (sEx (.exit 0))))
 (sSeq (sBlock 1 (sSeq (sRegion [iOp (put 17) (.v false (oEv (sel 0))),
      iOp (put 18) (.v false (oEv (sel 5))),
      iOp (put 19) (.v false (oIndexAddrS 2 (sel 17) (sel 18))),
      iOp (put 20) (.v false (oFieldAddr 0 (sel 19))),
      iOp (put 21) (.v true (oLoad1 (sel 20))),
      iOp (put 22) (.v false (oEv (sel 1))),
      iOp (put 23) (.v false (oEv (sel 5))),
      iOp (put 24) (.v false (oIndexAddrS 2 (sel 22) (sel 23))),
      iOp (put 25) (.v false (oFieldAddr 0 (sel 24))),
      iOp (put 26) (.v true (oLoad1 (sel 25))),
      iOp (put 27) (.v false (oNe (.one 1) (sel 21) (sel 26))),
      iOp (put 28) (.v false (oEv (sel 27))),
      iGuard (sel 28) false (put 29) (iOp (put 29) (.v false (oEv (sel 0)))),
      iGuard (sel 28) false (put 30) (iOp (put 30) (.v false (oEv (sel 5)))),
      iGuard (sel 28) false (put 31) (iOp (put 31) (.v false (oIndexAddrS 2 (sel 29) (sel 30)))),
      iGuard (sel 28) false (put 32) (iOp (put 32) (.v false (oFieldAddr 1 (sel 31)))),
      iGuard (sel 28) false (put 33) (iOp (put 33) (.v true (oLoad1 (sel 32)))),
      iGuard (sel 28) false (put 34) (iOp (put 34) (.v true (oToString (sel 33)))),
      iGuard (sel 28) false (put 35) (iOp (put 35) (.v false (oEv (sel 1)))),
      iGuard (sel 28) false (put 36) (iOp (put 36) (.v false (oEv (sel 5)))),
      iGuard (sel 28) false (put 37) (iOp (put 37) (.v false (oIndexAddrS 2 (sel 35) (sel 36)))),
      iGuard (sel 28) false (put 38) (iOp (put 38) (.v false (oFieldAddr 1 (sel 37)))),
      iGuard (sel 28) false (put 39) (iOp (put 39) (.v true (oLoad1 (sel 38)))),
      iGuard (sel 28) false (put 40) (iOp (put 40) (.v true (oToString (sel 39)))),
      iGuard (sel 28) false (put 41) (iOp (put 41) (.v false (oNe (.one 2) (sel 34) (sel 40)))),
      iOp (put 42) (.v false (oPick (sel 28) ⟨fun _ => .bool true⟩ (sel 41)))])
    (sCond (sel 42)
      (sSeq (sRegion [iOp (put 4) (.v false (oEv ⟨fun _ => .bool false⟩))])
       (sEx .ret))
      (sEx .normal))))
  (sRegion [iOp (put 15) (.v false (oEv (sel 5))),
    iOp (put 16) (.v false (oInt2 fAdd (sel 15) ⟨fun _ => .int .i64 1⟩)),
    iOp (put 5) (.v false (oEv (sel 16)))]))
/-- bollard/bollardref06.Same -/
noncomputable def c19 : CF := ⟨43, [.tmp (sel 4)],
  sSeq (sRegion [iOp (put 4) (.v false (oEv ⟨fun _ => .bool false⟩))])
  (sSeq (sSeq (sRegion [iOp (put 6) (.v false (oEv (sel 0))),
      iOp (put 7) (.v false (oLenS (sel 6))),
      iOp (put 8) (.v false (oEv (sel 1))),
      iOp (put 9) (.v false (oLenS (sel 8))),
      iOp (put 10) (.v false (oNe (.one 1) (sel 7) (sel 9)))])
    (sCond (sel 10)
      (sSeq (sRegion [iOp (put 4) (.v false (oEv ⟨fun _ => .bool false⟩))])
       (sEx .ret))
      (sEx .normal)))
   (sSeq (sSeq (sRegion [iOp (put 5) (.v false (oEv ⟨fun _ => .int .i64 0⟩))])
     (sBlock 0 (sLoop c19_0)))
    (sSeq (sRegion [iOp (put 4) (.v false (oEv ⟨fun _ => .bool true⟩))])
     (sEx .ret))))⟩
theorem d19 : denF Try.prog 19 = some c19 := denF_of (by kernel_rfl)
/-- bollard/tlv.Action -/
noncomputable def c20 : CF := ⟨10, [.tmp (sel 2), .tmp (sel 3)],
  sSeq (sRegion [iOp (put 2) (.v false (oEv ⟨fun _ => .bool false⟩)),
    iOp (put 3) (.v false (oEv ⟨fun _ => .bool false⟩))])
  (sSeq (sRegion [iOp (put 4) (.v false (oEv (sel 0))),
     iOp (put 5) (.v false (oInt2 fAnd (sel 4) ⟨fun _ => .int .u16 32768⟩)),
     iOp (put 6) (.v false (oEq (.one 1) (sel 5) ⟨fun _ => .int .u16 0⟩)),
     iOp (put 7) (.v false (oEv (sel 0))),
     iOp (put 8) (.v false (oInt2 fAnd (sel 7) ⟨fun _ => .int .u16 16384⟩)),
     iOp (put 9) (.v false (oNe (.one 1) (sel 8) ⟨fun _ => .int .u16 0⟩)),
     iOp (put 2) (.v false (oEv (sel 6))),
     iOp (put 3) (.v false (oEv (sel 9)))])
   (sEx .ret))⟩
theorem d20 : denF Try.prog 20 = some c20 := denF_of (by kernel_rfl)
/-- bollard/bollardref06.Action -/
noncomputable def c21 : CF := ⟨24, [.tmp (sel 4), .tmp (sel 5)],
  sSeq (sRegion [iOp (put 4) (.v false (oEv ⟨fun _ => .bool false⟩)),
    iOp (put 5) (.v false (oEv ⟨fun _ => .bool false⟩))])
  (sSeq (sRegion [iOp (put 7) (.v false (oEv (sel 0))),
     iOp (put 8) (.v false (oEv (sel 1))),
     iOp (put 9) (.v false (oInt2 fSub (sel 8) ⟨fun _ => .int .i64 2⟩)),
     iOp (put 10) (.v false (oConvInt .u64 (sel 9))),
     iOp (put 11) (.v false (oSh fShr (sel 7) (sel 10))),
     iOp (put 6) (.v false (oEv (sel 11)))])
   (sSeq (sRegion [iOp (put 12) (.v false (oEv (sel 6))),
      iOp (put 13) (.v false (oEq (.one 1) (sel 12) ⟨fun _ => .int .i64 0⟩)),
      iOp (put 14) (.v false (oEv (sel 13))),
      iGuard (sel 14) false (put 15) (iOp (put 15) (.v false (oEv (sel 6)))),
      iGuard (sel 14) false (put 16) (iOp (put 16) (.v false (oEq (.one 1) (sel 15) ⟨fun _ => .int .i64 1⟩))),
      iOp (put 17) (.v false (oPick (sel 14) ⟨fun _ => .bool true⟩ (sel 16))),
      iOp (put 18) (.v false (oEv (sel 6))),
      iOp (put 19) (.v false (oEq (.one 1) (sel 18) ⟨fun _ => .int .i64 1⟩)),
      iOp (put 20) (.v false (oEv (sel 19))),
      iGuard (sel 20) false (put 21) (iOp (put 21) (.v false (oEv (sel 6)))),
      iGuard (sel 20) false (put 22) (iOp (put 22) (.v false (oEq (.one 1) (sel 21) ⟨fun _ => .int .i64 3⟩))),
      iOp (put 23) (.v false (oPick (sel 20) ⟨fun _ => .bool true⟩ (sel 22))),
      iOp (put 4) (.v false (oEv (sel 17))),
      iOp (put 5) (.v false (oEv (sel 23)))])
    (sEx .ret)))⟩
theorem d21 : denF Try.prog 21 = some c21 := denF_of (by kernel_rfl)
/-- bollard/tlv.ChunkAction -/
noncomputable def c22 : CF := ⟨10, [.tmp (sel 2), .tmp (sel 3)],
  sSeq (sRegion [iOp (put 2) (.v false (oEv ⟨fun _ => .bool false⟩)),
    iOp (put 3) (.v false (oEv ⟨fun _ => .bool false⟩))])
  (sSeq (sRegion [iOp (put 4) (.v false (oEv (sel 0))),
     iOp (put 5) (.v false (oInt2 fAnd (sel 4) ⟨fun _ => .int .u8 128⟩)),
     iOp (put 6) (.v false (oEq (.one 1) (sel 5) ⟨fun _ => .int .u8 0⟩)),
     iOp (put 7) (.v false (oEv (sel 0))),
     iOp (put 8) (.v false (oInt2 fAnd (sel 7) ⟨fun _ => .int .u8 64⟩)),
     iOp (put 9) (.v false (oNe (.one 1) (sel 8) ⟨fun _ => .int .u8 0⟩)),
     iOp (put 2) (.v false (oEv (sel 6))),
     iOp (put 3) (.v false (oEv (sel 9)))])
   (sEx .ret))⟩
theorem d22 : denF Try.prog 22 = some c22 := denF_of (by kernel_rfl)
/-- slices.ContainsFunc[[]bollard/api.Param,bollard/api.Param] -/
noncomputable def c23 : CF := ⟨9, [.tmp (sel 4)],
  sSeq (sRegion [iOp (put 4) (.v false (oEv ⟨fun _ => .bool false⟩))])
  (sSeq (sRegion [iOp (put 5) (.v false (oEv (sel 0))),
     iOp (put 6) (.v false (oEv (sel 1))),
     iOp (put 7) (.e (eCallF 29 [(sel 5), (sel 6)])),
     iOp (put 8) (.v false (oInt2 fGeq (sel 7) ⟨fun _ => .int .i64 0⟩)),
     iOp (put 4) (.v false (oEv (sel 8)))])
   (sEx .ret))⟩
theorem d23 : denF Try.prog 23 = some c23 := denF_of (by kernel_rfl)
/-- bollard/tlv.Encode$1 -/
noncomputable def c24 : CF := ⟨7, [.tmp (sel 2)],
  sSeq (sRegion [iOp (put 1) (.a (aBox 44 (sel 0))),
    iOp (put 2) (.v false (oEv ⟨fun _ => .bool false⟩))])
  (sSeq (sRegion [iOp (put 3) (.v false (oFieldAddr 1 (sel 1))),
     iOp (put 4) (.v true (oLoad1 (sel 3))),
     iOp (put 5) (.v false (oLenS (sel 4))),
     iOp (put 6) (.v false (oInt2 fGtr (sel 5) ⟨fun _ => .int .i64 1200⟩)),
     iOp (put 2) (.v false (oEv (sel 6)))])
   (sEx .ret))⟩
theorem d24 : denF Try.prog 24 = some c24 := denF_of (by kernel_rfl)
/-- bollard/octet.Put16 -/
noncomputable def c25 : CF := ⟨13, [.tmp (sel 4)],
  sSeq (sRegion [iOp (put 4) (.v false (oEv ⟨fun _ => .slice none 0 0⟩))])
  (sSeq (sRegion [iOp (put 5) (.v false (oEv (sel 0))),
     iOp (put 6) (.v false (oEv (sel 1))),
     iOp (put 7) (.v false (oSh fShr (sel 6) ⟨fun _ => .int .u64 8⟩)),
     iOp (put 8) (.v false (oConvInt .u8 (sel 7))),
     iOp (put 9) (.v false (oEv (sel 1))),
     iOp (put 10) (.v false (oConvInt .u8 (sel 9))),
     iOp (put 11) (.a (aBuildSlice 5 2 (rep 2 [.int .u8 0]) [(0, 1, (sel 8)), (1, 1, (sel 10))])),
     iOp (put 12) (.e (eCallF 34 [(sel 5), (sel 11)])),
     iOp (put 4) (.v false (oEv (sel 12)))])
   (sEx .ret))⟩
theorem d25 : denF Try.prog 25 = some c25 := denF_of (by kernel_rfl)
/-- bollard/octet.Pad -/
noncomputable def c26 : CF := ⟨9, [.tmp (sel 2)],
  sSeq (sRegion [iOp (put 2) (.v false (oEv ⟨fun _ => .slice none 0 0⟩))])
  (sSeq (sRegion [iOp (put 3) (.v false (oEv (sel 0))),
     iOp (put 4) (.v false (oEv (sel 0))),
     iOp (put 5) (.v false (oLenS (sel 4))),
     iOp (put 6) (.e (eCallF 35 [(sel 5)])),
     iOp (put 7) (.a (aMakeSlice 5 1 [.int .u8 0] (sel 6) (sel 6))),
     iOp (put 8) (.e (eCallF 34 [(sel 3), (sel 7)])),
     iOp (put 2) (.v false (oEv (sel 8)))])
   (sEx .ret))⟩
theorem d26 : denF Try.prog 26 = some c26 := denF_of (by kernel_rfl)
noncomputable def c27_0 : Vm.Sem := sSeq (sSeq (sRegion [iOp (put 14) (.v false (oEv (sel 8))),
    iOp (put 15) (.v false (oInt2 fGeq (sel 14) ⟨fun _ => .int .i64 0⟩))])
  (sCond (sel 15)
    (sEx .normal)
    (sEx (.exit 0))))
 (sSeq (sBlock 1 (sRegion [iOp (put 18) (.v false (oEv (sel 7))),
     iOp (put 19) (.v false (oEv (sel 1))),
     iOp (put 20) (.v false (oEv (sel 8))),
     iOp (put 21) (.v false (oInt2 fMul ⟨fun _ => .int .i64 8⟩ (sel 20))),
     iOp (put 22) (.v false (oConvInt .u64 (sel 21))),
     iOp (put 23) (.v false (oSh fShr (sel 19) (sel 22))),
     iOp (put 24) (.v false (oConvInt .u8 (sel 23))),
     iOp (put 25) (.a (aBuildSlice 5 1 (rep 1 [.int .u8 0]) [(0, 1, (sel 24))])),
     iOp (put 26) (.e (eAppend 5 1 1 (sel 18) (sel 25))),
     iOp (put 7) (.v false (oEv (sel 26)))]))
  (sRegion [iOp (put 16) (.v false (oEv (sel 8))),
    iOp (put 17) (.v false (oInt2 fSub (sel 16) ⟨fun _ => .int .i64 1⟩)),
    iOp (put 8) (.v false (oEv (sel 17)))]))
/-- bollard/bollardref01.Put -/
noncomputable def c27 : CF := ⟨28, [.tmp (sel 6)],
  sSeq (sRegion [iOp (put 6) (.v false (oEv ⟨fun _ => .slice none 0 0⟩))])
  (sSeq (sRegion [iOp (put 7) (.v false (oEv ⟨fun _ => .slice none 0 0⟩))])
   (sSeq (sRegion [iOp (put 9) (.v false (oEv (sel 7))),
      iOp (put 10) (.v false (oEv (sel 0))),
      iOp (put 11) (.e (eAppend 5 1 1 (sel 9) (sel 10))),
      iOp (put 7) (.v false (oEv (sel 11)))])
    (sSeq (sSeq (sRegion [iOp (put 12) (.v false (oEv (sel 2))),
        iOp (put 13) (.v false (oInt2 fSub (sel 12) ⟨fun _ => .int .i64 1⟩)),
        iOp (put 8) (.v false (oEv (sel 13)))])
      (sBlock 0 (sLoop c27_0)))
     (sSeq (sRegion [iOp (put 27) (.v false (oEv (sel 7))),
        iOp (put 6) (.v false (oEv (sel 27)))])
      (sEx .ret)))))⟩
theorem d27 : denF Try.prog 27 = some c27 := denF_of (by kernel_rfl)
noncomputable def c28_0 : Vm.Sem := sSeq (sSeq (sRegion [iOp (put 7) (.v false (oEv (sel 3))),
    iOp (put 8) (.v false (oLenS (sel 7))),
    iOp (put 9) (.v false (oInt2 fRem (sel 8) ⟨fun _ => .int .i64 4⟩)),
    iOp (put 10) (.v false (oNe (.one 1) (sel 9) ⟨fun _ => .int .i64 0⟩))])
  (sCond (sel 10)
    (sEx .normal)
    (sEx (.exit 0))))
 (sBlock 1 (sRegion [iOp (put 11) (.v false (oEv (sel 3))),
    iOp (put 12) (.a (aBuildSlice 5 1 (rep 1 [.int .u8 0]) [(0, 1, ⟨fun _ => .int .u8 0⟩)])),
    iOp (put 13) (.e (eAppend 5 1 1 (sel 11) (sel 12))),
    iOp (put 3) (.v false (oEv (sel 13)))]))
/-- bollard/bollardref01.Pad -/
noncomputable def c28 : CF := ⟨15, [.tmp (sel 2)],
  sSeq (sRegion [iOp (put 2) (.v false (oEv ⟨fun _ => .slice none 0 0⟩))])
  (sSeq (sRegion [iOp (put 3) (.v false (oEv ⟨fun _ => .slice none 0 0⟩))])
   (sSeq (sRegion [iOp (put 4) (.v false (oEv (sel 3))),
      iOp (put 5) (.v false (oEv (sel 0))),
      iOp (put 6) (.e (eAppend 5 1 1 (sel 4) (sel 5))),
      iOp (put 3) (.v false (oEv (sel 6)))])
    (sSeq (sBlock 0 (sLoop c28_0))
     (sSeq (sRegion [iOp (put 14) (.v false (oEv (sel 3))),
        iOp (put 2) (.v false (oEv (sel 14)))])
      (sEx .ret)))))⟩
theorem d28 : denF Try.prog 28 = some c28 := denF_of (by kernel_rfl)
noncomputable def c29_0 : Vm.Sem := sSeq (sRegion [iOp (put 9) (.v false (oInt2 fLss (sel 8) (sel 7)))])
 (sSeq (sCond (sel 9)
    (sEx .normal)
    (sEx (.exit 0)))
  (sSeq (sBlock 1 (sSeq (sRegion [iOp (put 10) (.v false (oEv (sel 8))),
       iOp (put 5) (.v false (oEv (sel 10)))])
     (sSeq (sRegion [iOp (put 11) (.v false (oEv (sel 1))),
        iOp (put 12) (.v false (oEv (sel 0))),
        iOp (put 13) (.v false (oEv (sel 5))),
        iOp (put 14) (.v false (oIndexAddrS 2 (sel 12) (sel 13))),
        iOp (put 15) (.v true (oLoadN 2 (sel 14))),
        iOp (put 16) (.e (eCall (sel 11) [(sel 15)]))])
      (sCond (sel 16)
        (sSeq (sRegion [iOp (put 17) (.v false (oEv (sel 5))),
           iOp (put 4) (.v false (oEv (sel 17)))])
         (sEx .ret))
        (sEx .normal)))))
   (sRegion [iOp (put 18) (.v false (oInt2 fAdd (sel 8) ⟨fun _ => .int .i64 1⟩)),
     iOp (put 8) (.v false (oEv (sel 18)))])))
/-- slices.IndexFunc[[]bollard/api.Param,bollard/api.Param] -/
noncomputable def c29 : CF := ⟨19, [.tmp (sel 4)],
  sSeq (sRegion [iOp (put 4) (.v false (oEv ⟨fun _ => .int .i64 0⟩))])
  (sSeq (sSeq (sRegion [iOp (put 6) (.v false (oEv (sel 0))),
      iOp (put 7) (.v false (oLenS (sel 6))),
      iOp (put 8) (.v false (oEv ⟨fun _ => .int .i64 0⟩))])
    (sBlock 0 (sLoop c29_0)))
   (sSeq (sRegion [iOp (put 4) (.v false (oEv ⟨fun _ => .int .i64 (-1)⟩))])
    (sEx .ret)))⟩
theorem d29 : denF Try.prog 29 = some c29 := denF_of (by kernel_rfl)
/-- bollard/tlv.Find$1 -/
noncomputable def c30 : CF := ⟨8, [.tmp (sel 3)],
  sSeq (sRegion [iOp (put 2) (.a (aBox 44 (sel 0))),
    iOp (put 3) (.v false (oEv ⟨fun _ => .bool false⟩))])
  (sSeq (sRegion [iOp (put 4) (.v false (oFieldAddr 0 (sel 2))),
     iOp (put 5) (.v true (oLoad1 (sel 4))),
     iOp (put 6) (.v true (oLoad1 (sel 1))),
     iOp (put 7) (.v false (oEq (.one 1) (sel 5) (sel 6))),
     iOp (put 3) (.v false (oEv (sel 7)))])
   (sEx .ret))⟩
theorem d30 : denF Try.prog 30 = some c30 := denF_of (by kernel_rfl)
/-- bollard/tlv.all -/
noncomputable def c31 : CF := ⟨4, [.tmp (sel 2)],
  sSeq (sRegion [iOp (put 1) (.a (aBox 55 (sel 0))),
    iOp (put 2) (.v false (oEv ⟨fun _ => .nilFunc⟩))])
  (sSeq (sRegion [iOp (put 3) (.v false (oFunc (.func 36) [] [(sel 1)])),
     iOp (put 2) (.v false (oEv (sel 3)))])
   (sEx .ret))⟩
theorem d31 : denF Try.prog 31 = some c31 := denF_of (by kernel_rfl)
/-- bollard/octet.New -/
noncomputable def c32 : CF := ⟨7, [.tmp (sel 2)],
  sSeq (sRegion [iOp (put 2) (.v false (oEv ⟨fun _ => .pointer none⟩))])
  (sSeq (sRegion [iOp (put 3) (.v false (oEv (sel 0))),
     iOp (put 4) (.e (eCallF 39 [(sel 3)])),
     iOp (put 5) (.v false (oBuild [.slice none 0 0] [(0, 1, (sel 4))])),
     iOp (put 6) (.a (aBox 67 (sel 5))),
     iOp (put 2) (.v false (oEv (sel 6)))])
   (sEx .ret))⟩
theorem d32 : denF Try.prog 32 = some c32 := denF_of (by kernel_rfl)
/-- bollard/bollardref06.one -/
noncomputable def c33 : CF := ⟨61, [.agg (sel 2) 2, .tmp (sel 3), .tmp (sel 4)],
  sSeq (sRegion [iOp (put 2) (.a (aAlloc 44 [.int .u16 0, .slice none 0 0])),
    iOp (put 3) (.v false (oEv ⟨fun _ => .slice none 0 0⟩)),
    iOp (put 4) (.v false (oEv ⟨fun _ => .int .i64 0⟩))])
  (sSeq (sRegion [iOp (put 10) (.v false (oEv (sel 0))),
     iOp (put 11) (.e (eCallF 40 [(sel 10), ⟨fun _ => .int .i64 2⟩])),
     iOp (put 9) (.v false (oEv (sel 11))),
     iOp (put 12) (.v false (oExtract (sel 9) 0)),
     iOp (put 13) (.v false (oExtract (sel 9) 1)),
     iOp (put 14) (.v false (oExtract (sel 9) 2)),
     iOp (put 5) (.v false (oEv (sel 12))),
     iOp (put 0) (.v false (oEv (sel 13))),
     iOp (put 6) (.v false (oEv (sel 14)))])
   (sSeq (sSeq (sRegion [iOp (put 15) (.v false (oEv (sel 6))),
       iOp (put 16) (.v false (oNe (.one 1) (sel 15) ⟨fun _ => .int .i64 0⟩))])
     (sCond (sel 16)
       (sSeq (sRegion [iOp (put 17) (.v false (oBuild [.int .u16 0, .slice none 0 0] [])),
          iOp (put 18) (.v false (oEv (sel 6))),
          iOp ⟨fun _ a => a⟩ (.e (eStore 2 (sel 2) (sel 17))),
          iOp (put 3) (.v false (oEv ⟨fun _ => .slice none 0 0⟩)),
          iOp (put 4) (.v false (oEv (sel 18)))])
        (sEx .ret))
       (sEx .normal)))
    (sSeq (sRegion [iOp (put 20) (.v false (oEv (sel 0))),
       iOp (put 21) (.e (eCallF 40 [(sel 20), ⟨fun _ => .int .i64 2⟩])),
       iOp (put 19) (.v false (oEv (sel 21))),
       iOp (put 22) (.v false (oExtract (sel 19) 0)),
       iOp (put 23) (.v false (oExtract (sel 19) 1)),
       iOp (put 24) (.v false (oExtract (sel 19) 2)),
       iOp (put 7) (.v false (oEv (sel 22))),
       iOp (put 0) (.v false (oEv (sel 23))),
       iOp (put 6) (.v false (oEv (sel 24)))])
     (sSeq (sSeq (sRegion [iOp (put 25) (.v false (oEv (sel 6))),
         iOp (put 26) (.v false (oNe (.one 1) (sel 25) ⟨fun _ => .int .i64 0⟩))])
       (sCond (sel 26)
         (sSeq (sRegion [iOp (put 27) (.v false (oBuild [.int .u16 0, .slice none 0 0] [])),
            iOp (put 28) (.v false (oEv (sel 6))),
            iOp ⟨fun _ a => a⟩ (.e (eStore 2 (sel 2) (sel 27))),
            iOp (put 3) (.v false (oEv ⟨fun _ => .slice none 0 0⟩)),
            iOp (put 4) (.v false (oEv (sel 28)))])
          (sEx .ret))
         (sEx .normal)))
      (sSeq (sSeq (sRegion [iOp (put 29) (.v false (oEv (sel 7))),
          iOp (put 30) (.v false (oInt2 fLss (sel 29) ⟨fun _ => .int .u32 4⟩))])
        (sCond (sel 30)
          (sSeq (sRegion [iOp (put 31) (.v false (oBuild [.int .u16 0, .slice none 0 0] [])),
             iOp ⟨fun _ a => a⟩ (.e (eStore 2 (sel 2) (sel 31))),
             iOp (put 3) (.v false (oEv ⟨fun _ => .slice none 0 0⟩)),
             iOp (put 4) (.v false (oEv ⟨fun _ => .int .i64 3⟩))])
           (sEx .ret))
          (sEx .normal)))
       (sSeq (sSeq (sRegion [iOp (put 32) (.v false (oEv (sel 7))),
           iOp (put 33) (.v false (oInt2 fGtr (sel 32) ⟨fun _ => .int .u32 1204⟩))])
         (sCond (sel 33)
           (sSeq (sRegion [iOp (put 34) (.v false (oBuild [.int .u16 0, .slice none 0 0] [])),
              iOp ⟨fun _ a => a⟩ (.e (eStore 2 (sel 2) (sel 34))),
              iOp (put 3) (.v false (oEv ⟨fun _ => .slice none 0 0⟩)),
              iOp (put 4) (.v false (oEv ⟨fun _ => .int .i64 10⟩))])
            (sEx .ret))
           (sEx .normal)))
        (sSeq (sRegion [iOp (put 36) (.v false (oEv (sel 0))),
           iOp (put 37) (.v false (oEv (sel 7))),
           iOp (put 38) (.v false (oConvInt .i64 (sel 37))),
           iOp (put 39) (.v false (oInt2 fSub (sel 38) ⟨fun _ => .int .i64 4⟩)),
           iOp (put 40) (.e (eCallF 41 [(sel 36), (sel 39)])),
           iOp (put 35) (.v false (oEv (sel 40))),
           iOp (put 41) (.v false (oExtract (sel 35) 0)),
           iOp (put 42) (.v false (oExtract (sel 35) 1)),
           iOp (put 43) (.v false (oExtract (sel 35) 2)),
           iOp (put 8) (.v false (oEv (sel 41))),
           iOp (put 0) (.v false (oEv (sel 42))),
           iOp (put 6) (.v false (oEv (sel 43)))])
         (sSeq (sSeq (sRegion [iOp (put 44) (.v false (oEv (sel 6))),
             iOp (put 45) (.v false (oNe (.one 1) (sel 44) ⟨fun _ => .int .i64 0⟩))])
           (sCond (sel 45)
             (sSeq (sRegion [iOp (put 46) (.v false (oBuild [.int .u16 0, .slice none 0 0] [])),
                iOp (put 47) (.v false (oEv (sel 6))),
                iOp ⟨fun _ a => a⟩ (.e (eStore 2 (sel 2) (sel 46))),
                iOp (put 3) (.v false (oEv ⟨fun _ => .slice none 0 0⟩)),
                iOp (put 4) (.v false (oEv (sel 47)))])
              (sEx .ret))
             (sEx .normal)))
          (sSeq (sRegion [iOp (put 49) (.v false (oEv (sel 0))),
             iOp (put 50) (.v false (oEv (sel 7))),
             iOp (put 51) (.v false (oConvInt .i64 (sel 50))),
             iOp (put 52) (.e (eCallF 42 [(sel 49), (sel 51)])),
             iOp (put 48) (.v false (oEv (sel 52))),
             iOp (put 53) (.v false (oExtract (sel 48) 0)),
             iOp (put 54) (.v false (oExtract (sel 48) 1)),
             iOp (put 0) (.v false (oEv (sel 53))),
             iOp (put 6) (.v false (oEv (sel 54)))])
           (sSeq (sRegion [iOp (put 55) (.v false (oEv (sel 5))),
              iOp (put 56) (.v false (oConvInt .u16 (sel 55))),
              iOp (put 57) (.v false (oEv (sel 8))),
              iOp (put 58) (.v false (oBuild [.int .u16 0, .slice none 0 0] [(0, 1, (sel 56)), (1, 1, (sel 57))])),
              iOp (put 59) (.v false (oEv (sel 0))),
              iOp (put 60) (.v false (oEv (sel 6))),
              iOp ⟨fun _ a => a⟩ (.e (eStore 2 (sel 2) (sel 58))),
              iOp (put 3) (.v false (oEv (sel 59))),
              iOp (put 4) (.v false (oEv (sel 60)))])
            (sEx .ret)))))))))))⟩
theorem d33 : denF Try.prog 33 = some c33 := denF_of (by kernel_rfl)
/-- bollard/octet.with -/
noncomputable def c34 : CF := ⟨20, [.tmp (sel 4)],
  sSeq (sRegion [iOp (put 4) (.v false (oEv ⟨fun _ => .slice none 0 0⟩))])
  (sSeq (sRegion [iOp (put 6) (.v false (oEv (sel 0))),
     iOp (put 7) (.v false (oLenS (sel 6))),
     iOp (put 8) (.v false (oEv (sel 0))),
     iOp (put 9) (.v false (oLenS (sel 8))),
     iOp (put 10) (.v false (oEv (sel 1))),
     iOp (put 11) (.v false (oLenS (sel 10))),
     iOp (put 12) (.v false (oInt2 fAdd (sel 9) (sel 11))),
     iOp (put 13) (.a (aMakeSlice 5 1 [.int .u8 0] (sel 7) (sel 12))),
     iOp (put 5) (.v false (oEv (sel 13)))])
   (sSeq (sRegion [iOp (put 14) (.v false (oEv (sel 5))),
      iOp (put 15) (.v false (oEv (sel 0))),
      iOp (put 16) (.e (eCopy 1 (sel 14) (sel 15)))])
    (sSeq (sRegion [iOp (put 17) (.v false (oEv (sel 5))),
       iOp (put 18) (.v false (oEv (sel 1))),
       iOp (put 19) (.e (eAppend 5 1 1 (sel 17) (sel 18))),
       iOp (put 4) (.v false (oEv (sel 19)))])
     (sEx .ret))))⟩
theorem d34 : denF Try.prog 34 = some c34 := denF_of (by kernel_rfl)
/-- bollard/octet.gap -/
noncomputable def c35 : CF := ⟨6, [.tmp (sel 2)],
  sSeq (sRegion [iOp (put 2) (.v false (oEv ⟨fun _ => .int .i64 0⟩))])
  (sSeq (sRegion [iOp (put 3) (.v false (oEv (sel 0))),
     iOp (put 4) (.v false (oNeg (sel 3))),
     iOp (put 5) (.v false (oInt2 fAnd (sel 4) ⟨fun _ => .int .i64 3⟩)),
     iOp (put 2) (.v false (oEv (sel 5)))])
   (sEx .ret))⟩
theorem d35 : denF Try.prog 35 = some c35 := denF_of (by kernel_rfl)
noncomputable def c36_0 : Vm.Sem := sSeq (sSeq (sRegion [iOp (put 4) (.v true (oLoad1 (sel 1))),
    iOp (put 5) (.e (eCallF 37 [(sel 4)])),
    iOp (put 6) (.v false (oInt2 fGtr (sel 5) ⟨fun _ => .int .i64 0⟩))])
  (sCond (sel 6)
    (sEx .normal)
    (sEx (.exit 0))))
 (sSeq (sBlock 1 (sSeq (sSeq (sRegion [iOp (put 9) (.v false (oEv (sel 3))),
       iOp (put 10) (.v false (oEq (.one 1) (sel 9) ⟨fun _ => .int .i64 32⟩))])
     (sCond (sel 10)
       (sSeq (sRegion [iOp (put 11) (.v false (oEv (sel 0))),
          iOp (put 12) (.v false (oBuild [.int .u16 0, .slice none 0 0] [])),
          iOp (put 13) (.e (eCall (sel 11) [(sel 12), ⟨fun _ => .int .i64 10⟩]))])
        (sEx .ret))
       (sEx .normal)))
    (sSeq (sRegion [iOp (put 14) (.v false (oEv (sel 0))),
       iOp (put 15) (.v true (oLoad1 (sel 1))),
       iOp (put 16) (.e (eCallF 38 [(sel 15)])),
       iOp (put 17) (.v false (oExtract (sel 16) 0)),
       iOp (put 18) (.v false (oExtract (sel 16) 1)),
       iOp (put 19) (.e (eCall (sel 14) [(sel 17), (sel 18)])),
       iOp (put 20) (.v false (oNot (sel 19)))])
     (sCond (sel 20)
       (sEx .ret)
       (sEx .normal)))))
  (sRegion [iOp (put 7) (.v false (oEv (sel 3))),
    iOp (put 8) (.v false (oInt2 fAdd (sel 7) ⟨fun _ => .int .i64 1⟩)),
    iOp (put 3) (.v false (oEv (sel 8)))]))
/-- bollard/tlv.all$1 -/
noncomputable def c36 : CF := ⟨21, [],
  sSeq (sRegion [iOp (put 3) (.v false (oEv ⟨fun _ => .int .i64 0⟩))])
  (sBlock 0 (sLoop c36_0))⟩
theorem d36 : denF Try.prog 36 = some c36 := denF_of (by kernel_rfl)
/-- (*bollard/octet.Reader).Left -/
noncomputable def c37 : CF := ⟨10, [.tmp (sel 2)],
  sSeq (sRegion [iOp (put 2) (.v false (oEv ⟨fun _ => .int .i64 0⟩))])
  (sSeq (sSeq (sRegion [iOp (put 3) (.v false (oEv (sel 0))),
      iOp (put 4) (.v false (oEq (.one 3) (sel 3) ⟨fun _ => .pointer none⟩))])
    (sCond (sel 4)
      (sSeq (sRegion [iOp (put 2) (.v false (oEv ⟨fun _ => .int .i64 0⟩))])
       (sEx .ret))
      (sEx .normal)))
   (sSeq (sRegion [iOp (put 5) (.v false (oEv (sel 0))),
      iOp (put 6) (.v false (oNilCheck (sel 5))),
      iOp (put 7) (.v false (oFieldAddr 0 (sel 6))),
      iOp (put 8) (.v true (oLoad1 (sel 7))),
      iOp (put 9) (.v false (oLenS (sel 8))),
      iOp (put 2) (.v false (oEv (sel 9)))])
    (sEx .ret)))⟩
theorem d37 : denF Try.prog 37 = some c37 := denF_of (by kernel_rfl)
/-- bollard/tlv.one -/
noncomputable def c38 : CF := ⟨37, [.agg (sel 2) 2, .tmp (sel 3)],
  sSeq (sRegion [iOp (put 2) (.a (aAlloc 44 [.int .u16 0, .slice none 0 0])),
    iOp (put 3) (.v false (oEv ⟨fun _ => .int .i64 0⟩))])
  (sSeq (sRegion [iOp (put 9) (.v false (oEv (sel 0))),
     iOp (put 10) (.e (eCallF 43 [(sel 9)])),
     iOp (put 8) (.v false (oEv (sel 10))),
     iOp (put 11) (.v false (oExtract (sel 8) 0)),
     iOp (put 12) (.v false (oExtract (sel 8) 1)),
     iOp (put 4) (.v false (oEv (sel 11))),
     iOp (put 5) (.v false (oEv (sel 12)))])
   (sSeq (sSeq (sRegion [iOp (put 13) (.v false (oEv (sel 5))),
       iOp (put 14) (.v false (oNe (.one 1) (sel 13) ⟨fun _ => .int .i64 0⟩))])
     (sCond (sel 14)
       (sSeq (sRegion [iOp (put 15) (.v false (oBuild [.int .u16 0, .slice none 0 0] [])),
          iOp (put 16) (.v false (oEv (sel 5))),
          iOp ⟨fun _ a => a⟩ (.e (eStore 2 (sel 2) (sel 15))),
          iOp (put 3) (.v false (oEv (sel 16)))])
        (sEx .ret))
       (sEx .normal)))
    (sSeq (sRegion [iOp (put 18) (.v false (oEv (sel 0))),
       iOp (put 19) (.e (eCallF 43 [(sel 18)])),
       iOp (put 17) (.v false (oEv (sel 19))),
       iOp (put 20) (.v false (oExtract (sel 17) 0)),
       iOp (put 21) (.v false (oExtract (sel 17) 1)),
       iOp (put 6) (.v false (oEv (sel 20))),
       iOp (put 5) (.v false (oEv (sel 21)))])
     (sSeq (sSeq (sRegion [iOp (put 22) (.v false (oEv (sel 5))),
         iOp (put 23) (.v false (oNe (.one 1) (sel 22) ⟨fun _ => .int .i64 0⟩))])
       (sCond (sel 23)
         (sSeq (sRegion [iOp (put 24) (.v false (oBuild [.int .u16 0, .slice none 0 0] [])),
            iOp (put 25) (.v false (oEv (sel 5))),
            iOp ⟨fun _ a => a⟩ (.e (eStore 2 (sel 2) (sel 24))),
            iOp (put 3) (.v false (oEv (sel 25)))])
          (sEx .ret))
         (sEx .normal)))
      (sSeq (sRegion [iOp (put 27) (.v false (oEv (sel 0))),
         iOp (put 28) (.v false (oEv (sel 6))),
         iOp (put 29) (.v false (oConvInt .i64 (sel 28))),
         iOp (put 30) (.e (eCallF 44 [(sel 27), (sel 29)])),
         iOp (put 26) (.v false (oEv (sel 30))),
         iOp (put 31) (.v false (oExtract (sel 26) 0)),
         iOp (put 32) (.v false (oExtract (sel 26) 1)),
         iOp (put 7) (.v false (oEv (sel 31))),
         iOp (put 5) (.v false (oEv (sel 32)))])
       (sSeq (sRegion [iOp (put 33) (.v false (oEv (sel 4))),
          iOp (put 34) (.v false (oEv (sel 7))),
          iOp (put 35) (.v false (oBuild [.int .u16 0, .slice none 0 0] [(0, 1, (sel 33)), (1, 1, (sel 34))])),
          iOp (put 36) (.v false (oEv (sel 5))),
          iOp ⟨fun _ a => a⟩ (.e (eStore 2 (sel 2) (sel 35))),
          iOp (put 3) (.v false (oEv (sel 36)))])
        (sEx .ret)))))))⟩
theorem d38 : denF Try.prog 38 = some c38 := denF_of (by kernel_rfl)
/-- slices.Clone[[]byte,byte] -/
noncomputable def c39 : CF := ⟨8, [.tmp (sel 2)],
  sSeq (sRegion [iOp (put 2) (.v false (oEv ⟨fun _ => .slice none 0 0⟩))])
  (sSeq (sSeq (sRegion [iOp (put 3) (.v false (oEv (sel 0))),
      iOp (put 4) (.v false (oEq (.one 4) (sel 3) ⟨fun _ => .slice none 0 0⟩))])
    (sCond (sel 4)
      (sSeq (sRegion [iOp (put 2) (.v false (oEv ⟨fun _ => .slice none 0 0⟩))])
       (sEx .ret))
      (sEx .normal)))
   (sSeq (sRegion [iOp (put 5) (.a (aBuildSlice 5 0 (rep 0 [.int .u8 0]) [])),
      iOp (put 6) (.v false (oEv (sel 0))),
      iOp (put 7) (.e (eAppend 5 1 1 (sel 5) (sel 6))),
      iOp (put 2) (.v false (oEv (sel 7)))])
    (sEx .ret)))⟩
theorem d39 : denF Try.prog 39 = some c39 := denF_of (by kernel_rfl)
noncomputable def c40_0 : Vm.Sem := sSeq (sSeq (sRegion [iOp (put 14) (.v false (oEv (sel 8))),
    iOp (put 15) (.v false (oEv (sel 1))),
    iOp (put 16) (.v false (oInt2 fLss (sel 14) (sel 15)))])
  (sCond (sel 16)
    (sEx .normal)
    (sEx (.exit 0))))
 (sSeq (sBlock 1 (sRegion [iOp (put 19) (.v false (oEv (sel 7))),
     iOp (put 20) (.v false (oSh fShl (sel 19) ⟨fun _ => .int .u64 8⟩)),
     iOp (put 21) (.v false (oEv (sel 0))),
     iOp (put 22) (.v false (oEv (sel 8))),
     iOp (put 23) (.v false (oIndexAddrS 1 (sel 21) (sel 22))),
     iOp (put 24) (.v true (oLoad1 (sel 23))),
     iOp (put 25) (.v false (oConvInt .u32 (sel 24))),
     iOp (put 26) (.v false (oInt2 fOr (sel 20) (sel 25))),
     iOp (put 7) (.v false (oEv (sel 26)))]))
  (sRegion [iOp (put 17) (.v false (oEv (sel 8))),
    iOp (put 18) (.v false (oInt2 fAdd (sel 17) ⟨fun _ => .int .i64 1⟩)),
    iOp (put 8) (.v false (oEv (sel 18)))]))
/-- bollard/bollardref01.Get -/
noncomputable def c40 : CF := ⟨31, [.tmp (sel 4), .tmp (sel 5), .tmp (sel 6)],
  sSeq (sRegion [iOp (put 4) (.v false (oEv ⟨fun _ => .int .u32 0⟩)),
    iOp (put 5) (.v false (oEv ⟨fun _ => .slice none 0 0⟩)),
    iOp (put 6) (.v false (oEv ⟨fun _ => .int .i64 0⟩))])
  (sSeq (sSeq (sRegion [iOp (put 9) (.v false (oEv (sel 0))),
      iOp (put 10) (.v false (oLenS (sel 9))),
      iOp (put 11) (.v false (oEv (sel 1))),
      iOp (put 12) (.v false (oInt2 fLss (sel 10) (sel 11)))])
    (sCond (sel 12)
      (sSeq (sRegion [iOp (put 13) (.v false (oEv (sel 0))),
         iOp (put 4) (.v false (oEv ⟨fun _ => .int .u32 0⟩)),
         iOp (put 5) (.v false (oEv (sel 13))),
         iOp (put 6) (.v false (oEv ⟨fun _ => .int .i64 2⟩))])
       (sEx .ret))
      (sEx .normal)))
   (sSeq (sRegion [iOp (put 7) (.v false (oEv ⟨fun _ => .int .u32 0⟩))])
    (sSeq (sSeq (sRegion [iOp (put 8) (.v false (oEv ⟨fun _ => .int .i64 0⟩))])
      (sBlock 0 (sLoop c40_0)))
     (sSeq (sRegion [iOp (put 27) (.v false (oEv (sel 7))),
        iOp (put 28) (.v false (oEv (sel 0))),
        iOp (put 29) (.v false (oEv (sel 1))),
        iOp (put 30) (.v false (oSlice 1 (sel 28) (some (sel 29)) none none)),
        iOp (put 4) (.v false (oEv (sel 27))),
        iOp (put 5) (.v false (oEv (sel 30))),
        iOp (put 6) (.v false (oEv ⟨fun _ => .int .i64 0⟩))])
      (sEx .ret)))))⟩
theorem d40 : denF Try.prog 40 = some c40 := denF_of (by kernel_rfl)
/-- bollard/bollardref01.Bytes -/
noncomputable def c41 : CF := ⟨21, [.tmp (sel 4), .tmp (sel 5), .tmp (sel 6)],
  sSeq (sRegion [iOp (put 4) (.v false (oEv ⟨fun _ => .slice none 0 0⟩)),
    iOp (put 5) (.v false (oEv ⟨fun _ => .slice none 0 0⟩)),
    iOp (put 6) (.v false (oEv ⟨fun _ => .int .i64 0⟩))])
  (sSeq (sSeq (sRegion [iOp (put 7) (.v false (oEv (sel 1))),
      iOp (put 8) (.v false (oInt2 fLss (sel 7) ⟨fun _ => .int .i64 0⟩))])
    (sCond (sel 8)
      (sSeq (sRegion [iOp (put 9) (.v false (oEv (sel 0))),
         iOp (put 4) (.v false (oEv ⟨fun _ => .slice none 0 0⟩)),
         iOp (put 5) (.v false (oEv (sel 9))),
         iOp (put 6) (.v false (oEv ⟨fun _ => .int .i64 1⟩))])
       (sEx .ret))
      (sEx .normal)))
   (sSeq (sSeq (sRegion [iOp (put 10) (.v false (oEv (sel 0))),
       iOp (put 11) (.v false (oLenS (sel 10))),
       iOp (put 12) (.v false (oEv (sel 1))),
       iOp (put 13) (.v false (oInt2 fLss (sel 11) (sel 12)))])
     (sCond (sel 13)
       (sSeq (sRegion [iOp (put 14) (.v false (oEv (sel 0))),
          iOp (put 4) (.v false (oEv ⟨fun _ => .slice none 0 0⟩)),
          iOp (put 5) (.v false (oEv (sel 14))),
          iOp (put 6) (.v false (oEv ⟨fun _ => .int .i64 2⟩))])
        (sEx .ret))
       (sEx .normal)))
    (sSeq (sRegion [iOp (put 15) (.v false (oEv (sel 0))),
       iOp (put 16) (.v false (oEv (sel 1))),
       iOp (put 17) (.v false (oSlice 1 (sel 15) none (some (sel 16)) none)),
       iOp (put 18) (.v false (oEv (sel 0))),
       iOp (put 19) (.v false (oEv (sel 1))),
       iOp (put 20) (.v false (oSlice 1 (sel 18) (some (sel 19)) none none)),
       iOp (put 4) (.v false (oEv (sel 17))),
       iOp (put 5) (.v false (oEv (sel 20))),
       iOp (put 6) (.v false (oEv ⟨fun _ => .int .i64 0⟩))])
     (sEx .ret))))⟩
theorem d41 : denF Try.prog 41 = some c41 := denF_of (by kernel_rfl)
noncomputable def c42_0 : Vm.Sem := sSeq (sSeq (sRegion [iOp (put 20) (.v false (oEv (sel 7))),
    iOp (put 21) (.v false (oEv (sel 6))),
    iOp (put 22) (.v false (oInt2 fLss (sel 20) (sel 21)))])
  (sCond (sel 22)
    (sEx .normal)
    (sEx (.exit 0))))
 (sSeq (sBlock 1 (sSeq (sRegion [iOp (put 25) (.v false (oEv (sel 0))),
      iOp (put 26) (.v false (oEv (sel 7))),
      iOp (put 27) (.v false (oIndexAddrS 1 (sel 25) (sel 26))),
      iOp (put 28) (.v true (oLoad1 (sel 27))),
      iOp (put 29) (.v false (oNe (.one 1) (sel 28) ⟨fun _ => .int .u8 0⟩))])
    (sCond (sel 29)
      (sSeq (sRegion [iOp (put 30) (.v false (oEv (sel 0))),
         iOp (put 4) (.v false (oEv (sel 30))),
         iOp (put 5) (.v false (oEv ⟨fun _ => .int .i64 3⟩))])
       (sEx .ret))
      (sEx .normal))))
  (sRegion [iOp (put 23) (.v false (oEv (sel 7))),
    iOp (put 24) (.v false (oInt2 fAdd (sel 23) ⟨fun _ => .int .i64 1⟩)),
    iOp (put 7) (.v false (oEv (sel 24)))]))
/-- bollard/bollardref01.Unpad -/
noncomputable def c42 : CF := ⟨34, [.tmp (sel 4), .tmp (sel 5)],
  sSeq (sRegion [iOp (put 4) (.v false (oEv ⟨fun _ => .slice none 0 0⟩)),
    iOp (put 5) (.v false (oEv ⟨fun _ => .int .i64 0⟩))])
  (sSeq (sSeq (sRegion [iOp (put 8) (.v false (oEv (sel 1))),
      iOp (put 9) (.v false (oInt2 fLss (sel 8) ⟨fun _ => .int .i64 0⟩))])
    (sCond (sel 9)
      (sSeq (sRegion [iOp (put 10) (.v false (oEv (sel 0))),
         iOp (put 4) (.v false (oEv (sel 10))),
         iOp (put 5) (.v false (oEv ⟨fun _ => .int .i64 1⟩))])
       (sEx .ret))
      (sEx .normal)))
   (sSeq (sRegion [iOp (put 11) (.v false (oEv (sel 1))),
      iOp (put 12) (.v false (oInt2 fRem (sel 11) ⟨fun _ => .int .i64 4⟩)),
      iOp (put 13) (.v false (oInt2 fSub ⟨fun _ => .int .i64 4⟩ (sel 12))),
      iOp (put 14) (.v false (oInt2 fRem (sel 13) ⟨fun _ => .int .i64 4⟩)),
      iOp (put 6) (.v false (oEv (sel 14)))])
    (sSeq (sSeq (sRegion [iOp (put 15) (.v false (oEv (sel 0))),
        iOp (put 16) (.v false (oLenS (sel 15))),
        iOp (put 17) (.v false (oEv (sel 6))),
        iOp (put 18) (.v false (oInt2 fLss (sel 16) (sel 17)))])
      (sCond (sel 18)
        (sSeq (sRegion [iOp (put 19) (.v false (oEv (sel 0))),
           iOp (put 4) (.v false (oEv (sel 19))),
           iOp (put 5) (.v false (oEv ⟨fun _ => .int .i64 2⟩))])
         (sEx .ret))
        (sEx .normal)))
     (sSeq (sSeq (sRegion [iOp (put 7) (.v false (oEv ⟨fun _ => .int .i64 0⟩))])
       (sBlock 0 (sLoop c42_0)))
      (sSeq (sRegion [iOp (put 31) (.v false (oEv (sel 0))),
         iOp (put 32) (.v false (oEv (sel 6))),
         iOp (put 33) (.v false (oSlice 1 (sel 31) (some (sel 32)) none none)),
         iOp (put 4) (.v false (oEv (sel 33))),
         iOp (put 5) (.v false (oEv ⟨fun _ => .int .i64 0⟩))])
       (sEx .ret))))))⟩
theorem d42 : denF Try.prog 42 = some c42 := denF_of (by kernel_rfl)
/-- (*bollard/octet.Reader).Get16 -/
noncomputable def c43 : CF := ⟨24, [.tmp (sel 2), .tmp (sel 3)],
  sSeq (sRegion [iOp (put 2) (.v false (oEv ⟨fun _ => .int .u16 0⟩)),
    iOp (put 3) (.v false (oEv ⟨fun _ => .int .i64 0⟩))])
  (sSeq (sRegion [iOp (put 7) (.v false (oEv (sel 0))),
     iOp (put 8) (.e (eCallF 45 [(sel 7), ⟨fun _ => .int .i64 2⟩])),
     iOp (put 6) (.v false (oEv (sel 8))),
     iOp (put 9) (.v false (oExtract (sel 6) 0)),
     iOp (put 10) (.v false (oExtract (sel 6) 1)),
     iOp (put 4) (.v false (oEv (sel 9))),
     iOp (put 5) (.v false (oEv (sel 10)))])
   (sSeq (sSeq (sRegion [iOp (put 11) (.v false (oEv (sel 5))),
       iOp (put 12) (.v false (oNe (.one 1) (sel 11) ⟨fun _ => .int .i64 0⟩))])
     (sCond (sel 12)
       (sSeq (sRegion [iOp (put 13) (.v false (oEv (sel 5))),
          iOp (put 2) (.v false (oEv ⟨fun _ => .int .u16 0⟩)),
          iOp (put 3) (.v false (oEv (sel 13)))])
        (sEx .ret))
       (sEx .normal)))
    (sSeq (sRegion [iOp (put 14) (.v false (oEv (sel 4))),
       iOp (put 15) (.v false (oIndexAddrS 1 (sel 14) ⟨fun _ => .int .i64 0⟩)),
       iOp (put 16) (.v true (oLoad1 (sel 15))),
       iOp (put 17) (.v false (oConvInt .u16 (sel 16))),
       iOp (put 18) (.v false (oSh fShl (sel 17) ⟨fun _ => .int .u64 8⟩)),
       iOp (put 19) (.v false (oEv (sel 4))),
       iOp (put 20) (.v false (oIndexAddrS 1 (sel 19) ⟨fun _ => .int .i64 1⟩)),
       iOp (put 21) (.v true (oLoad1 (sel 20))),
       iOp (put 22) (.v false (oConvInt .u16 (sel 21))),
       iOp (put 23) (.v false (oInt2 fOr (sel 18) (sel 22))),
       iOp (put 2) (.v false (oEv (sel 23))),
       iOp (put 3) (.v false (oEv ⟨fun _ => .int .i64 0⟩))])
     (sEx .ret))))⟩
theorem d43 : denF Try.prog 43 = some c43 := denF_of (by kernel_rfl)
/-- bollard/tlv.value -/
noncomputable def c44 : CF := ⟨28, [.tmp (sel 4), .tmp (sel 5)],
  sSeq (sRegion [iOp (put 4) (.v false (oEv ⟨fun _ => .slice none 0 0⟩)),
    iOp (put 5) (.v false (oEv ⟨fun _ => .int .i64 0⟩))])
  (sSeq (sBlock 0 (sSeq (sRegion [iOp (put 9) (.v false (oEv (sel 1))),
       iOp (put 10) (.v false (oInt2 fLss (sel 9) ⟨fun _ => .int .i64 4⟩)),
       iOp (put 8) (.v false (oEv (sel 10)))])
     (sCond (sel 8)
       (sSeq (sRegion [iOp (put 4) (.v false (oEv ⟨fun _ => .slice none 0 0⟩)),
          iOp (put 5) (.v false (oEv ⟨fun _ => .int .i64 3⟩))])
        (sEx .ret))
       (sSeq (sRegion [iOp (put 12) (.v false (oEv (sel 1))),
          iOp (put 13) (.v false (oInt2 fGtr (sel 12) ⟨fun _ => .int .i64 1204⟩)),
          iOp (put 11) (.v false (oEv (sel 13)))])
        (sCond (sel 11)
          (sSeq (sRegion [iOp (put 4) (.v false (oEv ⟨fun _ => .slice none 0 0⟩)),
             iOp (put 5) (.v false (oEv ⟨fun _ => .int .i64 10⟩))])
           (sEx .ret))
          (sEx .normal))))))
   (sSeq (sRegion [iOp (put 15) (.v false (oEv (sel 0))),
      iOp (put 16) (.v false (oEv (sel 1))),
      iOp (put 17) (.v false (oInt2 fSub (sel 16) ⟨fun _ => .int .i64 4⟩)),
      iOp (put 18) (.e (eCallF 46 [(sel 15), (sel 17)])),
      iOp (put 14) (.v false (oEv (sel 18))),
      iOp (put 19) (.v false (oExtract (sel 14) 0)),
      iOp (put 20) (.v false (oExtract (sel 14) 1)),
      iOp (put 6) (.v false (oEv (sel 19))),
      iOp (put 7) (.v false (oEv (sel 20)))])
    (sSeq (sSeq (sRegion [iOp (put 21) (.v false (oEv (sel 7))),
        iOp (put 22) (.v false (oNe (.one 1) (sel 21) ⟨fun _ => .int .i64 0⟩))])
      (sCond (sel 22)
        (sSeq (sRegion [iOp (put 23) (.v false (oEv (sel 7))),
           iOp (put 4) (.v false (oEv ⟨fun _ => .slice none 0 0⟩)),
           iOp (put 5) (.v false (oEv (sel 23)))])
         (sEx .ret))
        (sEx .normal)))
     (sSeq (sRegion [iOp (put 24) (.v false (oEv (sel 6))),
        iOp (put 25) (.v false (oEv (sel 0))),
        iOp (put 26) (.v false (oEv (sel 1))),
        iOp (put 27) (.e (eCallF 47 [(sel 25), (sel 26)])),
        iOp (put 4) (.v false (oEv (sel 24))),
        iOp (put 5) (.v false (oEv (sel 27)))])
      (sEx .ret)))))⟩
theorem d44 : denF Try.prog 44 = some c44 := denF_of (by kernel_rfl)
/-- (*bollard/octet.Reader).take -/
noncomputable def c45 : CF := ⟨39, [.tmp (sel 4), .tmp (sel 5)],
  sSeq (sRegion [iOp (put 4) (.v false (oEv ⟨fun _ => .slice none 0 0⟩)),
    iOp (put 5) (.v false (oEv ⟨fun _ => .int .i64 0⟩))])
  (sSeq (sBlock 0 (sSeq (sRegion [iOp (put 8) (.v false (oEv (sel 0))),
       iOp (put 9) (.v false (oEq (.one 3) (sel 8) ⟨fun _ => .pointer none⟩)),
       iOp (put 10) (.v false (oEv (sel 9))),
       iGuard (sel 10) false (put 11) (iOp (put 11) (.v false (oEv (sel 1)))),
       iGuard (sel 10) false (put 12) (iOp (put 12) (.v false (oInt2 fLss (sel 11) ⟨fun _ => .int .i64 0⟩))),
       iOp (put 13) (.v false (oPick (sel 10) ⟨fun _ => .bool true⟩ (sel 12))),
       iOp (put 7) (.v false (oEv (sel 13)))])
     (sCond (sel 7)
       (sSeq (sRegion [iOp (put 4) (.v false (oEv ⟨fun _ => .slice none 0 0⟩)),
          iOp (put 5) (.v false (oEv ⟨fun _ => .int .i64 1⟩))])
        (sEx .ret))
       (sSeq (sRegion [iOp (put 15) (.v false (oEv (sel 1))),
          iOp (put 16) (.v false (oEv (sel 0))),
          iOp (put 17) (.v false (oNilCheck (sel 16))),
          iOp (put 18) (.v false (oFieldAddr 0 (sel 17))),
          iOp (put 19) (.v true (oLoad1 (sel 18))),
          iOp (put 20) (.v false (oLenS (sel 19))),
          iOp (put 21) (.v false (oInt2 fGtr (sel 15) (sel 20))),
          iOp (put 14) (.v false (oEv (sel 21)))])
        (sCond (sel 14)
          (sSeq (sRegion [iOp (put 4) (.v false (oEv ⟨fun _ => .slice none 0 0⟩)),
             iOp (put 5) (.v false (oEv ⟨fun _ => .int .i64 2⟩))])
           (sEx .ret))
          (sEx .normal))))))
   (sSeq (sRegion [iOp (put 22) (.v false (oEv (sel 0))),
      iOp (put 23) (.v false (oNilCheck (sel 22))),
      iOp (put 24) (.v false (oFieldAddr 0 (sel 23))),
      iOp (put 25) (.v true (oLoad1 (sel 24))),
      iOp (put 26) (.v false (oEv (sel 1))),
      iOp (put 27) (.v false (oEv (sel 1))),
      iOp (put 28) (.v false (oSlice 1 (sel 25) none (some (sel 26)) (some (sel 27)))),
      iOp (put 6) (.v false (oEv (sel 28)))])
    (sSeq (sRegion [iOp (put 29) (.v false (oEv (sel 0))),
       iOp (put 30) (.v false (oEv (sel 0))),
       iOp (put 31) (.v false (oNilCheck (sel 30))),
       iOp (put 32) (.v false (oFieldAddr 0 (sel 31))),
       iOp (put 33) (.v true (oLoad1 (sel 32))),
       iOp (put 34) (.v false (oEv (sel 1))),
       iOp (put 35) (.v false (oSlice 1 (sel 33) (some (sel 34)) none none)),
       iOp (put 36) (.v false (oNilCheck (sel 29))),
       iOp (put 37) (.v false (oFieldAddr 0 (sel 36))),
       iOp ⟨fun _ a => a⟩ (.e (eStore 1 (sel 37) (sel 35)))])
     (sSeq (sRegion [iOp (put 38) (.v false (oEv (sel 6))),
        iOp (put 4) (.v false (oEv (sel 38))),
        iOp (put 5) (.v false (oEv ⟨fun _ => .int .i64 0⟩))])
      (sEx .ret)))))⟩
theorem d45 : denF Try.prog 45 = some c45 := denF_of (by kernel_rfl)
/-- (*bollard/octet.Reader).Bytes -/
noncomputable def c46 : CF := ⟨17, [.tmp (sel 4), .tmp (sel 5)],
  sSeq (sRegion [iOp (put 4) (.v false (oEv ⟨fun _ => .slice none 0 0⟩)),
    iOp (put 5) (.v false (oEv ⟨fun _ => .int .i64 0⟩))])
  (sSeq (sRegion [iOp (put 9) (.v false (oEv (sel 0))),
     iOp (put 10) (.v false (oEv (sel 1))),
     iOp (put 11) (.e (eCallF 45 [(sel 9), (sel 10)])),
     iOp (put 8) (.v false (oEv (sel 11))),
     iOp (put 12) (.v false (oExtract (sel 8) 0)),
     iOp (put 13) (.v false (oExtract (sel 8) 1)),
     iOp (put 6) (.v false (oEv (sel 12))),
     iOp (put 7) (.v false (oEv (sel 13)))])
   (sSeq (sRegion [iOp (put 14) (.v false (oEv (sel 6))),
      iOp (put 15) (.e (eCallF 39 [(sel 14)])),
      iOp (put 16) (.v false (oEv (sel 7))),
      iOp (put 4) (.v false (oEv (sel 15))),
      iOp (put 5) (.v false (oEv (sel 16)))])
    (sEx .ret)))⟩
theorem d46 : denF Try.prog 46 = some c46 := denF_of (by kernel_rfl)
/-- (*bollard/octet.Reader).Pad -/
noncomputable def c47 : CF := ⟨37, [.tmp (sel 4)],
  sSeq (sRegion [iOp (put 4) (.v false (oEv ⟨fun _ => .int .i64 0⟩))])
  (sSeq (sSeq (sRegion [iOp (put 6) (.v false (oEv (sel 0))),
      iOp (put 7) (.v false (oEq (.one 3) (sel 6) ⟨fun _ => .pointer none⟩)),
      iOp (put 8) (.v false (oEv (sel 7))),
      iGuard (sel 8) false (put 9) (iOp (put 9) (.v false (oEv (sel 1)))),
      iGuard (sel 8) false (put 10) (iOp (put 10) (.v false (oInt2 fLss (sel 9) ⟨fun _ => .int .i64 0⟩))),
      iOp (put 11) (.v false (oPick (sel 8) ⟨fun _ => .bool true⟩ (sel 10)))])
    (sCond (sel 11)
      (sSeq (sRegion [iOp (put 4) (.v false (oEv ⟨fun _ => .int .i64 1⟩))])
       (sEx .ret))
      (sEx .normal)))
   (sSeq (sRegion [iOp (put 12) (.v false (oEv (sel 1))),
      iOp (put 13) (.e (eCallF 35 [(sel 12)])),
      iOp (put 5) (.v false (oEv (sel 13)))])
    (sSeq (sSeq (sRegion [iOp (put 14) (.v false (oEv (sel 5))),
        iOp (put 15) (.v false (oEv (sel 0))),
        iOp (put 16) (.v false (oNilCheck (sel 15))),
        iOp (put 17) (.v false (oFieldAddr 0 (sel 16))),
        iOp (put 18) (.v true (oLoad1 (sel 17))),
        iOp (put 19) (.v false (oLenS (sel 18))),
        iOp (put 20) (.v false (oInt2 fGtr (sel 14) (sel 19)))])
      (sCond (sel 20)
        (sSeq (sRegion [iOp (put 4) (.v false (oEv ⟨fun _ => .int .i64 2⟩))])
         (sEx .ret))
        (sEx .normal)))
     (sSeq (sSeq (sRegion [iOp (put 21) (.v false (oEv (sel 0))),
         iOp (put 22) (.v false (oNilCheck (sel 21))),
         iOp (put 23) (.v false (oFieldAddr 0 (sel 22))),
         iOp (put 24) (.v true (oLoad1 (sel 23))),
         iOp (put 25) (.v false (oEv (sel 5))),
         iOp (put 26) (.v false (oSlice 1 (sel 24) none (some (sel 25)) none)),
         iOp (put 27) (.e (eCallF 48 [(sel 26), ⟨fun _ => .func (.func 49) #[] #[]⟩]))])
       (sCond (sel 27)
         (sSeq (sRegion [iOp (put 4) (.v false (oEv ⟨fun _ => .int .i64 3⟩))])
          (sEx .ret))
         (sEx .normal)))
      (sSeq (sRegion [iOp (put 28) (.v false (oEv (sel 0))),
         iOp (put 29) (.v false (oEv (sel 0))),
         iOp (put 30) (.v false (oNilCheck (sel 29))),
         iOp (put 31) (.v false (oFieldAddr 0 (sel 30))),
         iOp (put 32) (.v true (oLoad1 (sel 31))),
         iOp (put 33) (.v false (oEv (sel 5))),
         iOp (put 34) (.v false (oSlice 1 (sel 32) (some (sel 33)) none none)),
         iOp (put 35) (.v false (oNilCheck (sel 28))),
         iOp (put 36) (.v false (oFieldAddr 0 (sel 35))),
         iOp ⟨fun _ a => a⟩ (.e (eStore 1 (sel 36) (sel 34)))])
       (sSeq (sRegion [iOp (put 4) (.v false (oEv ⟨fun _ => .int .i64 0⟩))])
        (sEx .ret)))))))⟩
theorem d47 : denF Try.prog 47 = some c47 := denF_of (by kernel_rfl)
/-- slices.ContainsFunc[[]byte,byte] -/
noncomputable def c48 : CF := ⟨9, [.tmp (sel 4)],
  sSeq (sRegion [iOp (put 4) (.v false (oEv ⟨fun _ => .bool false⟩))])
  (sSeq (sRegion [iOp (put 5) (.v false (oEv (sel 0))),
     iOp (put 6) (.v false (oEv (sel 1))),
     iOp (put 7) (.e (eCallF 50 [(sel 5), (sel 6)])),
     iOp (put 8) (.v false (oInt2 fGeq (sel 7) ⟨fun _ => .int .i64 0⟩)),
     iOp (put 4) (.v false (oEv (sel 8)))])
   (sEx .ret))⟩
theorem d48 : denF Try.prog 48 = some c48 := denF_of (by kernel_rfl)
/-- (*bollard/octet.Reader).Pad$1 -/
noncomputable def c49 : CF := ⟨5, [.tmp (sel 2)],
  sSeq (sRegion [iOp (put 2) (.v false (oEv ⟨fun _ => .bool false⟩))])
  (sSeq (sRegion [iOp (put 3) (.v false (oEv (sel 0))),
     iOp (put 4) (.v false (oNe (.one 1) (sel 3) ⟨fun _ => .int .u8 0⟩)),
     iOp (put 2) (.v false (oEv (sel 4)))])
   (sEx .ret))⟩
theorem d49 : denF Try.prog 49 = some c49 := denF_of (by kernel_rfl)
noncomputable def c50_0 : Vm.Sem := sSeq (sRegion [iOp (put 9) (.v false (oInt2 fLss (sel 8) (sel 7)))])
 (sSeq (sCond (sel 9)
    (sEx .normal)
    (sEx (.exit 0)))
  (sSeq (sBlock 1 (sSeq (sRegion [iOp (put 10) (.v false (oEv (sel 8))),
       iOp (put 5) (.v false (oEv (sel 10)))])
     (sSeq (sRegion [iOp (put 11) (.v false (oEv (sel 1))),
        iOp (put 12) (.v false (oEv (sel 0))),
        iOp (put 13) (.v false (oEv (sel 5))),
        iOp (put 14) (.v false (oIndexAddrS 1 (sel 12) (sel 13))),
        iOp (put 15) (.v true (oLoad1 (sel 14))),
        iOp (put 16) (.e (eCall (sel 11) [(sel 15)]))])
      (sCond (sel 16)
        (sSeq (sRegion [iOp (put 17) (.v false (oEv (sel 5))),
           iOp (put 4) (.v false (oEv (sel 17)))])
         (sEx .ret))
        (sEx .normal)))))
   (sRegion [iOp (put 18) (.v false (oInt2 fAdd (sel 8) ⟨fun _ => .int .i64 1⟩)),
     iOp (put 8) (.v false (oEv (sel 18)))])))
/-- slices.IndexFunc[[]byte,byte] -/
noncomputable def c50 : CF := ⟨19, [.tmp (sel 4)],
  sSeq (sRegion [iOp (put 4) (.v false (oEv ⟨fun _ => .int .i64 0⟩))])
  (sSeq (sSeq (sRegion [iOp (put 6) (.v false (oEv (sel 0))),
      iOp (put 7) (.v false (oLenS (sel 6))),
      iOp (put 8) (.v false (oEv ⟨fun _ => .int .i64 0⟩))])
    (sBlock 0 (sLoop c50_0)))
   (sSeq (sRegion [iOp (put 4) (.v false (oEv ⟨fun _ => .int .i64 (-1)⟩))])
    (sEx .ret)))⟩
theorem d50 : denF Try.prog 50 = some c50 := denF_of (by kernel_rfl)
end Go.Proofs.Ytnnffmnbcealkaa

