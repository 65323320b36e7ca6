/- Part of a proof by an abstract run of the program's code: OctC. No condition. -/
import Derived.Test.YtedlbgfiehdcbaaChecked
import Derived.Test.YtedlbgfiehdcbaaVmD
/-! Layer 1's functions in the abstract run (printed by wip/PrintC.lean). -/
namespace Go.Proofs.Ytedlbgfiehdcbaa
open Go Vm
/-- bollard/bollardlaw01.OctetPuts -/
noncomputable def c3 : CF := ⟨48, [.tmp (sel 4)],
  sSeq (sRegion [iOp (put 4) (.v false (oEv ⟨fun _ => .bool false⟩))])
  (sSeq (sRegion [iOp (put 6) (.e (eCallF 9 [])),
     iOp (put 5) (.v false (oEv (sel 6)))])
   (sSeq (sSeq (sRegion [iOp (put 7) (.v false (oEv (sel 0))),
       iOp (put 8) (.v false (oLenS (sel 7))),
       iOp (put 9) (.v false (oInt2 fGtr (sel 8) ⟨fun _ => .int .i64 2000⟩))])
     (sCond (sel 9)
       (sSeq (sRegion [iOp (put 10) (.v false (oEv (sel 5))),
          iOp (put 4) (.v false (oEv (sel 10)))])
        (sEx .ret))
       (sEx .normal)))
    (sSeq (sRegion [iOp (put 11) (.v false (oEv (sel 5))),
       iOp (put 12) (.v false (oEv (sel 11))),
       iGuard (sel 12) true (put 13) (iOp (put 13) (.v false (oEv (sel 0)))),
       iGuard (sel 12) true (put 14) (iOp (put 14) (.v false (oEv (sel 1)))),
       iGuard (sel 12) true (put 15) (iOp (put 15) (.v false (oConvInt .u8 (sel 14)))),
       iGuard (sel 12) true (put 16) (iOp (put 16) (.e (eCallF 11 [(sel 13), (sel 15)]))),
       iGuard (sel 12) true (put 17) (iOp (put 17) (.v false (oEv (sel 0)))),
       iGuard (sel 12) true (put 18) (iOp (put 18) (.v false (oEv (sel 1)))),
       iGuard (sel 12) true (put 19) (iOp (put 19) (.e (eCallF 12 [(sel 17), (sel 18), ⟨fun _ => .int .i64 1⟩]))),
       iGuard (sel 12) true (put 20) (iOp (put 20) (.e (eCallF 10 [(sel 16), (sel 19)]))),
       iOp (put 21) (.v false (oPick (sel 12) (sel 20) ⟨fun _ => .bool false⟩)),
       iOp (put 22) (.v false (oEv (sel 21))),
       iGuard (sel 22) true (put 23) (iOp (put 23) (.v false (oEv (sel 0)))),
       iGuard (sel 22) true (put 24) (iOp (put 24) (.v false (oEv (sel 1)))),
       iGuard (sel 22) true (put 25) (iOp (put 25) (.v false (oConvInt .u16 (sel 24)))),
       iGuard (sel 22) true (put 26) (iOp (put 26) (.e (eCallF 13 [(sel 23), (sel 25)]))),
       iGuard (sel 22) true (put 27) (iOp (put 27) (.v false (oEv (sel 0)))),
       iGuard (sel 22) true (put 28) (iOp (put 28) (.v false (oEv (sel 1)))),
       iGuard (sel 22) true (put 29) (iOp (put 29) (.e (eCallF 12 [(sel 27), (sel 28), ⟨fun _ => .int .i64 2⟩]))),
       iGuard (sel 22) true (put 30) (iOp (put 30) (.e (eCallF 10 [(sel 26), (sel 29)]))),
       iOp (put 31) (.v false (oPick (sel 22) (sel 30) ⟨fun _ => .bool false⟩)),
       iOp (put 32) (.v false (oEv (sel 31))),
       iGuard (sel 32) true (put 33) (iOp (put 33) (.v false (oEv (sel 0)))),
       iGuard (sel 32) true (put 34) (iOp (put 34) (.v false (oEv (sel 1)))),
       iGuard (sel 32) true (put 35) (iOp (put 35) (.e (eCallF 14 [(sel 33), (sel 34)]))),
       iGuard (sel 32) true (put 36) (iOp (put 36) (.v false (oEv (sel 0)))),
       iGuard (sel 32) true (put 37) (iOp (put 37) (.v false (oEv (sel 1)))),
       iGuard (sel 32) true (put 38) (iOp (put 38) (.e (eCallF 12 [(sel 36), (sel 37), ⟨fun _ => .int .i64 4⟩]))),
       iGuard (sel 32) true (put 39) (iOp (put 39) (.e (eCallF 10 [(sel 35), (sel 38)]))),
       iOp (put 40) (.v false (oPick (sel 32) (sel 39) ⟨fun _ => .bool false⟩)),
       iOp (put 41) (.v false (oEv (sel 40))),
       iGuard (sel 41) true (put 42) (iOp (put 42) (.v false (oEv (sel 0)))),
       iGuard (sel 41) true (put 43) (iOp (put 43) (.e (eCallF 15 [(sel 42)]))),
       iGuard (sel 41) true (put 44) (iOp (put 44) (.v false (oEv (sel 0)))),
       iGuard (sel 41) true (put 45) (iOp (put 45) (.e (eCallF 16 [(sel 44)]))),
       iGuard (sel 41) true (put 46) (iOp (put 46) (.e (eCallF 10 [(sel 43), (sel 45)]))),
       iOp (put 47) (.v false (oPick (sel 41) (sel 46) ⟨fun _ => .bool false⟩)),
       iOp (put 4) (.v false (oEv (sel 47)))])
     (sEx .ret))))⟩
theorem d3 : denF Try.prog 3 = some c3 := by kernel_rfl
/-- bollard/bollardlaw01.OctetParts -/
noncomputable def c4 : CF := ⟨65, [.tmp (sel 4)],
  sSeq (sRegion [iOp (put 4) (.v false (oEv ⟨fun _ => .bool false⟩))])
  (sSeq (sRegion [iOp (put 7) (.e (eCallF 9 [])),
     iOp (put 5) (.v false (oEv (sel 7)))])
   (sSeq (sSeq (sRegion [iOp (put 8) (.v false (oEv (sel 0))),
       iOp (put 9) (.v false (oLenS (sel 8))),
       iOp (put 10) (.v false (oInt2 fGtr (sel 9) ⟨fun _ => .int .i64 2000⟩))])
     (sCond (sel 10)
       (sSeq (sRegion [iOp (put 11) (.v false (oEv (sel 5))),
          iOp (put 4) (.v false (oEv (sel 11)))])
        (sEx .ret))
       (sEx .normal)))
    (sSeq (sRegion [iOp (put 12) (.v false (oEv (sel 0))),
       iOp (put 13) (.e (eCallF 15 [(sel 12)])),
       iOp (put 6) (.v false (oEv (sel 13)))])
     (sSeq (sRegion [iOp (put 14) (.v false (oEv (sel 5))),
        iOp (put 15) (.v false (oEv (sel 14))),
        iGuard (sel 15) true (put 16) (iOp (put 16) (.v false (oEv (sel 0)))),
        iGuard (sel 15) true (put 17) (iOp (put 17) (.v false (oEv (sel 1)))),
        iGuard (sel 15) true (put 18) (iOp (put 18) (.e (eCallF 14 [(sel 16), (sel 17)]))),
        iGuard (sel 15) true (put 19) (iOp (put 19) (.v false (oEv (sel 0)))),
        iGuard (sel 15) true (put 20) (iOp (put 20) (.v false (oEv (sel 1)))),
        iGuard (sel 15) true (put 21) (iOp (put 21) (.v false (oSh fShr (sel 20) ⟨fun _ => .int .u64 16⟩))),
        iGuard (sel 15) true (put 22) (iOp (put 22) (.v false (oConvInt .u16 (sel 21)))),
        iGuard (sel 15) true (put 23) (iOp (put 23) (.e (eCallF 13 [(sel 19), (sel 22)]))),
        iGuard (sel 15) true (put 24) (iOp (put 24) (.v false (oEv (sel 1)))),
        iGuard (sel 15) true (put 25) (iOp (put 25) (.v false (oConvInt .u16 (sel 24)))),
        iGuard (sel 15) true (put 26) (iOp (put 26) (.e (eCallF 13 [(sel 23), (sel 25)]))),
        iGuard (sel 15) true (put 27) (iOp (put 27) (.e (eCallF 10 [(sel 18), (sel 26)]))),
        iOp (put 28) (.v false (oPick (sel 15) (sel 27) ⟨fun _ => .bool false⟩)),
        iOp (put 29) (.v false (oEv (sel 28))),
        iGuard (sel 29) true (put 30) (iOp (put 30) (.v false (oEv (sel 0)))),
        iGuard (sel 29) true (put 31) (iOp (put 31) (.v false (oEv (sel 1)))),
        iGuard (sel 29) true (put 32) (iOp (put 32) (.v false (oConvInt .u16 (sel 31)))),
        iGuard (sel 29) true (put 33) (iOp (put 33) (.e (eCallF 13 [(sel 30), (sel 32)]))),
        iGuard (sel 29) true (put 34) (iOp (put 34) (.v false (oEv (sel 0)))),
        iGuard (sel 29) true (put 35) (iOp (put 35) (.v false (oEv (sel 1)))),
        iGuard (sel 29) true (put 36) (iOp (put 36) (.v false (oSh fShr (sel 35) ⟨fun _ => .int .u64 8⟩))),
        iGuard (sel 29) true (put 37) (iOp (put 37) (.v false (oConvInt .u8 (sel 36)))),
        iGuard (sel 29) true (put 38) (iOp (put 38) (.e (eCallF 11 [(sel 34), (sel 37)]))),
        iGuard (sel 29) true (put 39) (iOp (put 39) (.v false (oEv (sel 1)))),
        iGuard (sel 29) true (put 40) (iOp (put 40) (.v false (oConvInt .u8 (sel 39)))),
        iGuard (sel 29) true (put 41) (iOp (put 41) (.e (eCallF 11 [(sel 38), (sel 40)]))),
        iGuard (sel 29) true (put 42) (iOp (put 42) (.e (eCallF 10 [(sel 33), (sel 41)]))),
        iOp (put 43) (.v false (oPick (sel 29) (sel 42) ⟨fun _ => .bool false⟩)),
        iOp (put 44) (.v false (oEv (sel 43))),
        iGuard (sel 44) true (put 45) (iOp (put 45) (.v false (oEv (sel 6)))),
        iGuard (sel 44) true (put 46) (iOp (put 46) (.e (eCallF 15 [(sel 45)]))),
        iGuard (sel 44) true (put 47) (iOp (put 47) (.v false (oEv (sel 6)))),
        iGuard (sel 44) true (put 48) (iOp (put 48) (.e (eCallF 10 [(sel 46), (sel 47)]))),
        iOp (put 49) (.v false (oPick (sel 44) (sel 48) ⟨fun _ => .bool false⟩)),
        iOp (put 50) (.v false (oEv (sel 49))),
        iGuard (sel 50) true (put 51) (iOp (put 51) (.v false (oEv (sel 6)))),
        iGuard (sel 50) true (put 52) (iOp (put 52) (.v false (oLenS (sel 51)))),
        iGuard (sel 50) true (put 53) (iOp (put 53) (.v false (oEv (sel 0)))),
        iGuard (sel 50) true (put 54) (iOp (put 54) (.v false (oLenS (sel 53)))),
        iGuard (sel 50) true (put 55) (iOp (put 55) (.v false (oInt2 fGeq (sel 52) (sel 54)))),
        iOp (put 56) (.v false (oPick (sel 50) (sel 55) ⟨fun _ => .bool false⟩)),
        iOp (put 57) (.v false (oEv (sel 56))),
        iGuard (sel 57) true (put 58) (iOp (put 58) (.v false (oEv (sel 6)))),
        iGuard (sel 57) true (put 59) (iOp (put 59) (.v false (oLenS (sel 58)))),
        iGuard (sel 57) true (put 60) (iOp (put 60) (.v false (oEv (sel 0)))),
        iGuard (sel 57) true (put 61) (iOp (put 61) (.v false (oLenS (sel 60)))),
        iGuard (sel 57) true (put 62) (iOp (put 62) (.v false (oInt2 fAdd (sel 61) ⟨fun _ => .int .i64 4⟩))),
        iGuard (sel 57) true (put 63) (iOp (put 63) (.v false (oInt2 fLss (sel 59) (sel 62)))),
        iOp (put 64) (.v false (oPick (sel 57) (sel 63) ⟨fun _ => .bool false⟩)),
        iOp (put 4) (.v false (oEv (sel 64)))])
      (sEx .ret)))))⟩
theorem d4 : denF Try.prog 4 = some c4 := by kernel_rfl
/-- bollard/bollardlaw01.OctetCuts -/
noncomputable def c5 : CF := ⟨96, [.tmp (sel 4)],
  sSeq (sRegion [iOp (put 4) (.v false (oEv ⟨fun _ => .bool false⟩))])
  (sSeq (sRegion [iOp (put 17) (.e (eCallF 9 [])),
     iOp (put 5) (.v false (oEv (sel 17)))])
   (sSeq (sSeq (sRegion [iOp (put 18) (.v false (oEv (sel 0))),
       iOp (put 19) (.v false (oLenS (sel 18))),
       iOp (put 20) (.v false (oInt2 fGtr (sel 19) ⟨fun _ => .int .i64 1000⟩))])
     (sCond (sel 20)
       (sSeq (sRegion [iOp (put 21) (.v false (oEv (sel 5))),
          iOp (put 4) (.v false (oEv (sel 21)))])
        (sEx .ret))
       (sEx .normal)))
    (sSeq (sRegion [iOp (put 22) (.v false (oEv (sel 1))),
       iOp (put 23) (.v false (oInt2 fAnd (sel 22) ⟨fun _ => .int .i64 65535⟩)),
       iOp (put 24) (.v false (oEv (sel 0))),
       iOp (put 25) (.v false (oLenS (sel 24))),
       iOp (put 26) (.v false (oInt2 fAdd (sel 25) ⟨fun _ => .int .i64 1⟩)),
       iOp (put 27) (.v false (oInt2 fRem (sel 23) (sel 26))),
       iOp (put 6) (.v false (oEv (sel 27)))])
     (sSeq (sRegion [iOp (put 28) (.v false (oEv (sel 0))),
        iOp (put 29) (.e (eCallF 17 [(sel 28)])),
        iOp (put 7) (.v false (oEv (sel 29)))])
      (sSeq (sRegion [iOp (put 31) (.v false (oEv (sel 7))),
         iOp (put 32) (.v false (oEv (sel 6))),
         iOp (put 33) (.e (eCallF 18 [(sel 31), (sel 32)])),
         iOp (put 30) (.v false (oEv (sel 33))),
         iOp (put 34) (.v false (oExtract (sel 30) 0)),
         iOp (put 35) (.v false (oExtract (sel 30) 1)),
         iOp (put 8) (.v false (oEv (sel 34))),
         iOp (put 9) (.v false (oEv (sel 35)))])
       (sSeq (sRegion [iOp (put 36) (.v false (oEv (sel 7))),
          iOp (put 37) (.e (eCallF 19 [(sel 36)])),
          iOp (put 10) (.v false (oEv (sel 37)))])
        (sSeq (sRegion [iOp (put 39) (.v false (oEv (sel 7))),
           iOp (put 40) (.v false (oEv (sel 0))),
           iOp (put 41) (.v false (oLenS (sel 40))),
           iOp (put 42) (.v false (oEv (sel 6))),
           iOp (put 43) (.v false (oInt2 fSub (sel 41) (sel 42))),
           iOp (put 44) (.e (eCallF 18 [(sel 39), (sel 43)])),
           iOp (put 38) (.v false (oEv (sel 44))),
           iOp (put 45) (.v false (oExtract (sel 38) 0)),
           iOp (put 46) (.v false (oExtract (sel 38) 1)),
           iOp (put 11) (.v false (oEv (sel 45))),
           iOp (put 12) (.v false (oEv (sel 46)))])
         (sSeq (sRegion [iOp (put 48) (.v false (oEv (sel 7))),
            iOp (put 49) (.e (eCallF 18 [(sel 48), ⟨fun _ => .int .i64 1⟩])),
            iOp (put 47) (.v false (oEv (sel 49))),
            iOp (put 50) (.v false (oExtract (sel 47) 0)),
            iOp (put 51) (.v false (oExtract (sel 47) 1)),
            iOp (put 13) (.v false (oEv (sel 50))),
            iOp (put 14) (.v false (oEv (sel 51)))])
          (sSeq (sRegion [iOp (put 53) (.v false (oEv (sel 7))),
             iOp (put 54) (.e (eCallF 18 [(sel 53), ⟨fun _ => .int .i64 0⟩])),
             iOp (put 52) (.v false (oEv (sel 54))),
             iOp (put 55) (.v false (oExtract (sel 52) 0)),
             iOp (put 56) (.v false (oExtract (sel 52) 1)),
             iOp (put 15) (.v false (oEv (sel 55))),
             iOp (put 16) (.v false (oEv (sel 56)))])
           (sSeq (sRegion [iOp (put 57) (.v false (oEv (sel 5))),
              iOp (put 58) (.v false (oEv (sel 57))),
              iGuard (sel 58) true (put 59) (iOp (put 59) (.v false (oEv (sel 9)))),
              iGuard (sel 58) true (put 60) (iOp (put 60) (.v false (oEq (.one 1) (sel 59) ⟨fun _ => .int .i64 0⟩))),
              iOp (put 61) (.v false (oPick (sel 58) (sel 60) ⟨fun _ => .bool false⟩)),
              iOp (put 62) (.v false (oEv (sel 61))),
              iGuard (sel 62) true (put 63) (iOp (put 63) (.v false (oEv (sel 12)))),
              iGuard (sel 62) true (put 64) (iOp (put 64) (.v false (oEq (.one 1) (sel 63) ⟨fun _ => .int .i64 0⟩))),
              iOp (put 65) (.v false (oPick (sel 62) (sel 64) ⟨fun _ => .bool false⟩)),
              iOp (put 66) (.v false (oEv (sel 65))),
              iGuard (sel 66) true (put 67) (iOp (put 67) (.a (aBuildSlice 5 0 (rep 0 [.int .u8 0]) []))),
              iGuard (sel 66) true (put 68) (iOp (put 68) (.v false (oEv (sel 8)))),
              iGuard (sel 66) true (put 69) (iOp (put 69) (.e (eAppend 5 1 1 (sel 67) (sel 68)))),
              iGuard (sel 66) true (put 70) (iOp (put 70) (.v false (oEv (sel 11)))),
              iGuard (sel 66) true (put 71) (iOp (put 71) (.e (eAppend 5 1 1 (sel 69) (sel 70)))),
              iGuard (sel 66) true (put 72) (iOp (put 72) (.v false (oEv (sel 0)))),
              iGuard (sel 66) true (put 73) (iOp (put 73) (.e (eCallF 10 [(sel 71), (sel 72)]))),
              iOp (put 74) (.v false (oPick (sel 66) (sel 73) ⟨fun _ => .bool false⟩)),
              iOp (put 75) (.v false (oEv (sel 74))),
              iGuard (sel 75) true (put 76) (iOp (put 76) (.v false (oEv (sel 10)))),
              iGuard (sel 75) true (put 77) (iOp (put 77) (.v false (oEv (sel 0)))),
              iGuard (sel 75) true (put 78) (iOp (put 78) (.v false (oLenS (sel 77)))),
              iGuard (sel 75) true (put 79) (iOp (put 79) (.v false (oEv (sel 6)))),
              iGuard (sel 75) true (put 80) (iOp (put 80) (.v false (oInt2 fSub (sel 78) (sel 79)))),
              iGuard (sel 75) true (put 81) (iOp (put 81) (.v false (oEq (.one 1) (sel 76) (sel 80)))),
              iOp (put 82) (.v false (oPick (sel 75) (sel 81) ⟨fun _ => .bool false⟩)),
              iOp (put 83) (.v false (oEv (sel 82))),
              iGuard (sel 83) true (put 84) (iOp (put 84) (.v false (oEv (sel 14)))),
              iGuard (sel 83) true (put 85) (iOp (put 85) (.v false (oEq (.one 1) (sel 84) ⟨fun _ => .int .i64 2⟩))),
              iOp (put 86) (.v false (oPick (sel 83) (sel 85) ⟨fun _ => .bool false⟩)),
              iOp (put 87) (.v false (oEv (sel 86))),
              iGuard (sel 87) true (put 88) (iOp (put 88) (.v false (oEv (sel 16)))),
              iGuard (sel 87) true (put 89) (iOp (put 89) (.v false (oEq (.one 1) (sel 88) ⟨fun _ => .int .i64 0⟩))),
              iOp (put 90) (.v false (oPick (sel 87) (sel 89) ⟨fun _ => .bool false⟩)),
              iOp (put 91) (.v false (oEv (sel 90))),
              iGuard (sel 91) true (put 92) (iOp (put 92) (.v false (oEv (sel 15)))),
              iGuard (sel 91) true (put 93) (iOp (put 93) (.v false (oLenS (sel 92)))),
              iGuard (sel 91) true (put 94) (iOp (put 94) (.v false (oEq (.one 1) (sel 93) ⟨fun _ => .int .i64 0⟩))),
              iOp (put 95) (.v false (oPick (sel 91) (sel 94) ⟨fun _ => .bool false⟩)),
              iOp (put 4) (.v false (oEv (sel 95)))])
            (sEx .ret)))))))))))⟩
theorem d5 : denF Try.prog 5 = some c5 := by kernel_rfl
noncomputable def c6_0 : Vm.Sem := sSeq (sSeq (sRegion [iOp (put 37) (.v false (oEv (sel 8))),
    iOp (put 38) (.v false (oEv (sel 1))),
    iOp (put 39) (.v false (oLenS (sel 38))),
    iOp (put 40) (.v false (oInt2 fLss (sel 37) (sel 39)))])
  (sCond (sel 40)
    (sEx .normal)
    (sEx (.exit 0))))
 (sSeq (sBlock 1 (sSeq (sRegion [iOp (put 9) (.v false (oEv ⟨fun _ => .int .u32 0⟩))])
    (sSeq (sRegion [iOp (put 10) (.v false (oEv ⟨fun _ => .int .i64 0⟩))])
     (sSeq (sRegion [iOp (put 11) (.v false (oEv ⟨fun _ => .int .i64 0⟩))])
      (sSeq (sRegion [iOp (put 12) (.v false (oEv ⟨fun _ => .int .i64 0⟩))])
       (sSeq (sSeq (sRegion [iOp (put 43) (.v false (oEv (sel 1))),
           iOp (put 44) (.v false (oEv (sel 8))),
           iOp (put 45) (.v false (oIndexAddrS 2 (sel 43) (sel 44))),
           iOp (put 46) (.v false (oFieldAddr 0 (sel 45))),
           iOp (put 47) (.v true (oLoad1 (sel 46)))])
         (sBlock 2 (sSeq (sRegion [iOp (put 66) (.v false (oEq (.one 1) (sel 47) ⟨fun _ => .int .i64 0⟩)),
             iOp (put 65) (.v false (oEv (sel 66)))])
           (sCond (sel 65)
             (sSeq (sRegion [iOp (put 68) (.v false (oEv (sel 6))),
                iOp (put 69) (.e (eCallF 20 [(sel 68)])),
                iOp (put 67) (.v false (oEv (sel 69))),
                iOp (put 70) (.v false (oExtract (sel 67) 0)),
                iOp (put 71) (.v false (oExtract (sel 67) 1)),
                iOp (put 13) (.v false (oEv (sel 70))),
                iOp (put 14) (.v false (oEv (sel 71)))])
              (sSeq (sRegion [iOp (put 72) (.v false (oEv (sel 13))),
                 iOp (put 73) (.v false (oConvInt .i64 (sel 72))),
                 iOp (put 12) (.v false (oEv (sel 73)))])
               (sSeq (sRegion [iOp (put 74) (.v false (oEv (sel 14))),
                  iOp (put 10) (.v false (oEv (sel 74)))])
                (sRegion [iOp (put 76) (.v false (oEv (sel 7))),
                  iOp (put 77) (.e (eCallF 21 [(sel 76), ⟨fun _ => .int .i64 1⟩])),
                  iOp (put 75) (.v false (oEv (sel 77))),
                  iOp (put 78) (.v false (oExtract (sel 75) 0)),
                  iOp (put 79) (.v false (oExtract (sel 75) 1)),
                  iOp (put 80) (.v false (oExtract (sel 75) 2)),
                  iOp (put 9) (.v false (oEv (sel 78))),
                  iOp (put 7) (.v false (oEv (sel 79))),
                  iOp (put 11) (.v false (oEv (sel 80)))]))))
             (sSeq (sRegion [iOp (put 82) (.v false (oEq (.one 1) (sel 47) ⟨fun _ => .int .i64 1⟩)),
                iOp (put 81) (.v false (oEv (sel 82)))])
              (sCond (sel 81)
                (sSeq (sRegion [iOp (put 84) (.v false (oEv (sel 6))),
                   iOp (put 85) (.e (eCallF 22 [(sel 84)])),
                   iOp (put 83) (.v false (oEv (sel 85))),
                   iOp (put 86) (.v false (oExtract (sel 83) 0)),
                   iOp (put 87) (.v false (oExtract (sel 83) 1)),
                   iOp (put 15) (.v false (oEv (sel 86))),
                   iOp (put 16) (.v false (oEv (sel 87)))])
                 (sSeq (sRegion [iOp (put 88) (.v false (oEv (sel 15))),
                    iOp (put 89) (.v false (oConvInt .i64 (sel 88))),
                    iOp (put 12) (.v false (oEv (sel 89)))])
                  (sSeq (sRegion [iOp (put 90) (.v false (oEv (sel 16))),
                     iOp (put 10) (.v false (oEv (sel 90)))])
                   (sRegion [iOp (put 92) (.v false (oEv (sel 7))),
                     iOp (put 93) (.e (eCallF 21 [(sel 92), ⟨fun _ => .int .i64 2⟩])),
                     iOp (put 91) (.v false (oEv (sel 93))),
                     iOp (put 94) (.v false (oExtract (sel 91) 0)),
                     iOp (put 95) (.v false (oExtract (sel 91) 1)),
                     iOp (put 96) (.v false (oExtract (sel 91) 2)),
                     iOp (put 9) (.v false (oEv (sel 94))),
                     iOp (put 7) (.v false (oEv (sel 95))),
                     iOp (put 11) (.v false (oEv (sel 96)))]))))
                (sSeq (sRegion [iOp (put 98) (.v false (oEq (.one 1) (sel 47) ⟨fun _ => .int .i64 2⟩)),
                   iOp (put 97) (.v false (oEv (sel 98)))])
                 (sCond (sel 97)
                   (sSeq (sRegion [iOp (put 100) (.v false (oEv (sel 6))),
                      iOp (put 101) (.e (eCallF 23 [(sel 100)])),
                      iOp (put 99) (.v false (oEv (sel 101))),
                      iOp (put 102) (.v false (oExtract (sel 99) 0)),
                      iOp (put 103) (.v false (oExtract (sel 99) 1)),
                      iOp (put 17) (.v false (oEv (sel 102))),
                      iOp (put 18) (.v false (oEv (sel 103)))])
                    (sSeq (sRegion [iOp (put 104) (.v false (oEv (sel 17))),
                       iOp (put 105) (.v false (oConvInt .i64 (sel 104))),
                       iOp (put 12) (.v false (oEv (sel 105)))])
                     (sSeq (sRegion [iOp (put 106) (.v false (oEv (sel 18))),
                        iOp (put 10) (.v false (oEv (sel 106)))])
                      (sRegion [iOp (put 108) (.v false (oEv (sel 7))),
                        iOp (put 109) (.e (eCallF 21 [(sel 108), ⟨fun _ => .int .i64 4⟩])),
                        iOp (put 107) (.v false (oEv (sel 109))),
                        iOp (put 110) (.v false (oExtract (sel 107) 0)),
                        iOp (put 111) (.v false (oExtract (sel 107) 1)),
                        iOp (put 112) (.v false (oExtract (sel 107) 2)),
                        iOp (put 9) (.v false (oEv (sel 110))),
                        iOp (put 7) (.v false (oEv (sel 111))),
                        iOp (put 11) (.v false (oEv (sel 112)))]))))
                   (sSeq (sRegion [iOp (put 114) (.v false (oEq (.one 1) (sel 47) ⟨fun _ => .int .i64 3⟩)),
                      iOp (put 113) (.v false (oEv (sel 114)))])
                    (sCond (sel 113)
                      (sSeq (sRegion [iOp (put 116) (.v false (oEv (sel 6))),
                         iOp (put 117) (.v false (oEv (sel 1))),
                         iOp (put 118) (.v false (oEv (sel 8))),
                         iOp (put 119) (.v false (oIndexAddrS 2 (sel 117) (sel 118))),
                         iOp (put 120) (.v false (oFieldAddr 1 (sel 119))),
                         iOp (put 121) (.v true (oLoad1 (sel 120))),
                         iOp (put 122) (.e (eCallF 18 [(sel 116), (sel 121)])),
                         iOp (put 115) (.v false (oEv (sel 122))),
                         iOp (put 123) (.v false (oExtract (sel 115) 0)),
                         iOp (put 124) (.v false (oExtract (sel 115) 1)),
                         iOp (put 19) (.v false (oEv (sel 123))),
                         iOp (put 20) (.v false (oEv (sel 124)))])
                       (sSeq (sRegion [iOp (put 126) (.v false (oEv (sel 7))),
                          iOp (put 127) (.v false (oEv (sel 1))),
                          iOp (put 128) (.v false (oEv (sel 8))),
                          iOp (put 129) (.v false (oIndexAddrS 2 (sel 127) (sel 128))),
                          iOp (put 130) (.v false (oFieldAddr 1 (sel 129))),
                          iOp (put 131) (.v true (oLoad1 (sel 130))),
                          iOp (put 132) (.e (eCallF 24 [(sel 126), (sel 131)])),
                          iOp (put 125) (.v false (oEv (sel 132))),
                          iOp (put 133) (.v false (oExtract (sel 125) 0)),
                          iOp (put 134) (.v false (oExtract (sel 125) 1)),
                          iOp (put 135) (.v false (oExtract (sel 125) 2)),
                          iOp (put 21) (.v false (oEv (sel 133))),
                          iOp (put 22) (.v false (oEv (sel 134))),
                          iOp (put 23) (.v false (oEv (sel 135)))])
                        (sSeq (sSeq (sRegion [iOp (put 136) (.v false (oEv (sel 19))),
                            iOp (put 137) (.v false (oEv (sel 21))),
                            iOp (put 138) (.e (eCallF 10 [(sel 136), (sel 137)])),
                            iOp (put 139) (.v false (oNot (sel 138)))])
                          (sCond (sel 139)
                            (sSeq (sRegion [iOp (put 4) (.v false (oEv ⟨fun _ => .bool false⟩))])
                             (sEx .ret))
                            (sEx .normal)))
                         (sSeq (sRegion [iOp (put 140) (.v false (oEv (sel 20))),
                            iOp (put 10) (.v false (oEv (sel 140)))])
                          (sSeq (sRegion [iOp (put 141) (.v false (oEv (sel 22))),
                             iOp (put 7) (.v false (oEv (sel 141)))])
                           (sRegion [iOp (put 142) (.v false (oEv (sel 23))),
                             iOp (put 11) (.v false (oEv (sel 142)))]))))))
                      (sSeq (sRegion [iOp (put 48) (.v false (oEv (sel 6))),
                         iOp (put 49) (.v false (oEv (sel 1))),
                         iOp (put 50) (.v false (oEv (sel 8))),
                         iOp (put 51) (.v false (oIndexAddrS 2 (sel 49) (sel 50))),
                         iOp (put 52) (.v false (oFieldAddr 1 (sel 51))),
                         iOp (put 53) (.v true (oLoad1 (sel 52))),
                         iOp (put 54) (.e (eCallF 25 [(sel 48), (sel 53)])),
                         iOp (put 10) (.v false (oEv (sel 54)))])
                       (sRegion [iOp (put 56) (.v false (oEv (sel 7))),
                         iOp (put 57) (.v false (oEv (sel 1))),
                         iOp (put 58) (.v false (oEv (sel 8))),
                         iOp (put 59) (.v false (oIndexAddrS 2 (sel 57) (sel 58))),
                         iOp (put 60) (.v false (oFieldAddr 1 (sel 59))),
                         iOp (put 61) (.v true (oLoad1 (sel 60))),
                         iOp (put 62) (.e (eCallF 26 [(sel 56), (sel 61)])),
                         iOp (put 55) (.v false (oEv (sel 62))),
                         iOp (put 63) (.v false (oExtract (sel 55) 0)),
                         iOp (put 64) (.v false (oExtract (sel 55) 1)),
                         iOp (put 7) (.v false (oEv (sel 63))),
                         iOp (put 11) (.v false (oEv (sel 64)))]))))))))))))
        (sSeq (sRegion [iOp (put 143) (.v false (oEv (sel 12))),
           iOp (put 144) (.v false (oEv (sel 9))),
           iOp (put 145) (.v false (oConvInt .i64 (sel 144))),
           iOp (put 146) (.v false (oNe (.one 1) (sel 143) (sel 145))),
           iOp (put 147) (.v false (oEv (sel 146))),
           iGuard (sel 147) false (put 148) (iOp (put 148) (.v false (oEv (sel 10)))),
           iGuard (sel 147) false (put 149) (iOp (put 149) (.v false (oEv (sel 11)))),
           iGuard (sel 147) false (put 150) (iOp (put 150) (.v false (oNe (.one 1) (sel 148) (sel 149)))),
           iOp (put 151) (.v false (oPick (sel 147) ⟨fun _ => .bool true⟩ (sel 150))),
           iOp (put 152) (.v false (oEv (sel 151))),
           iGuard (sel 152) false (put 153) (iOp (put 153) (.v false (oEv (sel 6)))),
           iGuard (sel 152) false (put 154) (iOp (put 154) (.e (eCallF 19 [(sel 153)]))),
           iGuard (sel 152) false (put 155) (iOp (put 155) (.v false (oEv (sel 7)))),
           iGuard (sel 152) false (put 156) (iOp (put 156) (.v false (oLenS (sel 155)))),
           iGuard (sel 152) false (put 157) (iOp (put 157) (.v false (oNe (.one 1) (sel 154) (sel 156)))),
           iOp (put 158) (.v false (oPick (sel 152) ⟨fun _ => .bool true⟩ (sel 157)))])
         (sCond (sel 158)
           (sSeq (sRegion [iOp (put 4) (.v false (oEv ⟨fun _ => .bool false⟩))])
            (sEx .ret))
           (sEx .normal)))))))))
  (sRegion [iOp (put 41) (.v false (oEv (sel 8))),
    iOp (put 42) (.v false (oInt2 fAdd (sel 41) ⟨fun _ => .int .i64 1⟩)),
    iOp (put 8) (.v false (oEv (sel 42)))]))
/-- bollard/bollardlaw01.OctetReads -/
noncomputable def c6 : CF := ⟨160, [.tmp (sel 4)],
  sSeq (sRegion [iOp (put 4) (.v false (oEv ⟨fun _ => .bool false⟩))])
  (sSeq (sRegion [iOp (put 24) (.e (eCallF 9 [])),
     iOp (put 5) (.v false (oEv (sel 24)))])
   (sSeq (sSeq (sRegion [iOp (put 25) (.v false (oEv (sel 0))),
       iOp (put 26) (.v false (oLenS (sel 25))),
       iOp (put 27) (.v false (oInt2 fGtr (sel 26) ⟨fun _ => .int .i64 1000⟩)),
       iOp (put 28) (.v false (oEv (sel 27))),
       iGuard (sel 28) false (put 29) (iOp (put 29) (.v false (oEv (sel 1)))),
       iGuard (sel 28) false (put 30) (iOp (put 30) (.v false (oLenS (sel 29)))),
       iGuard (sel 28) false (put 31) (iOp (put 31) (.v false (oInt2 fGtr (sel 30) ⟨fun _ => .int .i64 200⟩))),
       iOp (put 32) (.v false (oPick (sel 28) ⟨fun _ => .bool true⟩ (sel 31)))])
     (sCond (sel 32)
       (sSeq (sRegion [iOp (put 33) (.v false (oEv (sel 5))),
          iOp (put 4) (.v false (oEv (sel 33)))])
        (sEx .ret))
       (sEx .normal)))
    (sSeq (sRegion [iOp (put 34) (.v false (oEv (sel 0))),
       iOp (put 35) (.e (eCallF 17 [(sel 34)])),
       iOp (put 6) (.v false (oEv (sel 35)))])
     (sSeq (sRegion [iOp (put 36) (.v false (oEv (sel 0))),
        iOp (put 7) (.v false (oEv (sel 36)))])
      (sSeq (sSeq (sRegion [iOp (put 8) (.v false (oEv ⟨fun _ => .int .i64 0⟩))])
        (sBlock 0 (sLoop c6_0)))
       (sSeq (sRegion [iOp (put 159) (.v false (oEv (sel 5))),
          iOp (put 4) (.v false (oEv (sel 159)))])
        (sEx .ret)))))))⟩
theorem d6 : denF Try.prog 6 = some c6 := by kernel_rfl
/-- bollard/bollardlaw01.OctetBack -/
noncomputable def c7 : CF := ⟨116, [.tmp (sel 8)],
  sSeq (sRegion [iOp (put 8) (.v false (oEv ⟨fun _ => .bool false⟩))])
  (sSeq (sRegion [iOp (put 21) (.e (eCallF 9 [])),
     iOp (put 9) (.v false (oEv (sel 21)))])
   (sSeq (sSeq (sRegion [iOp (put 22) (.v false (oEv (sel 3))),
       iOp (put 23) (.v false (oLenS (sel 22))),
       iOp (put 24) (.v false (oInt2 fGtr (sel 23) ⟨fun _ => .int .i64 2000⟩))])
     (sCond (sel 24)
       (sSeq (sRegion [iOp (put 25) (.v false (oEv (sel 9))),
          iOp (put 8) (.v false (oEv (sel 25)))])
        (sEx .ret))
       (sEx .normal)))
    (sSeq (sRegion [iOp (put 26) (.v false (oEv (sel 0))),
       iOp (put 27) (.e (eCallF 11 [⟨fun _ => .slice none 0 0⟩, (sel 26)])),
       iOp (put 28) (.v false (oEv (sel 1))),
       iOp (put 29) (.e (eCallF 13 [(sel 27), (sel 28)])),
       iOp (put 30) (.v false (oEv (sel 2))),
       iOp (put 31) (.e (eCallF 14 [(sel 29), (sel 30)])),
       iOp (put 32) (.v false (oEv (sel 3))),
       iOp (put 33) (.e (eAppend 5 1 1 (sel 31) (sel 32))),
       iOp (put 34) (.e (eCallF 15 [(sel 33)])),
       iOp (put 10) (.v false (oEv (sel 34)))])
     (sSeq (sRegion [iOp (put 35) (.v false (oEv (sel 10))),
        iOp (put 36) (.e (eCallF 17 [(sel 35)])),
        iOp (put 11) (.v false (oEv (sel 36)))])
      (sSeq (sRegion [iOp (put 38) (.v false (oEv (sel 11))),
         iOp (put 39) (.e (eCallF 20 [(sel 38)])),
         iOp (put 37) (.v false (oEv (sel 39))),
         iOp (put 40) (.v false (oExtract (sel 37) 0)),
         iOp (put 41) (.v false (oExtract (sel 37) 1)),
         iOp (put 12) (.v false (oEv (sel 40))),
         iOp (put 13) (.v false (oEv (sel 41)))])
       (sSeq (sRegion [iOp (put 43) (.v false (oEv (sel 11))),
          iOp (put 44) (.e (eCallF 22 [(sel 43)])),
          iOp (put 42) (.v false (oEv (sel 44))),
          iOp (put 45) (.v false (oExtract (sel 42) 0)),
          iOp (put 46) (.v false (oExtract (sel 42) 1)),
          iOp (put 14) (.v false (oEv (sel 45))),
          iOp (put 15) (.v false (oEv (sel 46)))])
        (sSeq (sRegion [iOp (put 48) (.v false (oEv (sel 11))),
           iOp (put 49) (.e (eCallF 23 [(sel 48)])),
           iOp (put 47) (.v false (oEv (sel 49))),
           iOp (put 50) (.v false (oExtract (sel 47) 0)),
           iOp (put 51) (.v false (oExtract (sel 47) 1)),
           iOp (put 16) (.v false (oEv (sel 50))),
           iOp (put 17) (.v false (oEv (sel 51)))])
         (sSeq (sRegion [iOp (put 53) (.v false (oEv (sel 11))),
            iOp (put 54) (.v false (oEv (sel 3))),
            iOp (put 55) (.v false (oLenS (sel 54))),
            iOp (put 56) (.e (eCallF 18 [(sel 53), (sel 55)])),
            iOp (put 52) (.v false (oEv (sel 56))),
            iOp (put 57) (.v false (oExtract (sel 52) 0)),
            iOp (put 58) (.v false (oExtract (sel 52) 1)),
            iOp (put 18) (.v false (oEv (sel 57))),
            iOp (put 19) (.v false (oEv (sel 58)))])
          (sSeq (sRegion [iOp (put 59) (.v false (oEv (sel 11))),
             iOp (put 60) (.v false (oEv (sel 3))),
             iOp (put 61) (.v false (oLenS (sel 60))),
             iOp (put 62) (.v false (oInt2 fAdd ⟨fun _ => .int .i64 7⟩ (sel 61))),
             iOp (put 63) (.e (eCallF 25 [(sel 59), (sel 62)])),
             iOp (put 20) (.v false (oEv (sel 63)))])
           (sSeq (sRegion [iOp (put 64) (.v false (oEv (sel 9))),
              iOp (put 65) (.v false (oEv (sel 64))),
              iGuard (sel 65) true (put 66) (iOp (put 66) (.v false (oEv (sel 12)))),
              iGuard (sel 65) true (put 67) (iOp (put 67) (.v false (oEv (sel 0)))),
              iGuard (sel 65) true (put 68) (iOp (put 68) (.v false (oEq (.one 1) (sel 66) (sel 67)))),
              iOp (put 69) (.v false (oPick (sel 65) (sel 68) ⟨fun _ => .bool false⟩)),
              iOp (put 70) (.v false (oEv (sel 69))),
              iGuard (sel 70) true (put 71) (iOp (put 71) (.v false (oEv (sel 14)))),
              iGuard (sel 70) true (put 72) (iOp (put 72) (.v false (oEv (sel 1)))),
              iGuard (sel 70) true (put 73) (iOp (put 73) (.v false (oEq (.one 1) (sel 71) (sel 72)))),
              iOp (put 74) (.v false (oPick (sel 70) (sel 73) ⟨fun _ => .bool false⟩)),
              iOp (put 75) (.v false (oEv (sel 74))),
              iGuard (sel 75) true (put 76) (iOp (put 76) (.v false (oEv (sel 16)))),
              iGuard (sel 75) true (put 77) (iOp (put 77) (.v false (oEv (sel 2)))),
              iGuard (sel 75) true (put 78) (iOp (put 78) (.v false (oEq (.one 1) (sel 76) (sel 77)))),
              iOp (put 79) (.v false (oPick (sel 75) (sel 78) ⟨fun _ => .bool false⟩)),
              iOp (put 80) (.v false (oEv (sel 79))),
              iGuard (sel 80) true (put 81) (iOp (put 81) (.v false (oEv (sel 18)))),
              iGuard (sel 80) true (put 82) (iOp (put 82) (.v false (oEv (sel 3)))),
              iGuard (sel 80) true (put 83) (iOp (put 83) (.e (eCallF 10 [(sel 81), (sel 82)]))),
              iOp (put 84) (.v false (oPick (sel 80) (sel 83) ⟨fun _ => .bool false⟩)),
              iOp (put 85) (.v false (oEv (sel 84))),
              iGuard (sel 85) true (put 86) (iOp (put 86) (.v false (oEv (sel 13)))),
              iGuard (sel 85) true (put 87) (iOp (put 87) (.v false (oEq (.one 1) (sel 86) ⟨fun _ => .int .i64 0⟩))),
              iOp (put 88) (.v false (oPick (sel 85) (sel 87) ⟨fun _ => .bool false⟩)),
              iOp (put 89) (.v false (oEv (sel 88))),
              iGuard (sel 89) true (put 90) (iOp (put 90) (.v false (oEv (sel 15)))),
              iGuard (sel 89) true (put 91) (iOp (put 91) (.v false (oEq (.one 1) (sel 90) ⟨fun _ => .int .i64 0⟩))),
              iOp (put 92) (.v false (oPick (sel 89) (sel 91) ⟨fun _ => .bool false⟩)),
              iOp (put 93) (.v false (oEv (sel 92))),
              iGuard (sel 93) true (put 94) (iOp (put 94) (.v false (oEv (sel 17)))),
              iGuard (sel 93) true (put 95) (iOp (put 95) (.v false (oEq (.one 1) (sel 94) ⟨fun _ => .int .i64 0⟩))),
              iOp (put 96) (.v false (oPick (sel 93) (sel 95) ⟨fun _ => .bool false⟩)),
              iOp (put 97) (.v false (oEv (sel 96))),
              iGuard (sel 97) true (put 98) (iOp (put 98) (.v false (oEv (sel 19)))),
              iGuard (sel 97) true (put 99) (iOp (put 99) (.v false (oEq (.one 1) (sel 98) ⟨fun _ => .int .i64 0⟩))),
              iOp (put 100) (.v false (oPick (sel 97) (sel 99) ⟨fun _ => .bool false⟩)),
              iOp (put 101) (.v false (oEv (sel 100))),
              iGuard (sel 101) true (put 102) (iOp (put 102) (.v false (oEv (sel 20)))),
              iGuard (sel 101) true (put 103) (iOp (put 103) (.v false (oEq (.one 1) (sel 102) ⟨fun _ => .int .i64 0⟩))),
              iOp (put 104) (.v false (oPick (sel 101) (sel 103) ⟨fun _ => .bool false⟩)),
              iOp (put 105) (.v false (oEv (sel 104))),
              iGuard (sel 105) true (put 106) (iOp (put 106) (.v false (oEv (sel 11)))),
              iGuard (sel 105) true (put 107) (iOp (put 107) (.e (eCallF 19 [(sel 106)]))),
              iGuard (sel 105) true (put 108) (iOp (put 108) (.v false (oEq (.one 1) (sel 107) ⟨fun _ => .int .i64 0⟩))),
              iOp (put 109) (.v false (oPick (sel 105) (sel 108) ⟨fun _ => .bool false⟩)),
              iOp (put 110) (.v false (oEv (sel 109))),
              iGuard (sel 110) true (put 111) (iOp (put 111) (.v false (oEv (sel 10)))),
              iGuard (sel 110) true (put 112) (iOp (put 112) (.v false (oLenS (sel 111)))),
              iGuard (sel 110) true (put 113) (iOp (put 113) (.v false (oInt2 fRem (sel 112) ⟨fun _ => .int .i64 4⟩))),
              iGuard (sel 110) true (put 114) (iOp (put 114) (.v false (oEq (.one 1) (sel 113) ⟨fun _ => .int .i64 0⟩))),
              iOp (put 115) (.v false (oPick (sel 110) (sel 114) ⟨fun _ => .bool false⟩)),
              iOp (put 8) (.v false (oEv (sel 115)))])
            (sEx .ret)))))))))))⟩
theorem d7 : denF Try.prog 7 = some c7 := by kernel_rfl
/-- bollard/bollardlaw01.OctetNone -/
noncomputable def c8 : CF := ⟨107, [.tmp (sel 4)],
  sSeq (sRegion [iOp (put 4) (.v false (oEv ⟨fun _ => .bool false⟩))])
  (sSeq (sRegion [iOp (put 17) (.e (eCallF 9 [])),
     iOp (put 5) (.v false (oEv (sel 17)))])
   (sSeq (sRegion [iOp (put 6) (.v false (oEv ⟨fun _ => .pointer none⟩))])
    (sSeq (sRegion [iOp (put 19) (.v false (oEv (sel 6))),
       iOp (put 20) (.e (eCallF 20 [(sel 19)])),
       iOp (put 18) (.v false (oEv (sel 20))),
       iOp (put 21) (.v false (oExtract (sel 18) 0)),
       iOp (put 22) (.v false (oExtract (sel 18) 1)),
       iOp (put 7) (.v false (oEv (sel 21))),
       iOp (put 8) (.v false (oEv (sel 22)))])
     (sSeq (sRegion [iOp (put 24) (.v false (oEv (sel 6))),
        iOp (put 25) (.e (eCallF 22 [(sel 24)])),
        iOp (put 23) (.v false (oEv (sel 25))),
        iOp (put 26) (.v false (oExtract (sel 23) 0)),
        iOp (put 27) (.v false (oExtract (sel 23) 1)),
        iOp (put 9) (.v false (oEv (sel 26))),
        iOp (put 10) (.v false (oEv (sel 27)))])
      (sSeq (sRegion [iOp (put 29) (.v false (oEv (sel 6))),
         iOp (put 30) (.e (eCallF 23 [(sel 29)])),
         iOp (put 28) (.v false (oEv (sel 30))),
         iOp (put 31) (.v false (oExtract (sel 28) 0)),
         iOp (put 32) (.v false (oExtract (sel 28) 1)),
         iOp (put 11) (.v false (oEv (sel 31))),
         iOp (put 12) (.v false (oEv (sel 32)))])
       (sSeq (sRegion [iOp (put 34) (.v false (oEv (sel 6))),
          iOp (put 35) (.v false (oEv (sel 0))),
          iOp (put 36) (.e (eCallF 18 [(sel 34), (sel 35)])),
          iOp (put 33) (.v false (oEv (sel 36))),
          iOp (put 37) (.v false (oExtract (sel 33) 0)),
          iOp (put 38) (.v false (oExtract (sel 33) 1)),
          iOp (put 13) (.v false (oEv (sel 37))),
          iOp (put 14) (.v false (oEv (sel 38)))])
        (sSeq (sRegion [iOp (put 39) (.a (aMakeSlice 5 1 [.int .u8 0] ⟨fun _ => .int .i64 0⟩ ⟨fun _ => .int .i64 16⟩)),
           iOp (put 40) (.a (aBuildSlice 5 1 (rep 1 [.int .u8 0]) [(0, 1, ⟨fun _ => .int .u8 7⟩)])),
           iOp (put 41) (.e (eAppend 5 1 1 (sel 39) (sel 40))),
           iOp (put 15) (.v false (oEv (sel 41)))])
         (sSeq (sRegion [iOp (put 42) (.v false (oEv (sel 15))),
            iOp (put 43) (.e (eCallF 14 [(sel 42), ⟨fun _ => .int .u32 5⟩]))])
          (sSeq (sRegion [iOp (put 44) (.v false (oEv (sel 15))),
             iOp (put 45) (.e (eCallF 15 [(sel 44)]))])
           (sSeq (sRegion [iOp (put 46) (.v false (oEv (sel 15))),
              iOp (put 47) (.e (eCallF 11 [(sel 46), ⟨fun _ => .int .u8 9⟩])),
              iOp (put 16) (.v false (oEv (sel 47)))])
            (sSeq (sRegion [iOp (put 48) (.v false (oEv (sel 15))),
               iOp (put 49) (.e (eCallF 11 [(sel 48), ⟨fun _ => .int .u8 8⟩]))])
             (sSeq (sRegion [iOp (put 50) (.v false (oEv (sel 5))),
                iOp (put 51) (.v false (oEv (sel 50))),
                iGuard (sel 51) true (put 52) (iOp (put 52) (.v false (oEv (sel 7)))),
                iGuard (sel 51) true (put 53) (iOp (put 53) (.v false (oConvInt .i64 (sel 52)))),
                iGuard (sel 51) true (put 54) (iOp (put 54) (.v false (oEv (sel 9)))),
                iGuard (sel 51) true (put 55) (iOp (put 55) (.v false (oConvInt .i64 (sel 54)))),
                iGuard (sel 51) true (put 56) (iOp (put 56) (.v false (oInt2 fAdd (sel 53) (sel 55)))),
                iGuard (sel 51) true (put 57) (iOp (put 57) (.v false (oEv (sel 11)))),
                iGuard (sel 51) true (put 58) (iOp (put 58) (.v false (oConvInt .i64 (sel 57)))),
                iGuard (sel 51) true (put 59) (iOp (put 59) (.v false (oInt2 fAdd (sel 56) (sel 58)))),
                iGuard (sel 51) true (put 60) (iOp (put 60) (.v false (oEv (sel 13)))),
                iGuard (sel 51) true (put 61) (iOp (put 61) (.v false (oLenS (sel 60)))),
                iGuard (sel 51) true (put 62) (iOp (put 62) (.v false (oInt2 fAdd (sel 59) (sel 61)))),
                iGuard (sel 51) true (put 63) (iOp (put 63) (.v false (oEv (sel 6)))),
                iGuard (sel 51) true (put 64) (iOp (put 64) (.e (eCallF 19 [(sel 63)]))),
                iGuard (sel 51) true (put 65) (iOp (put 65) (.v false (oInt2 fAdd (sel 62) (sel 64)))),
                iGuard (sel 51) true (put 66) (iOp (put 66) (.v false (oEq (.one 1) (sel 65) ⟨fun _ => .int .i64 0⟩))),
                iOp (put 67) (.v false (oPick (sel 51) (sel 66) ⟨fun _ => .bool false⟩)),
                iOp (put 68) (.v false (oEv (sel 67))),
                iGuard (sel 68) true (put 69) (iOp (put 69) (.v false (oEv (sel 8)))),
                iGuard (sel 68) true (put 70) (iOp (put 70) (.v false (oEq (.one 1) (sel 69) ⟨fun _ => .int .i64 1⟩))),
                iOp (put 71) (.v false (oPick (sel 68) (sel 70) ⟨fun _ => .bool false⟩)),
                iOp (put 72) (.v false (oEv (sel 71))),
                iGuard (sel 72) true (put 73) (iOp (put 73) (.v false (oEv (sel 10)))),
                iGuard (sel 72) true (put 74) (iOp (put 74) (.v false (oEq (.one 1) (sel 73) ⟨fun _ => .int .i64 1⟩))),
                iOp (put 75) (.v false (oPick (sel 72) (sel 74) ⟨fun _ => .bool false⟩)),
                iOp (put 76) (.v false (oEv (sel 75))),
                iGuard (sel 76) true (put 77) (iOp (put 77) (.v false (oEv (sel 12)))),
                iGuard (sel 76) true (put 78) (iOp (put 78) (.v false (oEq (.one 1) (sel 77) ⟨fun _ => .int .i64 1⟩))),
                iOp (put 79) (.v false (oPick (sel 76) (sel 78) ⟨fun _ => .bool false⟩)),
                iOp (put 80) (.v false (oEv (sel 79))),
                iGuard (sel 80) true (put 81) (iOp (put 81) (.v false (oEv (sel 14)))),
                iGuard (sel 80) true (put 82) (iOp (put 82) (.v false (oEq (.one 1) (sel 81) ⟨fun _ => .int .i64 1⟩))),
                iOp (put 83) (.v false (oPick (sel 80) (sel 82) ⟨fun _ => .bool false⟩)),
                iOp (put 84) (.v false (oEv (sel 83))),
                iGuard (sel 84) true (put 85) (iOp (put 85) (.v false (oEv (sel 6)))),
                iGuard (sel 84) true (put 86) (iOp (put 86) (.v false (oEv (sel 0)))),
                iGuard (sel 84) true (put 87) (iOp (put 87) (.e (eCallF 25 [(sel 85), (sel 86)]))),
                iGuard (sel 84) true (put 88) (iOp (put 88) (.v false (oEq (.one 1) (sel 87) ⟨fun _ => .int .i64 1⟩))),
                iOp (put 89) (.v false (oPick (sel 84) (sel 88) ⟨fun _ => .bool false⟩)),
                iOp (put 90) (.v false (oEv (sel 89))),
                iGuard (sel 90) true (put 91) (iOp (put 91) (.v false (oEv (sel 15)))),
                iGuard (sel 90) true (put 92) (iOp (put 92) (.a (aBuildSlice 5 1 (rep 1 [.int .u8 0]) [(0, 1, ⟨fun _ => .int .u8 7⟩)]))),
                iGuard (sel 90) true (put 93) (iOp (put 93) (.e (eCallF 10 [(sel 91), (sel 92)]))),
                iOp (put 94) (.v false (oPick (sel 90) (sel 93) ⟨fun _ => .bool false⟩)),
                iOp (put 95) (.v false (oEv (sel 94))),
                iGuard (sel 95) true (put 96) (iOp (put 96) (.v false (oEv (sel 16)))),
                iGuard (sel 95) true (put 97) (iOp (put 97) (.a (aBuildSlice 5 2 (rep 2 [.int .u8 0]) [(0, 1, ⟨fun _ => .int .u8 7⟩), (1, 1, ⟨fun _ => .int .u8 9⟩)]))),
                iGuard (sel 95) true (put 98) (iOp (put 98) (.e (eCallF 10 [(sel 96), (sel 97)]))),
                iOp (put 99) (.v false (oPick (sel 95) (sel 98) ⟨fun _ => .bool false⟩)),
                iOp (put 100) (.v false (oEv (sel 99))),
                iGuard (sel 100) true (put 101) (iOp (put 101) (.v false (oEv (sel 1)))),
                iGuard (sel 100) true (put 102) (iOp (put 102) (.e (eCallF 11 [(sel 101), ⟨fun _ => .int .u8 1⟩]))),
                iGuard (sel 100) true (put 103) (iOp (put 103) (.v false (oEv (sel 1)))),
                iGuard (sel 100) true (put 104) (iOp (put 104) (.e (eCallF 12 [(sel 103), ⟨fun _ => .int .u32 1⟩, ⟨fun _ => .int .i64 1⟩]))),
                iGuard (sel 100) true (put 105) (iOp (put 105) (.e (eCallF 10 [(sel 102), (sel 104)]))),
                iOp (put 106) (.v false (oPick (sel 100) (sel 105) ⟨fun _ => .bool false⟩)),
                iOp (put 4) (.v false (oEv (sel 106)))])
              (sEx .ret)))))))))))))⟩
theorem d8 : denF Try.prog 8 = some c8 := by kernel_rfl
/-- bollard/bollardlaw01.awake -/
noncomputable def c9 : CF := ⟨26, [.tmp (sel 0)],
  sSeq (sRegion [iOp (put 0) (.v false (oEv ⟨fun _ => .bool false⟩))])
  (sSeq (sRegion [iOp (put 4) (.a (aBuildSlice 5 2 (rep 2 [.int .u8 0]) [(0, 1, ⟨fun _ => .int .u8 1⟩), (1, 1, ⟨fun _ => .int .u8 2⟩)])),
     iOp (put 5) (.e (eCallF 17 [(sel 4)])),
     iOp (put 6) (.e (eCallF 22 [(sel 5)])),
     iOp (put 3) (.v false (oEv (sel 6))),
     iOp (put 7) (.v false (oExtract (sel 3) 0)),
     iOp (put 8) (.v false (oExtract (sel 3) 1)),
     iOp (put 1) (.v false (oEv (sel 7))),
     iOp (put 2) (.v false (oEv (sel 8)))])
   (sSeq (sRegion [iOp (put 9) (.e (eCallF 13 [⟨fun _ => .slice none 0 0⟩, ⟨fun _ => .int .u16 258⟩])),
      iOp (put 10) (.a (aBuildSlice 5 2 (rep 2 [.int .u8 0]) [(0, 1, ⟨fun _ => .int .u8 1⟩), (1, 1, ⟨fun _ => .int .u8 2⟩)])),
      iOp (put 11) (.e (eCallF 10 [(sel 9), (sel 10)])),
      iOp (put 12) (.v false (oEv (sel 11))),
      iGuard (sel 12) true (put 13) (iOp (put 13) (.a (aBuildSlice 5 2 (rep 2 [.int .u8 0]) [(0, 1, ⟨fun _ => .int .u8 1⟩), (1, 1, ⟨fun _ => .int .u8 2⟩)]))),
      iGuard (sel 12) true (put 14) (iOp (put 14) (.e (eCallF 15 [(sel 13)]))),
      iGuard (sel 12) true (put 15) (iOp (put 15) (.a (aBuildSlice 5 4 (rep 4 [.int .u8 0]) [(0, 1, ⟨fun _ => .int .u8 1⟩), (1, 1, ⟨fun _ => .int .u8 2⟩), (2, 1, ⟨fun _ => .int .u8 0⟩), (3, 1, ⟨fun _ => .int .u8 0⟩)]))),
      iGuard (sel 12) true (put 16) (iOp (put 16) (.e (eCallF 10 [(sel 14), (sel 15)]))),
      iOp (put 17) (.v false (oPick (sel 12) (sel 16) ⟨fun _ => .bool false⟩)),
      iOp (put 18) (.v false (oEv (sel 17))),
      iGuard (sel 18) true (put 19) (iOp (put 19) (.v false (oEv (sel 1)))),
      iGuard (sel 18) true (put 20) (iOp (put 20) (.v false (oEq (.one 1) (sel 19) ⟨fun _ => .int .u16 258⟩))),
      iOp (put 21) (.v false (oPick (sel 18) (sel 20) ⟨fun _ => .bool false⟩)),
      iOp (put 22) (.v false (oEv (sel 21))),
      iGuard (sel 22) true (put 23) (iOp (put 23) (.v false (oEv (sel 2)))),
      iGuard (sel 22) true (put 24) (iOp (put 24) (.v false (oEq (.one 1) (sel 23) ⟨fun _ => .int .i64 0⟩))),
      iOp (put 25) (.v false (oPick (sel 22) (sel 24) ⟨fun _ => .bool false⟩)),
      iOp (put 0) (.v false (oEv (sel 25)))])
    (sEx .ret)))⟩
theorem d9 : denF Try.prog 9 = some c9 := by kernel_rfl
/-- bollard/bollardlaw01.same -/
noncomputable def c10 : CF := ⟨10, [.tmp (sel 4)],
  sSeq (sRegion [iOp (put 4) (.v false (oEv ⟨fun _ => .bool false⟩))])
  (sSeq (sRegion [iOp (put 5) (.v false (oEv (sel 0))),
     iOp (put 6) (.v true (oToString (sel 5))),
     iOp (put 7) (.v false (oEv (sel 1))),
     iOp (put 8) (.v true (oToString (sel 7))),
     iOp (put 9) (.v false (oEq (.one 2) (sel 6) (sel 8))),
     iOp (put 4) (.v false (oEv (sel 9)))])
   (sEx .ret))⟩
theorem d10 : denF Try.prog 10 = some c10 := by kernel_rfl
/-- bollard/octet.Put8 -/
noncomputable def c11 : CF := ⟨9, [.tmp (sel 4)],
  sSeq (sRegion [iOp (put 4) (.v false (oEv ⟨fun _ => .slice none 0 0⟩))])
  (sSeq (sRegion [iOp (put 5) (.v false (oEv (sel 0))),
     iOp (put 6) (.v false (oEv (sel 1))),
     iOp (put 7) (.a (aBuildSlice 5 1 (rep 1 [.int .u8 0]) [(0, 1, (sel 6))])),
     iOp (put 8) (.e (eCallF 27 [(sel 5), (sel 7)])),
     iOp (put 4) (.v false (oEv (sel 8)))])
   (sEx .ret))⟩
theorem d11 : denF Try.prog 11 = some c11 := by kernel_rfl
noncomputable def c12_0 : Vm.Sem := sSeq (sSeq (sRegion [iOp (put 14) (.v false (oEv (sel 8))),
    iOp (put 15) (.v false (oInt2 fGeq (sel 14) ⟨fun _ => .int .i64 0⟩))])
  (sCond (sel 15)
    (sEx .normal)
    (sEx (.exit 0))))
 (sSeq (sBlock 1 (sRegion [iOp (put 18) (.v false (oEv (sel 7))),
     iOp (put 19) (.v false (oEv (sel 1))),
     iOp (put 20) (.v false (oEv (sel 8))),
     iOp (put 21) (.v false (oInt2 fMul ⟨fun _ => .int .i64 8⟩ (sel 20))),
     iOp (put 22) (.v false (oConvInt .u64 (sel 21))),
     iOp (put 23) (.v false (oSh fShr (sel 19) (sel 22))),
     iOp (put 24) (.v false (oConvInt .u8 (sel 23))),
     iOp (put 25) (.a (aBuildSlice 5 1 (rep 1 [.int .u8 0]) [(0, 1, (sel 24))])),
     iOp (put 26) (.e (eAppend 5 1 1 (sel 18) (sel 25))),
     iOp (put 7) (.v false (oEv (sel 26)))]))
  (sRegion [iOp (put 16) (.v false (oEv (sel 8))),
    iOp (put 17) (.v false (oInt2 fSub (sel 16) ⟨fun _ => .int .i64 1⟩)),
    iOp (put 8) (.v false (oEv (sel 17)))]))
/-- bollard/bollardref01.Put -/
noncomputable def c12 : CF := ⟨28, [.tmp (sel 6)],
  sSeq (sRegion [iOp (put 6) (.v false (oEv ⟨fun _ => .slice none 0 0⟩))])
  (sSeq (sRegion [iOp (put 7) (.v false (oEv ⟨fun _ => .slice none 0 0⟩))])
   (sSeq (sRegion [iOp (put 9) (.v false (oEv (sel 7))),
      iOp (put 10) (.v false (oEv (sel 0))),
      iOp (put 11) (.e (eAppend 5 1 1 (sel 9) (sel 10))),
      iOp (put 7) (.v false (oEv (sel 11)))])
    (sSeq (sSeq (sRegion [iOp (put 12) (.v false (oEv (sel 2))),
        iOp (put 13) (.v false (oInt2 fSub (sel 12) ⟨fun _ => .int .i64 1⟩)),
        iOp (put 8) (.v false (oEv (sel 13)))])
      (sBlock 0 (sLoop c12_0)))
     (sSeq (sRegion [iOp (put 27) (.v false (oEv (sel 7))),
        iOp (put 6) (.v false (oEv (sel 27)))])
      (sEx .ret)))))⟩
theorem d12 : denF Try.prog 12 = some c12 := by kernel_rfl
/-- bollard/octet.Put16 -/
noncomputable def c13 : CF := ⟨13, [.tmp (sel 4)],
  sSeq (sRegion [iOp (put 4) (.v false (oEv ⟨fun _ => .slice none 0 0⟩))])
  (sSeq (sRegion [iOp (put 5) (.v false (oEv (sel 0))),
     iOp (put 6) (.v false (oEv (sel 1))),
     iOp (put 7) (.v false (oSh fShr (sel 6) ⟨fun _ => .int .u64 8⟩)),
     iOp (put 8) (.v false (oConvInt .u8 (sel 7))),
     iOp (put 9) (.v false (oEv (sel 1))),
     iOp (put 10) (.v false (oConvInt .u8 (sel 9))),
     iOp (put 11) (.a (aBuildSlice 5 2 (rep 2 [.int .u8 0]) [(0, 1, (sel 8)), (1, 1, (sel 10))])),
     iOp (put 12) (.e (eCallF 27 [(sel 5), (sel 11)])),
     iOp (put 4) (.v false (oEv (sel 12)))])
   (sEx .ret))⟩
theorem d13 : denF Try.prog 13 = some c13 := by kernel_rfl
/-- bollard/octet.Put32 -/
noncomputable def c14 : CF := ⟨19, [.tmp (sel 4)],
  sSeq (sRegion [iOp (put 4) (.v false (oEv ⟨fun _ => .slice none 0 0⟩))])
  (sSeq (sRegion [iOp (put 5) (.v false (oEv (sel 0))),
     iOp (put 6) (.v false (oEv (sel 1))),
     iOp (put 7) (.v false (oSh fShr (sel 6) ⟨fun _ => .int .u64 24⟩)),
     iOp (put 8) (.v false (oConvInt .u8 (sel 7))),
     iOp (put 9) (.v false (oEv (sel 1))),
     iOp (put 10) (.v false (oSh fShr (sel 9) ⟨fun _ => .int .u64 16⟩)),
     iOp (put 11) (.v false (oConvInt .u8 (sel 10))),
     iOp (put 12) (.v false (oEv (sel 1))),
     iOp (put 13) (.v false (oSh fShr (sel 12) ⟨fun _ => .int .u64 8⟩)),
     iOp (put 14) (.v false (oConvInt .u8 (sel 13))),
     iOp (put 15) (.v false (oEv (sel 1))),
     iOp (put 16) (.v false (oConvInt .u8 (sel 15))),
     iOp (put 17) (.a (aBuildSlice 5 4 (rep 4 [.int .u8 0]) [(0, 1, (sel 8)), (1, 1, (sel 11)), (2, 1, (sel 14)), (3, 1, (sel 16))])),
     iOp (put 18) (.e (eCallF 27 [(sel 5), (sel 17)])),
     iOp (put 4) (.v false (oEv (sel 18)))])
   (sEx .ret))⟩
theorem d14 : denF Try.prog 14 = some c14 := by kernel_rfl
/-- bollard/octet.Pad -/
noncomputable def c15 : CF := ⟨9, [.tmp (sel 2)],
  sSeq (sRegion [iOp (put 2) (.v false (oEv ⟨fun _ => .slice none 0 0⟩))])
  (sSeq (sRegion [iOp (put 3) (.v false (oEv (sel 0))),
     iOp (put 4) (.v false (oEv (sel 0))),
     iOp (put 5) (.v false (oLenS (sel 4))),
     iOp (put 6) (.e (eCallF 28 [(sel 5)])),
     iOp (put 7) (.a (aMakeSlice 5 1 [.int .u8 0] (sel 6) (sel 6))),
     iOp (put 8) (.e (eCallF 27 [(sel 3), (sel 7)])),
     iOp (put 2) (.v false (oEv (sel 8)))])
   (sEx .ret))⟩
theorem d15 : denF Try.prog 15 = some c15 := by kernel_rfl
noncomputable def c16_0 : Vm.Sem := sSeq (sSeq (sRegion [iOp (put 7) (.v false (oEv (sel 3))),
    iOp (put 8) (.v false (oLenS (sel 7))),
    iOp (put 9) (.v false (oInt2 fRem (sel 8) ⟨fun _ => .int .i64 4⟩)),
    iOp (put 10) (.v false (oNe (.one 1) (sel 9) ⟨fun _ => .int .i64 0⟩))])
  (sCond (sel 10)
    (sEx .normal)
    (sEx (.exit 0))))
 (sBlock 1 (sRegion [iOp (put 11) (.v false (oEv (sel 3))),
    iOp (put 12) (.a (aBuildSlice 5 1 (rep 1 [.int .u8 0]) [(0, 1, ⟨fun _ => .int .u8 0⟩)])),
    iOp (put 13) (.e (eAppend 5 1 1 (sel 11) (sel 12))),
    iOp (put 3) (.v false (oEv (sel 13)))]))
/-- bollard/bollardref01.Pad -/
noncomputable def c16 : CF := ⟨15, [.tmp (sel 2)],
  sSeq (sRegion [iOp (put 2) (.v false (oEv ⟨fun _ => .slice none 0 0⟩))])
  (sSeq (sRegion [iOp (put 3) (.v false (oEv ⟨fun _ => .slice none 0 0⟩))])
   (sSeq (sRegion [iOp (put 4) (.v false (oEv (sel 3))),
      iOp (put 5) (.v false (oEv (sel 0))),
      iOp (put 6) (.e (eAppend 5 1 1 (sel 4) (sel 5))),
      iOp (put 3) (.v false (oEv (sel 6)))])
    (sSeq (sBlock 0 (sLoop c16_0))
     (sSeq (sRegion [iOp (put 14) (.v false (oEv (sel 3))),
        iOp (put 2) (.v false (oEv (sel 14)))])
      (sEx .ret)))))⟩
theorem d16 : denF Try.prog 16 = some c16 := by kernel_rfl
/-- bollard/octet.New -/
noncomputable def c17 : CF := ⟨7, [.tmp (sel 2)],
  sSeq (sRegion [iOp (put 2) (.v false (oEv ⟨fun _ => .pointer none⟩))])
  (sSeq (sRegion [iOp (put 3) (.v false (oEv (sel 0))),
     iOp (put 4) (.e (eCallF 29 [(sel 3)])),
     iOp (put 5) (.v false (oBuild [.slice none 0 0] [(0, 1, (sel 4))])),
     iOp (put 6) (.a (aBox 62 (sel 5))),
     iOp (put 2) (.v false (oEv (sel 6)))])
   (sEx .ret))⟩
theorem d17 : denF Try.prog 17 = some c17 := by kernel_rfl
/-- (*bollard/octet.Reader).Bytes -/
noncomputable def c18 : CF := ⟨17, [.tmp (sel 4), .tmp (sel 5)],
  sSeq (sRegion [iOp (put 4) (.v false (oEv ⟨fun _ => .slice none 0 0⟩)),
    iOp (put 5) (.v false (oEv ⟨fun _ => .int .i64 0⟩))])
  (sSeq (sRegion [iOp (put 9) (.v false (oEv (sel 0))),
     iOp (put 10) (.v false (oEv (sel 1))),
     iOp (put 11) (.e (eCallF 30 [(sel 9), (sel 10)])),
     iOp (put 8) (.v false (oEv (sel 11))),
     iOp (put 12) (.v false (oExtract (sel 8) 0)),
     iOp (put 13) (.v false (oExtract (sel 8) 1)),
     iOp (put 6) (.v false (oEv (sel 12))),
     iOp (put 7) (.v false (oEv (sel 13)))])
   (sSeq (sRegion [iOp (put 14) (.v false (oEv (sel 6))),
      iOp (put 15) (.e (eCallF 29 [(sel 14)])),
      iOp (put 16) (.v false (oEv (sel 7))),
      iOp (put 4) (.v false (oEv (sel 15))),
      iOp (put 5) (.v false (oEv (sel 16)))])
    (sEx .ret)))⟩
theorem d18 : denF Try.prog 18 = some c18 := by kernel_rfl
/-- (*bollard/octet.Reader).Left -/
noncomputable def c19 : CF := ⟨10, [.tmp (sel 2)],
  sSeq (sRegion [iOp (put 2) (.v false (oEv ⟨fun _ => .int .i64 0⟩))])
  (sSeq (sSeq (sRegion [iOp (put 3) (.v false (oEv (sel 0))),
      iOp (put 4) (.v false (oEq (.one 3) (sel 3) ⟨fun _ => .pointer none⟩))])
    (sCond (sel 4)
      (sSeq (sRegion [iOp (put 2) (.v false (oEv ⟨fun _ => .int .i64 0⟩))])
       (sEx .ret))
      (sEx .normal)))
   (sSeq (sRegion [iOp (put 5) (.v false (oEv (sel 0))),
      iOp (put 6) (.v false (oNilCheck (sel 5))),
      iOp (put 7) (.v false (oFieldAddr 0 (sel 6))),
      iOp (put 8) (.v true (oLoad1 (sel 7))),
      iOp (put 9) (.v false (oLenS (sel 8))),
      iOp (put 2) (.v false (oEv (sel 9)))])
    (sEx .ret)))⟩
theorem d19 : denF Try.prog 19 = some c19 := by kernel_rfl
/-- (*bollard/octet.Reader).Get8 -/
noncomputable def c20 : CF := ⟨17, [.tmp (sel 2), .tmp (sel 3)],
  sSeq (sRegion [iOp (put 2) (.v false (oEv ⟨fun _ => .int .u8 0⟩)),
    iOp (put 3) (.v false (oEv ⟨fun _ => .int .i64 0⟩))])
  (sSeq (sRegion [iOp (put 7) (.v false (oEv (sel 0))),
     iOp (put 8) (.e (eCallF 30 [(sel 7), ⟨fun _ => .int .i64 1⟩])),
     iOp (put 6) (.v false (oEv (sel 8))),
     iOp (put 9) (.v false (oExtract (sel 6) 0)),
     iOp (put 10) (.v false (oExtract (sel 6) 1)),
     iOp (put 4) (.v false (oEv (sel 9))),
     iOp (put 5) (.v false (oEv (sel 10)))])
   (sSeq (sSeq (sRegion [iOp (put 11) (.v false (oEv (sel 5))),
       iOp (put 12) (.v false (oNe (.one 1) (sel 11) ⟨fun _ => .int .i64 0⟩))])
     (sCond (sel 12)
       (sSeq (sRegion [iOp (put 13) (.v false (oEv (sel 5))),
          iOp (put 2) (.v false (oEv ⟨fun _ => .int .u8 0⟩)),
          iOp (put 3) (.v false (oEv (sel 13)))])
        (sEx .ret))
       (sEx .normal)))
    (sSeq (sRegion [iOp (put 14) (.v false (oEv (sel 4))),
       iOp (put 15) (.v false (oIndexAddrS 1 (sel 14) ⟨fun _ => .int .i64 0⟩)),
       iOp (put 16) (.v true (oLoad1 (sel 15))),
       iOp (put 2) (.v false (oEv (sel 16))),
       iOp (put 3) (.v false (oEv ⟨fun _ => .int .i64 0⟩))])
     (sEx .ret))))⟩
theorem d20 : denF Try.prog 20 = some c20 := by kernel_rfl
noncomputable def c21_0 : Vm.Sem := sSeq (sSeq (sRegion [iOp (put 14) (.v false (oEv (sel 8))),
    iOp (put 15) (.v false (oEv (sel 1))),
    iOp (put 16) (.v false (oInt2 fLss (sel 14) (sel 15)))])
  (sCond (sel 16)
    (sEx .normal)
    (sEx (.exit 0))))
 (sSeq (sBlock 1 (sRegion [iOp (put 19) (.v false (oEv (sel 7))),
     iOp (put 20) (.v false (oSh fShl (sel 19) ⟨fun _ => .int .u64 8⟩)),
     iOp (put 21) (.v false (oEv (sel 0))),
     iOp (put 22) (.v false (oEv (sel 8))),
     iOp (put 23) (.v false (oIndexAddrS 1 (sel 21) (sel 22))),
     iOp (put 24) (.v true (oLoad1 (sel 23))),
     iOp (put 25) (.v false (oConvInt .u32 (sel 24))),
     iOp (put 26) (.v false (oInt2 fOr (sel 20) (sel 25))),
     iOp (put 7) (.v false (oEv (sel 26)))]))
  (sRegion [iOp (put 17) (.v false (oEv (sel 8))),
    iOp (put 18) (.v false (oInt2 fAdd (sel 17) ⟨fun _ => .int .i64 1⟩)),
    iOp (put 8) (.v false (oEv (sel 18)))]))
/-- bollard/bollardref01.Get -/
noncomputable def c21 : CF := ⟨31, [.tmp (sel 4), .tmp (sel 5), .tmp (sel 6)],
  sSeq (sRegion [iOp (put 4) (.v false (oEv ⟨fun _ => .int .u32 0⟩)),
    iOp (put 5) (.v false (oEv ⟨fun _ => .slice none 0 0⟩)),
    iOp (put 6) (.v false (oEv ⟨fun _ => .int .i64 0⟩))])
  (sSeq (sSeq (sRegion [iOp (put 9) (.v false (oEv (sel 0))),
      iOp (put 10) (.v false (oLenS (sel 9))),
      iOp (put 11) (.v false (oEv (sel 1))),
      iOp (put 12) (.v false (oInt2 fLss (sel 10) (sel 11)))])
    (sCond (sel 12)
      (sSeq (sRegion [iOp (put 13) (.v false (oEv (sel 0))),
         iOp (put 4) (.v false (oEv ⟨fun _ => .int .u32 0⟩)),
         iOp (put 5) (.v false (oEv (sel 13))),
         iOp (put 6) (.v false (oEv ⟨fun _ => .int .i64 2⟩))])
       (sEx .ret))
      (sEx .normal)))
   (sSeq (sRegion [iOp (put 7) (.v false (oEv ⟨fun _ => .int .u32 0⟩))])
    (sSeq (sSeq (sRegion [iOp (put 8) (.v false (oEv ⟨fun _ => .int .i64 0⟩))])
      (sBlock 0 (sLoop c21_0)))
     (sSeq (sRegion [iOp (put 27) (.v false (oEv (sel 7))),
        iOp (put 28) (.v false (oEv (sel 0))),
        iOp (put 29) (.v false (oEv (sel 1))),
        iOp (put 30) (.v false (oSlice 1 (sel 28) (some (sel 29)) none none)),
        iOp (put 4) (.v false (oEv (sel 27))),
        iOp (put 5) (.v false (oEv (sel 30))),
        iOp (put 6) (.v false (oEv ⟨fun _ => .int .i64 0⟩))])
      (sEx .ret)))))⟩
theorem d21 : denF Try.prog 21 = some c21 := by kernel_rfl
/-- (*bollard/octet.Reader).Get16 -/
noncomputable def c22 : CF := ⟨24, [.tmp (sel 2), .tmp (sel 3)],
  sSeq (sRegion [iOp (put 2) (.v false (oEv ⟨fun _ => .int .u16 0⟩)),
    iOp (put 3) (.v false (oEv ⟨fun _ => .int .i64 0⟩))])
  (sSeq (sRegion [iOp (put 7) (.v false (oEv (sel 0))),
     iOp (put 8) (.e (eCallF 30 [(sel 7), ⟨fun _ => .int .i64 2⟩])),
     iOp (put 6) (.v false (oEv (sel 8))),
     iOp (put 9) (.v false (oExtract (sel 6) 0)),
     iOp (put 10) (.v false (oExtract (sel 6) 1)),
     iOp (put 4) (.v false (oEv (sel 9))),
     iOp (put 5) (.v false (oEv (sel 10)))])
   (sSeq (sSeq (sRegion [iOp (put 11) (.v false (oEv (sel 5))),
       iOp (put 12) (.v false (oNe (.one 1) (sel 11) ⟨fun _ => .int .i64 0⟩))])
     (sCond (sel 12)
       (sSeq (sRegion [iOp (put 13) (.v false (oEv (sel 5))),
          iOp (put 2) (.v false (oEv ⟨fun _ => .int .u16 0⟩)),
          iOp (put 3) (.v false (oEv (sel 13)))])
        (sEx .ret))
       (sEx .normal)))
    (sSeq (sRegion [iOp (put 14) (.v false (oEv (sel 4))),
       iOp (put 15) (.v false (oIndexAddrS 1 (sel 14) ⟨fun _ => .int .i64 0⟩)),
       iOp (put 16) (.v true (oLoad1 (sel 15))),
       iOp (put 17) (.v false (oConvInt .u16 (sel 16))),
       iOp (put 18) (.v false (oSh fShl (sel 17) ⟨fun _ => .int .u64 8⟩)),
       iOp (put 19) (.v false (oEv (sel 4))),
       iOp (put 20) (.v false (oIndexAddrS 1 (sel 19) ⟨fun _ => .int .i64 1⟩)),
       iOp (put 21) (.v true (oLoad1 (sel 20))),
       iOp (put 22) (.v false (oConvInt .u16 (sel 21))),
       iOp (put 23) (.v false (oInt2 fOr (sel 18) (sel 22))),
       iOp (put 2) (.v false (oEv (sel 23))),
       iOp (put 3) (.v false (oEv ⟨fun _ => .int .i64 0⟩))])
     (sEx .ret))))⟩
theorem d22 : denF Try.prog 22 = some c22 := by kernel_rfl
/-- (*bollard/octet.Reader).Get32 -/
noncomputable def c23 : CF := ⟨36, [.tmp (sel 2), .tmp (sel 3)],
  sSeq (sRegion [iOp (put 2) (.v false (oEv ⟨fun _ => .int .u32 0⟩)),
    iOp (put 3) (.v false (oEv ⟨fun _ => .int .i64 0⟩))])
  (sSeq (sRegion [iOp (put 7) (.v false (oEv (sel 0))),
     iOp (put 8) (.e (eCallF 30 [(sel 7), ⟨fun _ => .int .i64 4⟩])),
     iOp (put 6) (.v false (oEv (sel 8))),
     iOp (put 9) (.v false (oExtract (sel 6) 0)),
     iOp (put 10) (.v false (oExtract (sel 6) 1)),
     iOp (put 4) (.v false (oEv (sel 9))),
     iOp (put 5) (.v false (oEv (sel 10)))])
   (sSeq (sSeq (sRegion [iOp (put 11) (.v false (oEv (sel 5))),
       iOp (put 12) (.v false (oNe (.one 1) (sel 11) ⟨fun _ => .int .i64 0⟩))])
     (sCond (sel 12)
       (sSeq (sRegion [iOp (put 13) (.v false (oEv (sel 5))),
          iOp (put 2) (.v false (oEv ⟨fun _ => .int .u32 0⟩)),
          iOp (put 3) (.v false (oEv (sel 13)))])
        (sEx .ret))
       (sEx .normal)))
    (sSeq (sRegion [iOp (put 14) (.v false (oEv (sel 4))),
       iOp (put 15) (.v false (oIndexAddrS 1 (sel 14) ⟨fun _ => .int .i64 0⟩)),
       iOp (put 16) (.v true (oLoad1 (sel 15))),
       iOp (put 17) (.v false (oConvInt .u32 (sel 16))),
       iOp (put 18) (.v false (oSh fShl (sel 17) ⟨fun _ => .int .u64 24⟩)),
       iOp (put 19) (.v false (oEv (sel 4))),
       iOp (put 20) (.v false (oIndexAddrS 1 (sel 19) ⟨fun _ => .int .i64 1⟩)),
       iOp (put 21) (.v true (oLoad1 (sel 20))),
       iOp (put 22) (.v false (oConvInt .u32 (sel 21))),
       iOp (put 23) (.v false (oSh fShl (sel 22) ⟨fun _ => .int .u64 16⟩)),
       iOp (put 24) (.v false (oInt2 fOr (sel 18) (sel 23))),
       iOp (put 25) (.v false (oEv (sel 4))),
       iOp (put 26) (.v false (oIndexAddrS 1 (sel 25) ⟨fun _ => .int .i64 2⟩)),
       iOp (put 27) (.v true (oLoad1 (sel 26))),
       iOp (put 28) (.v false (oConvInt .u32 (sel 27))),
       iOp (put 29) (.v false (oSh fShl (sel 28) ⟨fun _ => .int .u64 8⟩)),
       iOp (put 30) (.v false (oInt2 fOr (sel 24) (sel 29))),
       iOp (put 31) (.v false (oEv (sel 4))),
       iOp (put 32) (.v false (oIndexAddrS 1 (sel 31) ⟨fun _ => .int .i64 3⟩)),
       iOp (put 33) (.v true (oLoad1 (sel 32))),
       iOp (put 34) (.v false (oConvInt .u32 (sel 33))),
       iOp (put 35) (.v false (oInt2 fOr (sel 30) (sel 34))),
       iOp (put 2) (.v false (oEv (sel 35))),
       iOp (put 3) (.v false (oEv ⟨fun _ => .int .i64 0⟩))])
     (sEx .ret))))⟩
theorem d23 : denF Try.prog 23 = some c23 := by kernel_rfl
/-- bollard/bollardref01.Bytes -/
noncomputable def c24 : CF := ⟨21, [.tmp (sel 4), .tmp (sel 5), .tmp (sel 6)],
  sSeq (sRegion [iOp (put 4) (.v false (oEv ⟨fun _ => .slice none 0 0⟩)),
    iOp (put 5) (.v false (oEv ⟨fun _ => .slice none 0 0⟩)),
    iOp (put 6) (.v false (oEv ⟨fun _ => .int .i64 0⟩))])
  (sSeq (sSeq (sRegion [iOp (put 7) (.v false (oEv (sel 1))),
      iOp (put 8) (.v false (oInt2 fLss (sel 7) ⟨fun _ => .int .i64 0⟩))])
    (sCond (sel 8)
      (sSeq (sRegion [iOp (put 9) (.v false (oEv (sel 0))),
         iOp (put 4) (.v false (oEv ⟨fun _ => .slice none 0 0⟩)),
         iOp (put 5) (.v false (oEv (sel 9))),
         iOp (put 6) (.v false (oEv ⟨fun _ => .int .i64 1⟩))])
       (sEx .ret))
      (sEx .normal)))
   (sSeq (sSeq (sRegion [iOp (put 10) (.v false (oEv (sel 0))),
       iOp (put 11) (.v false (oLenS (sel 10))),
       iOp (put 12) (.v false (oEv (sel 1))),
       iOp (put 13) (.v false (oInt2 fLss (sel 11) (sel 12)))])
     (sCond (sel 13)
       (sSeq (sRegion [iOp (put 14) (.v false (oEv (sel 0))),
          iOp (put 4) (.v false (oEv ⟨fun _ => .slice none 0 0⟩)),
          iOp (put 5) (.v false (oEv (sel 14))),
          iOp (put 6) (.v false (oEv ⟨fun _ => .int .i64 2⟩))])
        (sEx .ret))
       (sEx .normal)))
    (sSeq (sRegion [iOp (put 15) (.v false (oEv (sel 0))),
       iOp (put 16) (.v false (oEv (sel 1))),
       iOp (put 17) (.v false (oSlice 1 (sel 15) none (some (sel 16)) none)),
       iOp (put 18) (.v false (oEv (sel 0))),
       iOp (put 19) (.v false (oEv (sel 1))),
       iOp (put 20) (.v false (oSlice 1 (sel 18) (some (sel 19)) none none)),
       iOp (put 4) (.v false (oEv (sel 17))),
       iOp (put 5) (.v false (oEv (sel 20))),
       iOp (put 6) (.v false (oEv ⟨fun _ => .int .i64 0⟩))])
     (sEx .ret))))⟩
theorem d24 : denF Try.prog 24 = some c24 := by kernel_rfl
/-- (*bollard/octet.Reader).Pad -/
noncomputable def c25 : CF := ⟨37, [.tmp (sel 4)],
  sSeq (sRegion [iOp (put 4) (.v false (oEv ⟨fun _ => .int .i64 0⟩))])
  (sSeq (sSeq (sRegion [iOp (put 6) (.v false (oEv (sel 0))),
      iOp (put 7) (.v false (oEq (.one 3) (sel 6) ⟨fun _ => .pointer none⟩)),
      iOp (put 8) (.v false (oEv (sel 7))),
      iGuard (sel 8) false (put 9) (iOp (put 9) (.v false (oEv (sel 1)))),
      iGuard (sel 8) false (put 10) (iOp (put 10) (.v false (oInt2 fLss (sel 9) ⟨fun _ => .int .i64 0⟩))),
      iOp (put 11) (.v false (oPick (sel 8) ⟨fun _ => .bool true⟩ (sel 10)))])
    (sCond (sel 11)
      (sSeq (sRegion [iOp (put 4) (.v false (oEv ⟨fun _ => .int .i64 1⟩))])
       (sEx .ret))
      (sEx .normal)))
   (sSeq (sRegion [iOp (put 12) (.v false (oEv (sel 1))),
      iOp (put 13) (.e (eCallF 28 [(sel 12)])),
      iOp (put 5) (.v false (oEv (sel 13)))])
    (sSeq (sSeq (sRegion [iOp (put 14) (.v false (oEv (sel 5))),
        iOp (put 15) (.v false (oEv (sel 0))),
        iOp (put 16) (.v false (oNilCheck (sel 15))),
        iOp (put 17) (.v false (oFieldAddr 0 (sel 16))),
        iOp (put 18) (.v true (oLoad1 (sel 17))),
        iOp (put 19) (.v false (oLenS (sel 18))),
        iOp (put 20) (.v false (oInt2 fGtr (sel 14) (sel 19)))])
      (sCond (sel 20)
        (sSeq (sRegion [iOp (put 4) (.v false (oEv ⟨fun _ => .int .i64 2⟩))])
         (sEx .ret))
        (sEx .normal)))
     (sSeq (sSeq (sRegion [iOp (put 21) (.v false (oEv (sel 0))),
         iOp (put 22) (.v false (oNilCheck (sel 21))),
         iOp (put 23) (.v false (oFieldAddr 0 (sel 22))),
         iOp (put 24) (.v true (oLoad1 (sel 23))),
         iOp (put 25) (.v false (oEv (sel 5))),
         iOp (put 26) (.v false (oSlice 1 (sel 24) none (some (sel 25)) none)),
         iOp (put 27) (.e (eCallF 31 [(sel 26), ⟨fun _ => .func (.func 32) #[] #[]⟩]))])
       (sCond (sel 27)
         (sSeq (sRegion [iOp (put 4) (.v false (oEv ⟨fun _ => .int .i64 3⟩))])
          (sEx .ret))
         (sEx .normal)))
      (sSeq (sRegion [iOp (put 28) (.v false (oEv (sel 0))),
         iOp (put 29) (.v false (oEv (sel 0))),
         iOp (put 30) (.v false (oNilCheck (sel 29))),
         iOp (put 31) (.v false (oFieldAddr 0 (sel 30))),
         iOp (put 32) (.v true (oLoad1 (sel 31))),
         iOp (put 33) (.v false (oEv (sel 5))),
         iOp (put 34) (.v false (oSlice 1 (sel 32) (some (sel 33)) none none)),
         iOp (put 35) (.v false (oNilCheck (sel 28))),
         iOp (put 36) (.v false (oFieldAddr 0 (sel 35))),
         iOp ⟨fun _ a => a⟩ (.e (eStore 1 (sel 36) (sel 34)))])
       (sSeq (sRegion [iOp (put 4) (.v false (oEv ⟨fun _ => .int .i64 0⟩))])
        (sEx .ret)))))))⟩
theorem d25 : denF Try.prog 25 = some c25 := by kernel_rfl
noncomputable def c26_0 : Vm.Sem := sSeq (sSeq (sRegion [iOp (put 20) (.v false (oEv (sel 7))),
    iOp (put 21) (.v false (oEv (sel 6))),
    iOp (put 22) (.v false (oInt2 fLss (sel 20) (sel 21)))])
  (sCond (sel 22)
    (sEx .normal)
    (sEx (.exit 0))))
 (sSeq (sBlock 1 (sSeq (sRegion [iOp (put 25) (.v false (oEv (sel 0))),
      iOp (put 26) (.v false (oEv (sel 7))),
      iOp (put 27) (.v false (oIndexAddrS 1 (sel 25) (sel 26))),
      iOp (put 28) (.v true (oLoad1 (sel 27))),
      iOp (put 29) (.v false (oNe (.one 1) (sel 28) ⟨fun _ => .int .u8 0⟩))])
    (sCond (sel 29)
      (sSeq (sRegion [iOp (put 30) (.v false (oEv (sel 0))),
         iOp (put 4) (.v false (oEv (sel 30))),
         iOp (put 5) (.v false (oEv ⟨fun _ => .int .i64 3⟩))])
       (sEx .ret))
      (sEx .normal))))
  (sRegion [iOp (put 23) (.v false (oEv (sel 7))),
    iOp (put 24) (.v false (oInt2 fAdd (sel 23) ⟨fun _ => .int .i64 1⟩)),
    iOp (put 7) (.v false (oEv (sel 24)))]))
/-- bollard/bollardref01.Unpad -/
noncomputable def c26 : CF := ⟨34, [.tmp (sel 4), .tmp (sel 5)],
  sSeq (sRegion [iOp (put 4) (.v false (oEv ⟨fun _ => .slice none 0 0⟩)),
    iOp (put 5) (.v false (oEv ⟨fun _ => .int .i64 0⟩))])
  (sSeq (sSeq (sRegion [iOp (put 8) (.v false (oEv (sel 1))),
      iOp (put 9) (.v false (oInt2 fLss (sel 8) ⟨fun _ => .int .i64 0⟩))])
    (sCond (sel 9)
      (sSeq (sRegion [iOp (put 10) (.v false (oEv (sel 0))),
         iOp (put 4) (.v false (oEv (sel 10))),
         iOp (put 5) (.v false (oEv ⟨fun _ => .int .i64 1⟩))])
       (sEx .ret))
      (sEx .normal)))
   (sSeq (sRegion [iOp (put 11) (.v false (oEv (sel 1))),
      iOp (put 12) (.v false (oInt2 fRem (sel 11) ⟨fun _ => .int .i64 4⟩)),
      iOp (put 13) (.v false (oInt2 fSub ⟨fun _ => .int .i64 4⟩ (sel 12))),
      iOp (put 14) (.v false (oInt2 fRem (sel 13) ⟨fun _ => .int .i64 4⟩)),
      iOp (put 6) (.v false (oEv (sel 14)))])
    (sSeq (sSeq (sRegion [iOp (put 15) (.v false (oEv (sel 0))),
        iOp (put 16) (.v false (oLenS (sel 15))),
        iOp (put 17) (.v false (oEv (sel 6))),
        iOp (put 18) (.v false (oInt2 fLss (sel 16) (sel 17)))])
      (sCond (sel 18)
        (sSeq (sRegion [iOp (put 19) (.v false (oEv (sel 0))),
           iOp (put 4) (.v false (oEv (sel 19))),
           iOp (put 5) (.v false (oEv ⟨fun _ => .int .i64 2⟩))])
         (sEx .ret))
        (sEx .normal)))
     (sSeq (sSeq (sRegion [iOp (put 7) (.v false (oEv ⟨fun _ => .int .i64 0⟩))])
       (sBlock 0 (sLoop c26_0)))
      (sSeq (sRegion [iOp (put 31) (.v false (oEv (sel 0))),
         iOp (put 32) (.v false (oEv (sel 6))),
         iOp (put 33) (.v false (oSlice 1 (sel 31) (some (sel 32)) none none)),
         iOp (put 4) (.v false (oEv (sel 33))),
         iOp (put 5) (.v false (oEv ⟨fun _ => .int .i64 0⟩))])
       (sEx .ret))))))⟩
theorem d26 : denF Try.prog 26 = some c26 := by kernel_rfl
/-- bollard/octet.with -/
noncomputable def c27 : CF := ⟨20, [.tmp (sel 4)],
  sSeq (sRegion [iOp (put 4) (.v false (oEv ⟨fun _ => .slice none 0 0⟩))])
  (sSeq (sRegion [iOp (put 6) (.v false (oEv (sel 0))),
     iOp (put 7) (.v false (oLenS (sel 6))),
     iOp (put 8) (.v false (oEv (sel 0))),
     iOp (put 9) (.v false (oLenS (sel 8))),
     iOp (put 10) (.v false (oEv (sel 1))),
     iOp (put 11) (.v false (oLenS (sel 10))),
     iOp (put 12) (.v false (oInt2 fAdd (sel 9) (sel 11))),
     iOp (put 13) (.a (aMakeSlice 5 1 [.int .u8 0] (sel 7) (sel 12))),
     iOp (put 5) (.v false (oEv (sel 13)))])
   (sSeq (sRegion [iOp (put 14) (.v false (oEv (sel 5))),
      iOp (put 15) (.v false (oEv (sel 0))),
      iOp (put 16) (.e (eCopy 1 (sel 14) (sel 15)))])
    (sSeq (sRegion [iOp (put 17) (.v false (oEv (sel 5))),
       iOp (put 18) (.v false (oEv (sel 1))),
       iOp (put 19) (.e (eAppend 5 1 1 (sel 17) (sel 18))),
       iOp (put 4) (.v false (oEv (sel 19)))])
     (sEx .ret))))⟩
theorem d27 : denF Try.prog 27 = some c27 := by kernel_rfl
/-- bollard/octet.gap -/
noncomputable def c28 : CF := ⟨6, [.tmp (sel 2)],
  sSeq (sRegion [iOp (put 2) (.v false (oEv ⟨fun _ => .int .i64 0⟩))])
  (sSeq (sRegion [iOp (put 3) (.v false (oEv (sel 0))),
     iOp (put 4) (.v false (oNeg (sel 3))),
     iOp (put 5) (.v false (oInt2 fAnd (sel 4) ⟨fun _ => .int .i64 3⟩)),
     iOp (put 2) (.v false (oEv (sel 5)))])
   (sEx .ret))⟩
theorem d28 : denF Try.prog 28 = some c28 := by kernel_rfl
/-- slices.Clone[[]byte,byte] -/
noncomputable def c29 : CF := ⟨8, [.tmp (sel 2)],
  sSeq (sRegion [iOp (put 2) (.v false (oEv ⟨fun _ => .slice none 0 0⟩))])
  (sSeq (sSeq (sRegion [iOp (put 3) (.v false (oEv (sel 0))),
      iOp (put 4) (.v false (oEq (.one 4) (sel 3) ⟨fun _ => .slice none 0 0⟩))])
    (sCond (sel 4)
      (sSeq (sRegion [iOp (put 2) (.v false (oEv ⟨fun _ => .slice none 0 0⟩))])
       (sEx .ret))
      (sEx .normal)))
   (sSeq (sRegion [iOp (put 5) (.a (aBuildSlice 5 0 (rep 0 [.int .u8 0]) [])),
      iOp (put 6) (.v false (oEv (sel 0))),
      iOp (put 7) (.e (eAppend 5 1 1 (sel 5) (sel 6))),
      iOp (put 2) (.v false (oEv (sel 7)))])
    (sEx .ret)))⟩
theorem d29 : denF Try.prog 29 = some c29 := by kernel_rfl
/-- (*bollard/octet.Reader).take -/
noncomputable def c30 : CF := ⟨39, [.tmp (sel 4), .tmp (sel 5)],
  sSeq (sRegion [iOp (put 4) (.v false (oEv ⟨fun _ => .slice none 0 0⟩)),
    iOp (put 5) (.v false (oEv ⟨fun _ => .int .i64 0⟩))])
  (sSeq (sBlock 0 (sSeq (sRegion [iOp (put 8) (.v false (oEv (sel 0))),
       iOp (put 9) (.v false (oEq (.one 3) (sel 8) ⟨fun _ => .pointer none⟩)),
       iOp (put 10) (.v false (oEv (sel 9))),
       iGuard (sel 10) false (put 11) (iOp (put 11) (.v false (oEv (sel 1)))),
       iGuard (sel 10) false (put 12) (iOp (put 12) (.v false (oInt2 fLss (sel 11) ⟨fun _ => .int .i64 0⟩))),
       iOp (put 13) (.v false (oPick (sel 10) ⟨fun _ => .bool true⟩ (sel 12))),
       iOp (put 7) (.v false (oEv (sel 13)))])
     (sCond (sel 7)
       (sSeq (sRegion [iOp (put 4) (.v false (oEv ⟨fun _ => .slice none 0 0⟩)),
          iOp (put 5) (.v false (oEv ⟨fun _ => .int .i64 1⟩))])
        (sEx .ret))
       (sSeq (sRegion [iOp (put 15) (.v false (oEv (sel 1))),
          iOp (put 16) (.v false (oEv (sel 0))),
          iOp (put 17) (.v false (oNilCheck (sel 16))),
          iOp (put 18) (.v false (oFieldAddr 0 (sel 17))),
          iOp (put 19) (.v true (oLoad1 (sel 18))),
          iOp (put 20) (.v false (oLenS (sel 19))),
          iOp (put 21) (.v false (oInt2 fGtr (sel 15) (sel 20))),
          iOp (put 14) (.v false (oEv (sel 21)))])
        (sCond (sel 14)
          (sSeq (sRegion [iOp (put 4) (.v false (oEv ⟨fun _ => .slice none 0 0⟩)),
             iOp (put 5) (.v false (oEv ⟨fun _ => .int .i64 2⟩))])
           (sEx .ret))
          (sEx .normal))))))
   (sSeq (sRegion [iOp (put 22) (.v false (oEv (sel 0))),
      iOp (put 23) (.v false (oNilCheck (sel 22))),
      iOp (put 24) (.v false (oFieldAddr 0 (sel 23))),
      iOp (put 25) (.v true (oLoad1 (sel 24))),
      iOp (put 26) (.v false (oEv (sel 1))),
      iOp (put 27) (.v false (oEv (sel 1))),
      iOp (put 28) (.v false (oSlice 1 (sel 25) none (some (sel 26)) (some (sel 27)))),
      iOp (put 6) (.v false (oEv (sel 28)))])
    (sSeq (sRegion [iOp (put 29) (.v false (oEv (sel 0))),
       iOp (put 30) (.v false (oEv (sel 0))),
       iOp (put 31) (.v false (oNilCheck (sel 30))),
       iOp (put 32) (.v false (oFieldAddr 0 (sel 31))),
       iOp (put 33) (.v true (oLoad1 (sel 32))),
       iOp (put 34) (.v false (oEv (sel 1))),
       iOp (put 35) (.v false (oSlice 1 (sel 33) (some (sel 34)) none none)),
       iOp (put 36) (.v false (oNilCheck (sel 29))),
       iOp (put 37) (.v false (oFieldAddr 0 (sel 36))),
       iOp ⟨fun _ a => a⟩ (.e (eStore 1 (sel 37) (sel 35)))])
     (sSeq (sRegion [iOp (put 38) (.v false (oEv (sel 6))),
        iOp (put 4) (.v false (oEv (sel 38))),
        iOp (put 5) (.v false (oEv ⟨fun _ => .int .i64 0⟩))])
      (sEx .ret)))))⟩
theorem d30 : denF Try.prog 30 = some c30 := by kernel_rfl
/-- slices.ContainsFunc[[]byte,byte] -/
noncomputable def c31 : CF := ⟨9, [.tmp (sel 4)],
  sSeq (sRegion [iOp (put 4) (.v false (oEv ⟨fun _ => .bool false⟩))])
  (sSeq (sRegion [iOp (put 5) (.v false (oEv (sel 0))),
     iOp (put 6) (.v false (oEv (sel 1))),
     iOp (put 7) (.e (eCallF 33 [(sel 5), (sel 6)])),
     iOp (put 8) (.v false (oInt2 fGeq (sel 7) ⟨fun _ => .int .i64 0⟩)),
     iOp (put 4) (.v false (oEv (sel 8)))])
   (sEx .ret))⟩
theorem d31 : denF Try.prog 31 = some c31 := by kernel_rfl
/-- (*bollard/octet.Reader).Pad$1 -/
noncomputable def c32 : CF := ⟨5, [.tmp (sel 2)],
  sSeq (sRegion [iOp (put 2) (.v false (oEv ⟨fun _ => .bool false⟩))])
  (sSeq (sRegion [iOp (put 3) (.v false (oEv (sel 0))),
     iOp (put 4) (.v false (oNe (.one 1) (sel 3) ⟨fun _ => .int .u8 0⟩)),
     iOp (put 2) (.v false (oEv (sel 4)))])
   (sEx .ret))⟩
theorem d32 : denF Try.prog 32 = some c32 := by kernel_rfl
noncomputable def c33_0 : Vm.Sem := sSeq (sRegion [iOp (put 9) (.v false (oInt2 fLss (sel 8) (sel 7)))])
 (sSeq (sCond (sel 9)
    (sEx .normal)
    (sEx (.exit 0)))
  (sSeq (sBlock 1 (sSeq (sRegion [iOp (put 10) (.v false (oEv (sel 8))),
       iOp (put 5) (.v false (oEv (sel 10)))])
     (sSeq (sRegion [iOp (put 11) (.v false (oEv (sel 1))),
        iOp (put 12) (.v false (oEv (sel 0))),
        iOp (put 13) (.v false (oEv (sel 5))),
        iOp (put 14) (.v false (oIndexAddrS 1 (sel 12) (sel 13))),
        iOp (put 15) (.v true (oLoad1 (sel 14))),
        iOp (put 16) (.e (eCall (sel 11) [(sel 15)]))])
      (sCond (sel 16)
        (sSeq (sRegion [iOp (put 17) (.v false (oEv (sel 5))),
           iOp (put 4) (.v false (oEv (sel 17)))])
         (sEx .ret))
        (sEx .normal)))))
   (sRegion [iOp (put 18) (.v false (oInt2 fAdd (sel 8) ⟨fun _ => .int .i64 1⟩)),
     iOp (put 8) (.v false (oEv (sel 18)))])))
/-- slices.IndexFunc[[]byte,byte] -/
noncomputable def c33 : CF := ⟨19, [.tmp (sel 4)],
  sSeq (sRegion [iOp (put 4) (.v false (oEv ⟨fun _ => .int .i64 0⟩))])
  (sSeq (sSeq (sRegion [iOp (put 6) (.v false (oEv (sel 0))),
      iOp (put 7) (.v false (oLenS (sel 6))),
      iOp (put 8) (.v false (oEv ⟨fun _ => .int .i64 0⟩))])
    (sBlock 0 (sLoop c33_0)))
   (sSeq (sRegion [iOp (put 4) (.v false (oEv ⟨fun _ => .int .i64 (-1)⟩))])
    (sEx .ret)))⟩
theorem d33 : denF Try.prog 33 = some c33 := by kernel_rfl
end Go.Proofs.Ytedlbgfiehdcbaa

