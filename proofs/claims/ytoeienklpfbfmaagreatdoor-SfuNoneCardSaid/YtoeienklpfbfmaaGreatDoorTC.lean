/- Part of a proof by an abstract run of the program's code: TC. No condition. -/
import Derived.Test.YtoeienklpfbfmaaGreatDoorChecked
import Derived.Test.YtoeienklpfbfmaaGreatDoorVmD
namespace Go.Proofs.YtoeienklpfbfmaaGreatDoor
open Go Vm
/-- bollard/bollardlaw21.SfuNone -/
noncomputable def c3 : CF := ⟨187, [.tmp (sel 6)],
  sSeq (sRegion [iOp (put 6) (.v false (oEv ⟨fun _ => .bool false⟩))])
  (sSeq (sRegion [iOp (put 15) (.e (eCallF 4 [])),
     iOp (put 7) (.v false (oEv (sel 15)))])
   (sSeq (sSeq (sRegion [iOp (put 16) (.v false (oEv (sel 0))),
       iOp (put 17) (.v false (oLenS (sel 16))),
       iOp (put 18) (.v false (oInt2 fGtr (sel 17) ⟨fun _ => .int .i64 1500⟩)),
       iOp (put 19) (.v false (oEv (sel 18))),
       iGuard (sel 19) false (put 20) (iOp (put 20) (.v false (oEv (sel 1)))),
       iGuard (sel 19) false (put 21) (iOp (put 21) (.v false (oLenStr (sel 20)))),
       iGuard (sel 19) false (put 22) (iOp (put 22) (.v false (oInt2 fGtr (sel 21) ⟨fun _ => .int .i64 500⟩))),
       iOp (put 23) (.v false (oPick (sel 19) ⟨fun _ => .bool true⟩ (sel 22)))])
     (sCond (sel 23)
       (sSeq (sRegion [iOp (put 24) (.v false (oEv (sel 7))),
          iOp (put 6) (.v false (oEv (sel 24)))])
        (sEx .ret))
       (sEx .normal)))
    (sSeq (sRegion [iOp (put 8) (.v false (oEv ⟨fun _ => .pointer none⟩))])
     (sSeq (sRegion [iOp (put 9) (.v false (oEv ⟨fun _ => .pointer none⟩))])
      (sSeq (sRegion [iOp (put 25) (.v false (oEv (sel 8))),
         iOp (put 26) (.v false (oEv (sel 2))),
         iOp (put 27) (.e (eCallF 5 [(sel 25), (sel 26)]))])
       (sSeq (sRegion [iOp (put 28) (.v false (oEv (sel 9))),
          iOp (put 29) (.v false (oEv (sel 2))),
          iOp (put 30) (.e (eCallF 6 [(sel 28), (sel 29)]))])
        (sSeq (sRegion [iOp (put 32) (.v false (oEv (sel 9))),
           iOp (put 33) (.v false (oEv (sel 1))),
           iOp (put 34) (.v false (oBuild [.int .u8 0, .int .u16 0, .int .u32 0, .string ⟨#[]⟩, .string ⟨#[]⟩] [(3, 1, (sel 33))])),
           iOp (put 35) (.v false (oEv (sel 2))),
           iOp (put 36) (.e (eCallF 7 [(sel 32), (sel 34), (sel 35)])),
           iOp (put 31) (.v false (oEv (sel 36))),
           iOp (put 37) (.v false (oExtract (sel 31) 0)),
           iOp (put 38) (.v false (oExtract (sel 31) 1)),
           iOp (put 10) (.v false (oEv (sel 37))),
           iOp (put 11) (.v false (oEv (sel 38)))])
         (sSeq (sRegion [iOp (put 39) (.e (eCallF 9 [⟨fun _ => .int .i64 4⟩])),
            iOp (put 40) (.e (eCallF 8 [(sel 39)])),
            iOp (put 12) (.v false (oEv (sel 40)))])
          (sSeq (sRegion [iOp (put 42) (.v false (oEv (sel 12))),
             iOp (put 43) (.v false (oEv (sel 1))),
             iOp (put 44) (.v false (oBuild [.int .u8 0, .int .u16 0, .int .u32 0, .string ⟨#[]⟩, .string ⟨#[]⟩] [(3, 1, (sel 43))])),
             iOp (put 45) (.v false (oEv (sel 2))),
             iOp (put 46) (.e (eCallF 7 [(sel 42), (sel 44), (sel 45)])),
             iOp (put 41) (.v false (oEv (sel 46))),
             iOp (put 47) (.v false (oExtract (sel 41) 0)),
             iOp (put 48) (.v false (oExtract (sel 41) 1)),
             iOp (put 13) (.v false (oEv (sel 47))),
             iOp (put 14) (.v false (oEv (sel 48)))])
           (sSeq (sRegion [iOp (put 49) (.v false (oEv (sel 7))),
              iOp (put 50) (.v false (oEv (sel 49))),
              iGuard (sel 50) true (put 51) (iOp (put 51) (.v false (oEv (sel 8)))),
              iGuard (sel 50) true (put 52) (iOp (put 52) (.v false (oEv (sel 2)))),
              iGuard (sel 50) true (put 53) (iOp (put 53) (.v false (oEv (sel 0)))),
              iGuard (sel 50) true (put 54) (iOp (put 54) (.v false (oEv (sel 2)))),
              iGuard (sel 50) true (put 55) (iOp (put 55) (.e (eCallF 10 [(sel 51), (sel 52), (sel 53), (sel 54), ⟨fun _ => .int .u32 1⟩]))),
              iGuard (sel 50) true (put 56) (iOp (put 56) (.v false (oEq (.one 1) (sel 55) ⟨fun _ => .int .i64 1⟩))),
              iOp (put 57) (.v false (oPick (sel 50) (sel 56) ⟨fun _ => .bool false⟩)),
              iOp (put 58) (.v false (oEv (sel 57))),
              iGuard (sel 58) true (put 59) (iOp (put 59) (.v false (oEv (sel 8)))),
              iGuard (sel 58) true (put 60) (iOp (put 60) (.v false (oEv (sel 2)))),
              iGuard (sel 58) true (put 61) (iOp (put 61) (.v false (oEv (sel 2)))),
              iGuard (sel 58) true (put 62) (iOp (put 62) (.e (eCallF 11 [(sel 59), (sel 60), (sel 61)]))),
              iGuard (sel 58) true (put 63) (iOp (put 63) (.v false (oLenS (sel 62)))),
              iGuard (sel 58) true (put 64) (iOp (put 64) (.v false (oEq (.one 1) (sel 63) ⟨fun _ => .int .i64 0⟩))),
              iOp (put 65) (.v false (oPick (sel 58) (sel 64) ⟨fun _ => .bool false⟩)),
              iOp (put 66) (.v false (oEv (sel 65))),
              iGuard (sel 66) true (put 67) (iOp (put 67) (.v false (oEv (sel 8)))),
              iGuard (sel 66) true (put 68) (iOp (put 68) (.v false (oEv (sel 2)))),
              iGuard (sel 66) true (put 69) (iOp (put 69) (.e (eCallF 12 [(sel 67), (sel 68)]))),
              iGuard (sel 66) true (put 70) (iOp (put 70) (.v false (oEq (.one 1) (sel 69) ⟨fun _ => .int .i64 8⟩))),
              iOp (put 71) (.v false (oPick (sel 66) (sel 70) ⟨fun _ => .bool false⟩)),
              iOp (put 72) (.v false (oEv (sel 71))),
              iGuard (sel 72) true (put 73) (iOp (put 73) (.v false (oEv (sel 8)))),
              iGuard (sel 72) true (put 74) (iOp (put 74) (.v false (oEv (sel 2)))),
              iGuard (sel 72) true (put 75) (iOp (put 75) (.v false (oEv (sel 1)))),
              iGuard (sel 72) true (put 76) (iOp (put 76) (.e (eCallF 13 [(sel 73), (sel 74), (sel 75)]))),
              iGuard (sel 72) true (put 77) (iOp (put 77) (.v false (oNot (sel 76)))),
              iOp (put 78) (.v false (oPick (sel 72) (sel 77) ⟨fun _ => .bool false⟩)),
              iOp (put 79) (.v false (oEv (sel 78))),
              iGuard (sel 79) true (put 80) (iOp (put 80) (.v false (oEv (sel 8)))),
              iGuard (sel 79) true (put 81) (iOp (put 81) (.v false (oEv (sel 2)))),
              iGuard (sel 79) true (put 82) (iOp (put 82) (.e (eCallF 14 [(sel 80), (sel 81)]))),
              iGuard (sel 79) true (put 83) (iOp (put 83) (.v false (oEv (sel 8)))),
              iGuard (sel 79) true (put 84) (iOp (put 84) (.e (eCallF 15 [(sel 83)]))),
              iGuard (sel 79) true (put 85) (iOp (put 85) (.v false (oInt2 fAdd (sel 82) (sel 84)))),
              iGuard (sel 79) true (put 86) (iOp (put 86) (.v false (oEq (.one 1) (sel 85) ⟨fun _ => .int .i64 0⟩))),
              iOp (put 87) (.v false (oPick (sel 79) (sel 86) ⟨fun _ => .bool false⟩)),
              iOp (put 88) (.v false (oEv (sel 87))),
              iGuard (sel 88) true (put 89) (iOp (put 89) (.v false (oEv (sel 9)))),
              iGuard (sel 88) true (put 90) (iOp (put 90) (.v false (oEv (sel 2)))),
              iGuard (sel 88) true (put 91) (iOp (put 91) (.e (eCallF 16 [(sel 89), (sel 90), ⟨fun _ => .int .u32 1⟩]))),
              iGuard (sel 88) true (put 92) (iOp (put 92) (.v false (oEq (.one 1) (sel 91) ⟨fun _ => .int .i64 1⟩))),
              iOp (put 93) (.v false (oPick (sel 88) (sel 92) ⟨fun _ => .bool false⟩)),
              iOp (put 94) (.v false (oEv (sel 93))),
              iGuard (sel 94) true (put 95) (iOp (put 95) (.v false (oEv (sel 11)))),
              iGuard (sel 94) true (put 96) (iOp (put 96) (.v false (oEq (.one 1) (sel 95) ⟨fun _ => .int .i64 1⟩))),
              iOp (put 97) (.v false (oPick (sel 94) (sel 96) ⟨fun _ => .bool false⟩)),
              iOp (put 98) (.v false (oEv (sel 97))),
              iGuard (sel 98) true (put 99) (iOp (put 99) (.v false (oEv (sel 9)))),
              iGuard (sel 98) true (put 100) (iOp (put 100) (.v false (oEv (sel 1)))),
              iGuard (sel 98) true (put 101) (iOp (put 101) (.v false (oEv (sel 0)))),
              iGuard (sel 98) true (put 102) (iOp (put 102) (.v false (oEv (sel 2)))),
              iGuard (sel 98) true (put 103) (iOp (put 103) (.e (eCallF 17 [(sel 99), (sel 100), ⟨fun _ => .bool true⟩, (sel 101), (sel 102)]))),
              iGuard (sel 98) true (put 104) (iOp (put 104) (.v false (oEq (.one 1) (sel 103) ⟨fun _ => .int .i64 1⟩))),
              iOp (put 105) (.v false (oPick (sel 98) (sel 104) ⟨fun _ => .bool false⟩)),
              iOp (put 106) (.v false (oEv (sel 105))),
              iGuard (sel 106) true (put 107) (iOp (put 107) (.v false (oEv (sel 9)))),
              iGuard (sel 106) true (put 108) (iOp (put 108) (.v false (oEv (sel 1)))),
              iGuard (sel 106) true (put 109) (iOp (put 109) (.v false (oEv (sel 2)))),
              iGuard (sel 106) true (put 110) (iOp (put 110) (.e (eCallF 18 [(sel 107), (sel 108), (sel 109)]))),
              iGuard (sel 106) true (put 111) (iOp (put 111) (.v false (oEq (.one 1) (sel 110) ⟨fun _ => .int .i64 1⟩))),
              iOp (put 112) (.v false (oPick (sel 106) (sel 111) ⟨fun _ => .bool false⟩)),
              iOp (put 113) (.v false (oEv (sel 112))),
              iGuard (sel 113) true (put 114) (iOp (put 114) (.v false (oEv (sel 9)))),
              iGuard (sel 113) true (put 115) (iOp (put 115) (.v false (oEv (sel 2)))),
              iGuard (sel 113) true (put 116) (iOp (put 116) (.e (eCallF 19 [(sel 114), (sel 115)]))),
              iGuard (sel 113) true (put 117) (iOp (put 117) (.v false (oEq (.one 1) (sel 116) ⟨fun _ => .int .i64 1⟩))),
              iOp (put 118) (.v false (oPick (sel 113) (sel 117) ⟨fun _ => .bool false⟩)),
              iOp (put 119) (.v false (oEv (sel 118))),
              iGuard (sel 119) true (put 120) (iOp (put 120) (.v false (oEv (sel 9)))),
              iGuard (sel 119) true (put 121) (iOp (put 121) (.v false (oBuild [.bool false, .int .u8 0, .int .u16 0, .int .u32 0, .int .u32 0, .slice none 0 0] []))),
              iGuard (sel 119) true (put 122) (iOp (put 122) (.e (eCallF 20 [(sel 120), (sel 121)]))),
              iGuard (sel 119) true (put 123) (iOp (put 123) (.v false (oEq (.one 1) (sel 122) ⟨fun _ => .int .i64 1⟩))),
              iOp (put 124) (.v false (oPick (sel 119) (sel 123) ⟨fun _ => .bool false⟩)),
              iOp (put 125) (.v false (oEv (sel 124))),
              iGuard (sel 125) true (put 126) (iOp (put 126) (.v false (oEv (sel 9)))),
              iGuard (sel 125) true (put 127) (iOp (put 127) (.v false (oEv (sel 0)))),
              iGuard (sel 125) true (put 128) (iOp (put 128) (.v false (oEv (sel 2)))),
              iGuard (sel 125) true (put 129) (iOp (put 129) (.e (eCallF 21 [(sel 126), (sel 127), (sel 128), ⟨fun _ => .int .u32 1⟩]))),
              iGuard (sel 125) true (put 130) (iOp (put 130) (.v false (oEq (.one 1) (sel 129) ⟨fun _ => .int .i64 1⟩))),
              iOp (put 131) (.v false (oPick (sel 125) (sel 130) ⟨fun _ => .bool false⟩)),
              iOp (put 132) (.v false (oEv (sel 131))),
              iGuard (sel 132) true (put 133) (iOp (put 133) (.v false (oEv (sel 9)))),
              iGuard (sel 132) true (put 134) (iOp (put 134) (.v false (oEv (sel 2)))),
              iGuard (sel 132) true (put 135) (iOp (put 135) (.e (eCallF 22 [(sel 133), (sel 134)]))),
              iGuard (sel 132) true (put 136) (iOp (put 136) (.v false (oLenS (sel 135)))),
              iGuard (sel 132) true (put 137) (iOp (put 137) (.v false (oEq (.one 1) (sel 136) ⟨fun _ => .int .i64 0⟩))),
              iOp (put 138) (.v false (oPick (sel 132) (sel 137) ⟨fun _ => .bool false⟩)),
              iOp (put 139) (.v false (oEv (sel 138))),
              iGuard (sel 139) true (put 140) (iOp (put 140) (.v false (oEv (sel 9)))),
              iGuard (sel 139) true (put 141) (iOp (put 141) (.e (eCallF 23 [(sel 140)]))),
              iGuard (sel 139) true (put 142) (iOp (put 142) (.v false (oLenS (sel 141)))),
              iGuard (sel 139) true (put 143) (iOp (put 143) (.v false (oEq (.one 1) (sel 142) ⟨fun _ => .int .i64 0⟩))),
              iOp (put 144) (.v false (oPick (sel 139) (sel 143) ⟨fun _ => .bool false⟩)),
              iOp (put 145) (.v false (oEv (sel 144))),
              iGuard (sel 145) true (put 146) (iOp (put 146) (.v false (oEv (sel 9)))),
              iGuard (sel 145) true (put 147) (iOp (put 147) (.e (eCallF 24 [(sel 146)]))),
              iGuard (sel 145) true (put 148) (iOp (put 148) (.v false (oLenS (sel 147)))),
              iGuard (sel 145) true (put 149) (iOp (put 149) (.v false (oEq (.one 1) (sel 148) ⟨fun _ => .int .i64 0⟩))),
              iOp (put 150) (.v false (oPick (sel 145) (sel 149) ⟨fun _ => .bool false⟩)),
              iOp (put 151) (.v false (oEv (sel 150))),
              iGuard (sel 151) true (put 152) (iOp (put 152) (.v false (oEv (sel 9)))),
              iGuard (sel 151) true (put 153) (iOp (put 153) (.e (eCallF 25 [(sel 152)]))),
              iGuard (sel 151) true (put 154) (iOp (put 154) (.v false (oEq (.one 1) (sel 153) ⟨fun _ => .int .i64 8⟩))),
              iOp (put 155) (.v false (oPick (sel 151) (sel 154) ⟨fun _ => .bool false⟩)),
              iOp (put 156) (.v false (oEv (sel 155))),
              iGuard (sel 156) true (put 157) (iOp (put 157) (.v false (oEv (sel 9)))),
              iGuard (sel 156) true (put 158) (iOp (put 158) (.v false (oEv (sel 1)))),
              iGuard (sel 156) true (put 159) (iOp (put 159) (.e (eCallF 26 [(sel 157), (sel 158)]))),
              iGuard (sel 156) true (put 160) (iOp (put 160) (.v false (oNot (sel 159)))),
              iOp (put 161) (.v false (oPick (sel 156) (sel 160) ⟨fun _ => .bool false⟩)),
              iOp (put 162) (.v false (oEv (sel 161))),
              iGuard (sel 162) true (put 163) (iOp (put 163) (.v false (oEv (sel 14)))),
              iGuard (sel 162) true (put 164) (iOp (put 164) (.v false (oEq (.one 1) (sel 163) ⟨fun _ => .int .i64 8⟩))),
              iOp (put 165) (.v false (oPick (sel 162) (sel 164) ⟨fun _ => .bool false⟩)),
              iOp (put 166) (.v false (oEv (sel 165))),
              iGuard (sel 166) true (put 167) (iOp (put 167) (.v false (oEv (sel 12)))),
              iGuard (sel 166) true (put 168) (iOp (put 168) (.v false (oEv (sel 1)))),
              iGuard (sel 166) true (put 169) (iOp (put 169) (.v false (oEv (sel 0)))),
              iGuard (sel 166) true (put 170) (iOp (put 170) (.v false (oEv (sel 2)))),
              iGuard (sel 166) true (put 171) (iOp (put 171) (.e (eCallF 17 [(sel 167), (sel 168), ⟨fun _ => .bool true⟩, (sel 169), (sel 170)]))),
              iGuard (sel 166) true (put 172) (iOp (put 172) (.v false (oEq (.one 1) (sel 171) ⟨fun _ => .int .i64 8⟩))),
              iOp (put 173) (.v false (oPick (sel 166) (sel 172) ⟨fun _ => .bool false⟩)),
              iOp (put 174) (.v false (oEv (sel 173))),
              iGuard (sel 174) true (put 175) (iOp (put 175) (.v false (oEv (sel 12)))),
              iGuard (sel 174) true (put 176) (iOp (put 176) (.v false (oEv (sel 1)))),
              iGuard (sel 174) true (put 177) (iOp (put 177) (.v false (oEv (sel 2)))),
              iGuard (sel 174) true (put 178) (iOp (put 178) (.e (eCallF 18 [(sel 175), (sel 176), (sel 177)]))),
              iGuard (sel 174) true (put 179) (iOp (put 179) (.v false (oEq (.one 1) (sel 178) ⟨fun _ => .int .i64 12⟩))),
              iOp (put 180) (.v false (oPick (sel 174) (sel 179) ⟨fun _ => .bool false⟩)),
              iOp (put 181) (.v false (oEv (sel 180))),
              iGuard (sel 181) true (put 182) (iOp (put 182) (.v false (oEv (sel 12)))),
              iGuard (sel 181) true (put 183) (iOp (put 183) (.v false (oEv (sel 2)))),
              iGuard (sel 181) true (put 184) (iOp (put 184) (.e (eCallF 19 [(sel 182), (sel 183)]))),
              iGuard (sel 181) true (put 185) (iOp (put 185) (.v false (oEq (.one 1) (sel 184) ⟨fun _ => .int .i64 8⟩))),
              iOp (put 186) (.v false (oPick (sel 181) (sel 185) ⟨fun _ => .bool false⟩)),
              iOp (put 6) (.v false (oEv (sel 186)))])
            (sEx .ret)))))))))))⟩
theorem d3 : denF Tryz.prog 3 = some c3 := denF_of (by kernel_rfl)
noncomputable def c130_0 : Vm.Sem := sSeq (sRegion [iOp (put 10) (.v false (oInt2 fLss (sel 9) ⟨fun _ => .int .i64 8⟩))])
 (sSeq (sCond (sel 10)
    (sEx .normal)
    (sEx (.exit 2)))
  (sSeq (sBlock 3 (sRegion [iOp (put 11) (.v false (oEv (sel 3))),
      iOp (put 12) (.v false (oSh fShr (sel 11) ⟨fun _ => .int .u64 1⟩)),
      iOp (put 13) (.v false (oEv (sel 3))),
      iOp (put 14) (.v false (oInt2 fAnd (sel 13) ⟨fun _ => .int .u32 1⟩)),
      iOp (put 15) (.v false (oNeg (sel 14))),
      iOp (put 16) (.v false (oInt2 fAnd ⟨fun _ => .int .u32 2197175160⟩ (sel 15))),
      iOp (put 17) (.v false (oInt2 fXor (sel 12) (sel 16))),
      iOp (put 3) (.v false (oEv (sel 17)))]))
   (sRegion [iOp (put 18) (.v false (oInt2 fAdd (sel 9) ⟨fun _ => .int .i64 1⟩)),
     iOp (put 9) (.v false (oEv (sel 18)))])))
noncomputable def c130_1 : Vm.Sem := sSeq (sRegion [iOp (put 5) (.v false (oInt2 fLss (sel 4) ⟨fun _ => .int .i64 256⟩))])
 (sSeq (sCond (sel 5)
    (sEx .normal)
    (sEx (.exit 0)))
  (sSeq (sBlock 1 (sSeq (sRegion [iOp (put 6) (.v false (oEv (sel 4))),
       iOp (put 2) (.v false (oEv (sel 6)))])
     (sSeq (sRegion [iOp (put 7) (.v false (oEv (sel 2))),
        iOp (put 8) (.v false (oConvInt .u32 (sel 7))),
        iOp (put 3) (.v false (oEv (sel 8)))])
      (sSeq (sSeq (sRegion [iOp (put 9) (.v false (oEv ⟨fun _ => .int .i64 0⟩))])
        (sBlock 2 (sLoop c130_0)))
       (sRegion [iOp (put 19) (.v false (oEv (sel 2))),
         iOp (put 20) (.v false (oEv (sel 3))),
         iOp (put 21) (.v false (oIndexAddrA 256 1 (sel 1) (sel 19))),
         iOp ⟨fun _ a => a⟩ (.e (eStore 1 (sel 21) (sel 20)))])))))
   (sRegion [iOp (put 22) (.v false (oInt2 fAdd (sel 4) ⟨fun _ => .int .i64 1⟩)),
     iOp (put 4) (.v false (oEv (sel 22)))])))
/-- bollard/crc.Table -/
noncomputable def c130 : CF := ⟨24, [.tmp (sel 0)],
  sSeq (sRegion [iOp (put 0) (.v false (oEv ⟨fun _ => .slice none 0 0⟩))])
  (sSeq (sRegion [iOp (put 1) (.a (aAlloc 296 [.int .u32 0, .int .u32 0, .int .u32 0, .int .u32 0, .int .u32 0, .int .u32 0, .int .u32 0, .int .u32 0, .int .u32 0, .int .u32 0, .int .u32 0, .int .u32 0, .int .u32 0, .int .u32 0, .int .u32 0, .int .u32 0, .int .u32 0, .int .u32 0, .int .u32 0, .int .u32 0, .int .u32 0, .int .u32 0, .int .u32 0, .int .u32 0, .int .u32 0, .int .u32 0, .int .u32 0, .int .u32 0, .int .u32 0, .int .u32 0, .int .u32 0, .int .u32 0, .int .u32 0, .int .u32 0, .int .u32 0, .int .u32 0, .int .u32 0, .int .u32 0, .int .u32 0, .int .u32 0, .int .u32 0, .int .u32 0, .int .u32 0, .int .u32 0, .int .u32 0, .int .u32 0, .int .u32 0, .int .u32 0, .int .u32 0, .int .u32 0, .int .u32 0, .int .u32 0, .int .u32 0, .int .u32 0, .int .u32 0, .int .u32 0, .int .u32 0, .int .u32 0, .int .u32 0, .int .u32 0, .int .u32 0, .int .u32 0, .int .u32 0, .int .u32 0, .int .u32 0, .int .u32 0, .int .u32 0, .int .u32 0, .int .u32 0, .int .u32 0, .int .u32 0, .int .u32 0, .int .u32 0, .int .u32 0, .int .u32 0, .int .u32 0, .int .u32 0, .int .u32 0, .int .u32 0, .int .u32 0, .int .u32 0, .int .u32 0, .int .u32 0, .int .u32 0, .int .u32 0, .int .u32 0, .int .u32 0, .int .u32 0, .int .u32 0, .int .u32 0, .int .u32 0, .int .u32 0, .int .u32 0, .int .u32 0, .int .u32 0, .int .u32 0, .int .u32 0, .int .u32 0, .int .u32 0, .int .u32 0, .int .u32 0, .int .u32 0, .int .u32 0, .int .u32 0, .int .u32 0, .int .u32 0, .int .u32 0, .int .u32 0, .int .u32 0, .int .u32 0, .int .u32 0, .int .u32 0, .int .u32 0, .int .u32 0, .int .u32 0, .int .u32 0, .int .u32 0, .int .u32 0, .int .u32 0, .int .u32 0, .int .u32 0, .int .u32 0, .int .u32 0, .int .u32 0, .int .u32 0, .int .u32 0, .int .u32 0, .int .u32 0, .int .u32 0, .int .u32 0, .int .u32 0, .int .u32 0, .int .u32 0, .int .u32 0, .int .u32 0, .int .u32 0, .int .u32 0, .int .u32 0, .int .u32 0, .int .u32 0, .int .u32 0, .int .u32 0, .int .u32 0, .int .u32 0, .int .u32 0, .int .u32 0, .int .u32 0, .int .u32 0, .int .u32 0, .int .u32 0, .int .u32 0, .int .u32 0, .int .u32 0, .int .u32 0, .int .u32 0, .int .u32 0, .int .u32 0, .int .u32 0, .int .u32 0, .int .u32 0, .int .u32 0, .int .u32 0, .int .u32 0, .int .u32 0, .int .u32 0, .int .u32 0, .int .u32 0, .int .u32 0, .int .u32 0, .int .u32 0, .int .u32 0, .int .u32 0, .int .u32 0, .int .u32 0, .int .u32 0, .int .u32 0, .int .u32 0, .int .u32 0, .int .u32 0, .int .u32 0, .int .u32 0, .int .u32 0, .int .u32 0, .int .u32 0, .int .u32 0, .int .u32 0, .int .u32 0, .int .u32 0, .int .u32 0, .int .u32 0, .int .u32 0, .int .u32 0, .int .u32 0, .int .u32 0, .int .u32 0, .int .u32 0, .int .u32 0, .int .u32 0, .int .u32 0, .int .u32 0, .int .u32 0, .int .u32 0, .int .u32 0, .int .u32 0, .int .u32 0, .int .u32 0, .int .u32 0, .int .u32 0, .int .u32 0, .int .u32 0, .int .u32 0, .int .u32 0, .int .u32 0, .int .u32 0, .int .u32 0, .int .u32 0, .int .u32 0, .int .u32 0, .int .u32 0, .int .u32 0, .int .u32 0, .int .u32 0, .int .u32 0, .int .u32 0, .int .u32 0, .int .u32 0, .int .u32 0, .int .u32 0, .int .u32 0, .int .u32 0, .int .u32 0, .int .u32 0, .int .u32 0, .int .u32 0, .int .u32 0, .int .u32 0, .int .u32 0, .int .u32 0, .int .u32 0, .int .u32 0, .int .u32 0, .int .u32 0, .int .u32 0, .int .u32 0, .int .u32 0, .int .u32 0, .int .u32 0, .int .u32 0, .int .u32 0, .int .u32 0, .int .u32 0, .int .u32 0, .int .u32 0, .int .u32 0, .int .u32 0, .int .u32 0]))])
   (sSeq (sSeq (sRegion [iOp (put 4) (.v false (oEv ⟨fun _ => .int .i64 0⟩))])
     (sBlock 0 (sLoop c130_1)))
    (sSeq (sRegion [iOp (put 23) (.v false (oSliceA 256 1 (sel 1) none none none)),
       iOp (put 0) (.v false (oEv (sel 23)))])
     (sEx .ret))))⟩
theorem d130 : denF Tryz.prog 130 = some c130 := denF_of (by kernel_rfl)
noncomputable def c255_0 : Vm.Sem := sSeq (sRegion [iOp (put 15) (.v false (oInt2 fLss (sel 14) (sel 13)))])
 (sSeq (sCond (sel 15)
    (sEx .normal)
    (sEx (.exit 0)))
  (sSeq (sBlock 1 (sSeq (sRegion [iOp (put 16) (.v false (oIndexAddrS 1 (sel 12) (sel 14))),
       iOp (put 17) (.v true (oLoad1 (sel 16))),
       iOp (put 8) (.v false (oEv (sel 17)))])
     (sRegion [iOp (put 18) (.v false (oEv (sel 1))),
       iOp (put 19) (.v false (oSh fShr (sel 18) ⟨fun _ => .int .u64 8⟩)),
       iOp (put 20) (.v false (oEv (sel 0))),
       iOp (put 21) (.v false (oEv (sel 1))),
       iOp (put 22) (.v false (oConvInt .u8 (sel 21))),
       iOp (put 23) (.v false (oEv (sel 8))),
       iOp (put 24) (.v false (oInt2 fXor (sel 22) (sel 23))),
       iOp (put 25) (.v false (oIndexAddrS 1 (sel 20) (sel 24))),
       iOp (put 26) (.v true (oLoad1 (sel 25))),
       iOp (put 27) (.v false (oInt2 fXor (sel 19) (sel 26))),
       iOp (put 1) (.v false (oEv (sel 27)))])))
   (sRegion [iOp (put 28) (.v false (oInt2 fAdd (sel 14) ⟨fun _ => .int .i64 1⟩)),
     iOp (put 14) (.v false (oEv (sel 28)))])))
/-- bollard/crc.Step -/
noncomputable def c255 : CF := ⟨30, [.tmp (sel 6)],
  sSeq (sRegion [iOp (put 6) (.v false (oEv ⟨fun _ => .int .u32 0⟩))])
  (sSeq (sSeq (sRegion [iOp (put 9) (.v false (oEv (sel 0))),
      iOp (put 10) (.v false (oLenS (sel 9))),
      iOp (put 11) (.v false (oNe (.one 1) (sel 10) ⟨fun _ => .int .i64 256⟩))])
    (sCond (sel 11)
      (sSeq (sRegion [iOp (put 6) (.v false (oEv ⟨fun _ => .int .u32 0⟩))])
       (sEx .ret))
      (sEx .normal)))
   (sSeq (sSeq (sRegion [iOp (put 12) (.v false (oEv (sel 2))),
       iOp (put 13) (.v false (oLenS (sel 12))),
       iOp (put 14) (.v false (oEv ⟨fun _ => .int .i64 0⟩))])
     (sBlock 0 (sLoop c255_0)))
    (sSeq (sRegion [iOp (put 29) (.v false (oEv (sel 1))),
       iOp (put 6) (.v false (oEv (sel 29)))])
     (sEx .ret))))⟩
theorem d255 : denF Tryz.prog 255 = some c255 := denF_of (by kernel_rfl)
end Go.Proofs.YtoeienklpfbfmaaGreatDoor

