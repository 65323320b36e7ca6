/- Part of a proof by an abstract run of the program's code: MD. No condition. -/
import Derived.Test.YtkbanhfdfmodkaaMC
namespace Go.Proofs.Ytkbanhfdfmodkaa
open Go Vm
noncomputable def c3_0 : Vm.Sem := sSeq (sSeq (sRegion [iOp (put 25) (.v false (oEv (sel 7))),
    iOp (put 26) (.v false (oEv (sel 0))),
    iOp (put 27) (.v false (oLenS (sel 26))),
    iOp (put 28) (.v false (oInt2 fLss (sel 25) (sel 27)))])
  (sCond (sel 28)
    (sEx .normal)
    (sEx (.exit 0))))
 (sSeq (sBlock 1 (sRegion [iOp (put 31) (.v false (oEv (sel 6))),
     iOp (put 32) (.v false (oEv (sel 7))),
     iOp (put 33) (.v false (oEv (sel 0))),
     iOp (put 34) (.v false (oEv (sel 7))),
     iOp (put 35) (.v false (oIndexAddrS 1 (sel 33) (sel 34))),
     iOp (put 36) (.v true (oLoad1 (sel 35))),
     iOp (put 37) (.e (eCallF 9 [(sel 31), (sel 32), (sel 36)]))]))
  (sRegion [iOp (put 29) (.v false (oEv (sel 7))),
    iOp (put 30) (.v false (oInt2 fAdd (sel 29) ⟨fun _ => .int .i64 1⟩)),
    iOp (put 7) (.v false (oEv (sel 30)))]))
noncomputable def c3_1 : Vm.Sem := sSeq (sSeq (sRegion [iOp (put 68) (.v false (oEv (sel 11))),
    iOp (put 69) (.v false (oEv (sel 10))),
    iOp (put 70) (.v false (oLenS (sel 69))),
    iOp (put 71) (.v false (oInt2 fLss (sel 68) (sel 70)))])
  (sCond (sel 71)
    (sEx .normal)
    (sEx (.exit 4))))
 (sSeq (sBlock 5 (sSeq (sSeq (sRegion [iOp (put 74) (.v false (oEv (sel 10))),
       iOp (put 75) (.v false (oEv (sel 11))),
       iOp (put 76) (.v false (oIndexAddrS 1 (sel 74) (sel 75))),
       iOp (put 77) (.v true (oLoad1 (sel 76))),
       iOp (put 78) (.v false (oInt2 fLss (sel 77) ⟨fun _ => .int .i64 0⟩)),
       iOp (put 79) (.v false (oEv (sel 78))),
       iGuard (sel 79) false (put 80) (iOp (put 80) (.v false (oEv (sel 10)))),
       iGuard (sel 79) false (put 81) (iOp (put 81) (.v false (oEv (sel 11)))),
       iGuard (sel 79) false (put 82) (iOp (put 82) (.v false (oIndexAddrS 1 (sel 80) (sel 81)))),
       iGuard (sel 79) false (put 83) (iOp (put 83) (.v true (oLoad1 (sel 82)))),
       iGuard (sel 79) false (put 84) (iOp (put 84) (.v false (oEv (sel 8)))),
       iGuard (sel 79) false (put 85) (iOp (put 85) (.v false (oLenS (sel 84)))),
       iGuard (sel 79) false (put 86) (iOp (put 86) (.v false (oInt2 fGeq (sel 83) (sel 85)))),
       iOp (put 87) (.v false (oPick (sel 79) ⟨fun _ => .bool true⟩ (sel 86))),
       iOp (put 88) (.v false (oEv (sel 87))),
       iGuard (sel 88) false (put 89) (iOp (put 89) (.v false (oEv (sel 8)))),
       iGuard (sel 88) false (put 90) (iOp (put 90) (.v false (oEv (sel 10)))),
       iGuard (sel 88) false (put 91) (iOp (put 91) (.v false (oEv (sel 11)))),
       iGuard (sel 88) false (put 92) (iOp (put 92) (.v false (oIndexAddrS 1 (sel 90) (sel 91)))),
       iGuard (sel 88) false (put 93) (iOp (put 93) (.v true (oLoad1 (sel 92)))),
       iGuard (sel 88) false (put 94) (iOp (put 94) (.v false (oIndexAddrS 1 (sel 89) (sel 93)))),
       iGuard (sel 88) false (put 95) (iOp (put 95) (.v true (oLoad1 (sel 94)))),
       iOp (put 96) (.v false (oPick (sel 88) ⟨fun _ => .bool true⟩ (sel 95))),
       iOp (put 97) (.v false (oEv (sel 96))),
       iGuard (sel 97) false (put 98) (iOp (put 98) (.v false (oEv (sel 0)))),
       iGuard (sel 97) false (put 99) (iOp (put 99) (.v false (oEv (sel 10)))),
       iGuard (sel 97) false (put 100) (iOp (put 100) (.v false (oEv (sel 11)))),
       iGuard (sel 97) false (put 101) (iOp (put 101) (.v false (oIndexAddrS 1 (sel 99) (sel 100)))),
       iGuard (sel 97) false (put 102) (iOp (put 102) (.v true (oLoad1 (sel 101)))),
       iGuard (sel 97) false (put 103) (iOp (put 103) (.v false (oIndexAddrS 1 (sel 98) (sel 102)))),
       iGuard (sel 97) false (put 104) (iOp (put 104) (.v true (oLoad1 (sel 103)))),
       iGuard (sel 97) false (put 105) (iOp (put 105) (.v false (oEv (sel 1)))),
       iGuard (sel 97) false (put 106) (iOp (put 106) (.v false (oEv (sel 9)))),
       iGuard (sel 97) false (put 107) (iOp (put 107) (.v false (oIndexAddrS 1 (sel 105) (sel 106)))),
       iGuard (sel 97) false (put 108) (iOp (put 108) (.v true (oLoad1 (sel 107)))),
       iGuard (sel 97) false (put 109) (iOp (put 109) (.v false (oInt2 fGtr (sel 104) (sel 108)))),
       iOp (put 110) (.v false (oPick (sel 97) ⟨fun _ => .bool true⟩ (sel 109))),
       iOp (put 111) (.v false (oEv (sel 110))),
       iGuard (sel 111) false (put 112) (iOp (put 112) (.v false (oEv (sel 9)))),
       iGuard (sel 111) false (put 113) (iOp (put 113) (.v false (oInt2 fGtr (sel 112) ⟨fun _ => .int .i64 0⟩))),
       iGuard (sel 111) false (put 114) (iOp (put 114) (.v false (oEv (sel 113)))),
       iGuard (sel 114) true (put 115) (iOp (put 115) (.v false (oEv (sel 0)))),
       iGuard (sel 114) true (put 116) (iOp (put 116) (.v false (oEv (sel 10)))),
       iGuard (sel 114) true (put 117) (iOp (put 117) (.v false (oEv (sel 11)))),
       iGuard (sel 114) true (put 118) (iOp (put 118) (.v false (oIndexAddrS 1 (sel 116) (sel 117)))),
       iGuard (sel 114) true (put 119) (iOp (put 119) (.v true (oLoad1 (sel 118)))),
       iGuard (sel 114) true (put 120) (iOp (put 120) (.v false (oIndexAddrS 1 (sel 115) (sel 119)))),
       iGuard (sel 114) true (put 121) (iOp (put 121) (.v true (oLoad1 (sel 120)))),
       iGuard (sel 114) true (put 122) (iOp (put 122) (.v false (oEv (sel 1)))),
       iGuard (sel 114) true (put 123) (iOp (put 123) (.v false (oEv (sel 9)))),
       iGuard (sel 114) true (put 124) (iOp (put 124) (.v false (oInt2 fSub (sel 123) ⟨fun _ => .int .i64 1⟩))),
       iGuard (sel 114) true (put 125) (iOp (put 125) (.v false (oIndexAddrS 1 (sel 122) (sel 124)))),
       iGuard (sel 114) true (put 126) (iOp (put 126) (.v true (oLoad1 (sel 125)))),
       iGuard (sel 114) true (put 127) (iOp (put 127) (.v false (oInt2 fLeq (sel 121) (sel 126)))),
       iGuard (sel 111) false (put 128) (iOp (put 128) (.v false (oPick (sel 114) (sel 127) ⟨fun _ => .bool false⟩))),
       iOp (put 129) (.v false (oPick (sel 111) ⟨fun _ => .bool true⟩ (sel 128)))])
     (sCond (sel 129)
       (sSeq (sRegion [iOp (put 4) (.v false (oEv ⟨fun _ => .bool false⟩))])
        (sEx .ret))
       (sEx .normal)))
    (sRegion [iOp (put 130) (.v false (oEv (sel 8))),
      iOp (put 131) (.v false (oEv (sel 10))),
      iOp (put 132) (.v false (oEv (sel 11))),
      iOp (put 133) (.v false (oIndexAddrS 1 (sel 131) (sel 132))),
      iOp (put 134) (.v true (oLoad1 (sel 133))),
      iOp (put 135) (.v false (oIndexAddrS 1 (sel 130) (sel 134))),
      iOp ⟨fun _ a => a⟩ (.e (eStore 1 (sel 135) ⟨fun _ => .bool true⟩))])))
  (sRegion [iOp (put 72) (.v false (oEv (sel 11))),
    iOp (put 73) (.v false (oInt2 fAdd (sel 72) ⟨fun _ => .int .i64 1⟩)),
    iOp (put 11) (.v false (oEv (sel 73)))]))
noncomputable def c3_2 : Vm.Sem := sSeq (sSeq (sRegion [iOp (put 41) (.v false (oEv (sel 9))),
    iOp (put 42) (.v false (oEv (sel 1))),
    iOp (put 43) (.v false (oLenS (sel 42))),
    iOp (put 44) (.v false (oInt2 fLss (sel 41) (sel 43)))])
  (sCond (sel 44)
    (sEx .normal)
    (sEx (.exit 2))))
 (sSeq (sBlock 3 (sSeq (sSeq (sRegion [iOp (put 47) (.v false (oEv (sel 9))),
       iOp (put 48) (.v false (oInt2 fGtr (sel 47) ⟨fun _ => .int .i64 0⟩)),
       iOp (put 49) (.v false (oEv (sel 48))),
       iGuard (sel 49) true (put 50) (iOp (put 50) (.v false (oEv (sel 1)))),
       iGuard (sel 49) true (put 51) (iOp (put 51) (.v false (oEv (sel 9)))),
       iGuard (sel 49) true (put 52) (iOp (put 52) (.v false (oIndexAddrS 1 (sel 50) (sel 51)))),
       iGuard (sel 49) true (put 53) (iOp (put 53) (.v true (oLoad1 (sel 52)))),
       iGuard (sel 49) true (put 54) (iOp (put 54) (.v false (oEv (sel 1)))),
       iGuard (sel 49) true (put 55) (iOp (put 55) (.v false (oEv (sel 9)))),
       iGuard (sel 49) true (put 56) (iOp (put 56) (.v false (oInt2 fSub (sel 55) ⟨fun _ => .int .i64 1⟩))),
       iGuard (sel 49) true (put 57) (iOp (put 57) (.v false (oIndexAddrS 1 (sel 54) (sel 56)))),
       iGuard (sel 49) true (put 58) (iOp (put 58) (.v true (oLoad1 (sel 57)))),
       iGuard (sel 49) true (put 59) (iOp (put 59) (.v false (oInt2 fLss (sel 53) (sel 58)))),
       iOp (put 60) (.v false (oPick (sel 49) (sel 59) ⟨fun _ => .bool false⟩))])
     (sCond (sel 60)
       (sSeq (sRegion [iOp (put 61) (.v false (oEv (sel 5))),
          iOp (put 4) (.v false (oEv (sel 61)))])
        (sEx .ret))
       (sEx .normal)))
    (sSeq (sRegion [iOp (put 62) (.v false (oEv (sel 6))),
       iOp (put 63) (.v false (oEv (sel 1))),
       iOp (put 64) (.v false (oEv (sel 9))),
       iOp (put 65) (.v false (oIndexAddrS 1 (sel 63) (sel 64))),
       iOp (put 66) (.v true (oLoad1 (sel 65))),
       iOp (put 67) (.e (eCallF 10 [(sel 62), (sel 66)])),
       iOp (put 10) (.v false (oEv (sel 67)))])
     (sSeq (sRegion [iOp (put 11) (.v false (oEv ⟨fun _ => .int .i64 0⟩))])
      (sBlock 4 (sLoop c3_1))))))
  (sRegion [iOp (put 45) (.v false (oEv (sel 9))),
    iOp (put 46) (.v false (oInt2 fAdd (sel 45) ⟨fun _ => .int .i64 1⟩)),
    iOp (put 9) (.v false (oEv (sel 46)))]))
noncomputable def c3_3 : Vm.Sem := sSeq (sSeq (sRegion [iOp (put 136) (.v false (oEv (sel 12))),
    iOp (put 137) (.v false (oEv (sel 0))),
    iOp (put 138) (.v false (oLenS (sel 137))),
    iOp (put 139) (.v false (oInt2 fLss (sel 136) (sel 138))),
    iOp (put 140) (.v false (oEv (sel 139))),
    iGuard (sel 140) true (put 141) (iOp (put 141) (.v false (oEv (sel 1)))),
    iGuard (sel 140) true (put 142) (iOp (put 142) (.v false (oLenS (sel 141)))),
    iGuard (sel 140) true (put 143) (iOp (put 143) (.v false (oInt2 fGtr (sel 142) ⟨fun _ => .int .i64 0⟩))),
    iOp (put 144) (.v false (oPick (sel 140) (sel 143) ⟨fun _ => .bool false⟩))])
  (sCond (sel 144)
    (sEx .normal)
    (sEx (.exit 6))))
 (sSeq (sBlock 7 (sSeq (sRegion [iOp (put 147) (.v false (oEv (sel 8))),
      iOp (put 148) (.v false (oEv (sel 12))),
      iOp (put 149) (.v false (oIndexAddrS 1 (sel 147) (sel 148))),
      iOp (put 150) (.v true (oLoad1 (sel 149))),
      iOp (put 151) (.v false (oEv (sel 0))),
      iOp (put 152) (.v false (oEv (sel 12))),
      iOp (put 153) (.v false (oIndexAddrS 1 (sel 151) (sel 152))),
      iOp (put 154) (.v true (oLoad1 (sel 153))),
      iOp (put 155) (.v false (oEv (sel 1))),
      iOp (put 156) (.v false (oEv (sel 1))),
      iOp (put 157) (.v false (oLenS (sel 156))),
      iOp (put 158) (.v false (oInt2 fSub (sel 157) ⟨fun _ => .int .i64 1⟩)),
      iOp (put 159) (.v false (oIndexAddrS 1 (sel 155) (sel 158))),
      iOp (put 160) (.v true (oLoad1 (sel 159))),
      iOp (put 161) (.v false (oInt2 fLeq (sel 154) (sel 160))),
      iOp (put 162) (.v false (oNe (.one 0) (sel 150) (sel 161)))])
    (sCond (sel 162)
      (sSeq (sRegion [iOp (put 4) (.v false (oEv ⟨fun _ => .bool false⟩))])
       (sEx .ret))
      (sEx .normal))))
  (sRegion [iOp (put 145) (.v false (oEv (sel 12))),
    iOp (put 146) (.v false (oInt2 fAdd (sel 145) ⟨fun _ => .int .i64 1⟩)),
    iOp (put 12) (.v false (oEv (sel 146)))]))
/-- bollard/bollardlaw05.TimerOnce -/
noncomputable def c3 : CF := ⟨164, [.tmp (sel 4)],
  sSeq (sRegion [iOp (put 4) (.v false (oEv ⟨fun _ => .bool false⟩))])
  (sSeq (sRegion [iOp (put 13) (.e (eCallF 8 [])),
     iOp (put 5) (.v false (oEv (sel 13)))])
   (sSeq (sSeq (sRegion [iOp (put 14) (.v false (oEv (sel 0))),
       iOp (put 15) (.v false (oLenS (sel 14))),
       iOp (put 16) (.v false (oInt2 fGtr (sel 15) ⟨fun _ => .int .i64 50⟩)),
       iOp (put 17) (.v false (oEv (sel 16))),
       iGuard (sel 17) false (put 18) (iOp (put 18) (.v false (oEv (sel 1)))),
       iGuard (sel 17) false (put 19) (iOp (put 19) (.v false (oLenS (sel 18)))),
       iGuard (sel 17) false (put 20) (iOp (put 20) (.v false (oInt2 fGtr (sel 19) ⟨fun _ => .int .i64 50⟩))),
       iOp (put 21) (.v false (oPick (sel 17) ⟨fun _ => .bool true⟩ (sel 20)))])
     (sCond (sel 21)
       (sSeq (sRegion [iOp (put 22) (.v false (oEv (sel 5))),
          iOp (put 4) (.v false (oEv (sel 22)))])
        (sEx .ret))
       (sEx .normal)))
    (sSeq (sRegion [iOp (put 23) (.v false (oBuild [.map none] [])),
       iOp (put 24) (.a (aBox 27 (sel 23))),
       iOp (put 6) (.v false (oEv (sel 24)))])
     (sSeq (sSeq (sRegion [iOp (put 7) (.v false (oEv ⟨fun _ => .int .i64 0⟩))])
       (sBlock 0 (sLoop c3_0)))
      (sSeq (sRegion [iOp (put 38) (.v false (oEv (sel 0))),
         iOp (put 39) (.v false (oLenS (sel 38))),
         iOp (put 40) (.a (aMakeSlice 4 1 [.bool false] (sel 39) (sel 39))),
         iOp (put 8) (.v false (oEv (sel 40)))])
       (sSeq (sSeq (sRegion [iOp (put 9) (.v false (oEv ⟨fun _ => .int .i64 0⟩))])
         (sBlock 2 (sLoop c3_2)))
        (sSeq (sSeq (sRegion [iOp (put 12) (.v false (oEv ⟨fun _ => .int .i64 0⟩))])
          (sBlock 6 (sLoop c3_3)))
         (sSeq (sRegion [iOp (put 163) (.v false (oEv (sel 5))),
            iOp (put 4) (.v false (oEv (sel 163)))])
          (sEx .ret)))))))))⟩
theorem d3 : denF Try.prog 3 = some c3 := denF_of (by kernel_rfl)
noncomputable def c4_0 : Vm.Sem := sSeq (sSeq (sRegion [iOp (put 29) (.v false (oEv (sel 10))),
    iOp (put 30) (.v false (oEv (sel 0))),
    iOp (put 31) (.v false (oLenS (sel 30))),
    iOp (put 32) (.v false (oInt2 fLss (sel 29) (sel 31)))])
  (sCond (sel 32)
    (sEx .normal)
    (sEx (.exit 0))))
 (sSeq (sBlock 1 (sSeq (sRegion [iOp (put 35) (.v false (oEv (sel 8))),
      iOp (put 36) (.v false (oEv (sel 10))),
      iOp (put 37) (.v false (oEv (sel 0))),
      iOp (put 38) (.v false (oEv (sel 10))),
      iOp (put 39) (.v false (oIndexAddrS 1 (sel 37) (sel 38))),
      iOp (put 40) (.v true (oLoad1 (sel 39))),
      iOp (put 41) (.e (eCallF 9 [(sel 35), (sel 36), (sel 40)]))])
    (sRegion [iOp (put 42) (.v false (oEv (sel 9))),
      iOp (put 43) (.v false (oEv (sel 10))),
      iOp (put 44) (.v false (oEv (sel 0))),
      iOp (put 45) (.v false (oEv (sel 10))),
      iOp (put 46) (.v false (oIndexAddrS 1 (sel 44) (sel 45))),
      iOp (put 47) (.v true (oLoad1 (sel 46))),
      iOp (put 48) (.e (eCallF 9 [(sel 42), (sel 43), (sel 47)]))])))
  (sRegion [iOp (put 33) (.v false (oEv (sel 10))),
    iOp (put 34) (.v false (oInt2 fAdd (sel 33) ⟨fun _ => .int .i64 1⟩)),
    iOp (put 10) (.v false (oEv (sel 34)))]))
noncomputable def c4_1 : Vm.Sem := sSeq (sSeq (sRegion [iOp (put 56) (.v false (oEv (sel 12))),
    iOp (put 57) (.v false (oEv (sel 11))),
    iOp (put 58) (.v false (oLenS (sel 57))),
    iOp (put 59) (.v false (oInt2 fLss (sel 56) (sel 58)))])
  (sCond (sel 59)
    (sEx .normal)
    (sEx (.exit 2))))
 (sSeq (sBlock 3 (sSeq (sRegion [iOp (put 62) (.v false (oEv (sel 11))),
      iOp (put 63) (.v false (oEv (sel 12))),
      iOp (put 64) (.v false (oInt2 fSub (sel 63) ⟨fun _ => .int .i64 1⟩)),
      iOp (put 65) (.v false (oIndexAddrS 1 (sel 62) (sel 64))),
      iOp (put 66) (.v true (oLoad1 (sel 65))),
      iOp (put 13) (.v false (oEv (sel 66)))])
    (sSeq (sRegion [iOp (put 67) (.v false (oEv (sel 11))),
       iOp (put 68) (.v false (oEv (sel 12))),
       iOp (put 69) (.v false (oIndexAddrS 1 (sel 67) (sel 68))),
       iOp (put 70) (.v true (oLoad1 (sel 69))),
       iOp (put 14) (.v false (oEv (sel 70)))])
     (sSeq (sRegion [iOp (put 71) (.v false (oEv (sel 13))),
        iOp (put 72) (.v false (oInt2 fLss (sel 71) ⟨fun _ => .int .i64 0⟩)),
        iOp (put 73) (.v false (oEv (sel 72))),
        iGuard (sel 73) false (put 74) (iOp (put 74) (.v false (oEv (sel 14)))),
        iGuard (sel 73) false (put 75) (iOp (put 75) (.v false (oInt2 fLss (sel 74) ⟨fun _ => .int .i64 0⟩))),
        iOp (put 76) (.v false (oPick (sel 73) ⟨fun _ => .bool true⟩ (sel 75))),
        iOp (put 77) (.v false (oEv (sel 76))),
        iGuard (sel 77) false (put 78) (iOp (put 78) (.v false (oEv (sel 13)))),
        iGuard (sel 77) false (put 79) (iOp (put 79) (.v false (oEv (sel 0)))),
        iGuard (sel 77) false (put 80) (iOp (put 80) (.v false (oLenS (sel 79)))),
        iGuard (sel 77) false (put 81) (iOp (put 81) (.v false (oInt2 fGeq (sel 78) (sel 80)))),
        iOp (put 82) (.v false (oPick (sel 77) ⟨fun _ => .bool true⟩ (sel 81))),
        iOp (put 83) (.v false (oEv (sel 82))),
        iGuard (sel 83) false (put 84) (iOp (put 84) (.v false (oEv (sel 14)))),
        iGuard (sel 83) false (put 85) (iOp (put 85) (.v false (oEv (sel 0)))),
        iGuard (sel 83) false (put 86) (iOp (put 86) (.v false (oLenS (sel 85)))),
        iGuard (sel 83) false (put 87) (iOp (put 87) (.v false (oInt2 fGeq (sel 84) (sel 86)))),
        iOp (put 88) (.v false (oPick (sel 83) ⟨fun _ => .bool true⟩ (sel 87))),
        iOp (put 89) (.v false (oEv (sel 88))),
        iGuard (sel 89) false (put 90) (iOp (put 90) (.v false (oEv (sel 0)))),
        iGuard (sel 89) false (put 91) (iOp (put 91) (.v false (oEv (sel 13)))),
        iGuard (sel 89) false (put 92) (iOp (put 92) (.v false (oIndexAddrS 1 (sel 90) (sel 91)))),
        iGuard (sel 89) false (put 93) (iOp (put 93) (.v true (oLoad1 (sel 92)))),
        iGuard (sel 89) false (put 94) (iOp (put 94) (.v false (oEv (sel 0)))),
        iGuard (sel 89) false (put 95) (iOp (put 95) (.v false (oEv (sel 14)))),
        iGuard (sel 89) false (put 96) (iOp (put 96) (.v false (oIndexAddrS 1 (sel 94) (sel 95)))),
        iGuard (sel 89) false (put 97) (iOp (put 97) (.v true (oLoad1 (sel 96)))),
        iGuard (sel 89) false (put 98) (iOp (put 98) (.v false (oInt2 fGtr (sel 93) (sel 97)))),
        iOp (put 99) (.v false (oPick (sel 89) ⟨fun _ => .bool true⟩ (sel 98))),
        iOp (put 100) (.v false (oEv (sel 99))),
        iGuard (sel 100) false (put 101) (iOp (put 101) (.v false (oEv (sel 0)))),
        iGuard (sel 100) false (put 102) (iOp (put 102) (.v false (oEv (sel 13)))),
        iGuard (sel 100) false (put 103) (iOp (put 103) (.v false (oIndexAddrS 1 (sel 101) (sel 102)))),
        iGuard (sel 100) false (put 104) (iOp (put 104) (.v true (oLoad1 (sel 103)))),
        iGuard (sel 100) false (put 105) (iOp (put 105) (.v false (oEv (sel 0)))),
        iGuard (sel 100) false (put 106) (iOp (put 106) (.v false (oEv (sel 14)))),
        iGuard (sel 100) false (put 107) (iOp (put 107) (.v false (oIndexAddrS 1 (sel 105) (sel 106)))),
        iGuard (sel 100) false (put 108) (iOp (put 108) (.v true (oLoad1 (sel 107)))),
        iGuard (sel 100) false (put 109) (iOp (put 109) (.v false (oEq (.one 1) (sel 104) (sel 108)))),
        iGuard (sel 100) false (put 110) (iOp (put 110) (.v false (oEv (sel 109)))),
        iGuard (sel 110) true (put 111) (iOp (put 111) (.v false (oEv (sel 13)))),
        iGuard (sel 110) true (put 112) (iOp (put 112) (.v false (oEv (sel 14)))),
        iGuard (sel 110) true (put 113) (iOp (put 113) (.v false (oInt2 fGtr (sel 111) (sel 112)))),
        iGuard (sel 100) false (put 114) (iOp (put 114) (.v false (oPick (sel 110) (sel 113) ⟨fun _ => .bool false⟩))),
        iOp (put 115) (.v false (oPick (sel 100) ⟨fun _ => .bool true⟩ (sel 114)))])
      (sCond (sel 115)
        (sSeq (sRegion [iOp (put 6) (.v false (oEv ⟨fun _ => .bool false⟩))])
         (sEx .ret))
        (sEx .normal))))))
  (sRegion [iOp (put 60) (.v false (oEv (sel 12))),
    iOp (put 61) (.v false (oInt2 fAdd (sel 60) ⟨fun _ => .int .i64 1⟩)),
    iOp (put 12) (.v false (oEv (sel 61)))]))
/-- bollard/bollardlaw05.TimerOrder -/
noncomputable def c4 : CF := ⟨131, [.tmp (sel 6)],
  sSeq (sRegion [iOp (put 6) (.v false (oEv ⟨fun _ => .bool false⟩))])
  (sSeq (sRegion [iOp (put 15) (.e (eCallF 8 [])),
     iOp (put 7) (.v false (oEv (sel 15)))])
   (sSeq (sSeq (sRegion [iOp (put 16) (.v false (oEv (sel 0))),
       iOp (put 17) (.v false (oLenS (sel 16))),
       iOp (put 18) (.v false (oInt2 fGtr (sel 17) ⟨fun _ => .int .i64 60⟩)),
       iOp (put 19) (.v false (oEv (sel 18))),
       iGuard (sel 19) false (put 20) (iOp (put 20) (.v false (oEv (sel 1)))),
       iGuard (sel 19) false (put 21) (iOp (put 21) (.v false (oEv (sel 2)))),
       iGuard (sel 19) false (put 22) (iOp (put 22) (.v false (oInt2 fGtr (sel 20) (sel 21)))),
       iOp (put 23) (.v false (oPick (sel 19) ⟨fun _ => .bool true⟩ (sel 22)))])
     (sCond (sel 23)
       (sSeq (sRegion [iOp (put 24) (.v false (oEv (sel 7))),
          iOp (put 6) (.v false (oEv (sel 24)))])
        (sEx .ret))
       (sEx .normal)))
    (sSeq (sRegion [iOp (put 25) (.v false (oBuild [.map none] [])),
       iOp (put 26) (.a (aBox 27 (sel 25))),
       iOp (put 8) (.v false (oEv (sel 26)))])
     (sSeq (sRegion [iOp (put 27) (.v false (oBuild [.map none] [])),
        iOp (put 28) (.a (aBox 27 (sel 27))),
        iOp (put 9) (.v false (oEv (sel 28)))])
      (sSeq (sSeq (sRegion [iOp (put 10) (.v false (oEv ⟨fun _ => .int .i64 0⟩))])
        (sBlock 0 (sLoop c4_0)))
       (sSeq (sRegion [iOp (put 49) (.v false (oEv (sel 8))),
          iOp (put 50) (.v false (oEv (sel 1))),
          iOp (put 51) (.e (eCallF 10 [(sel 49), (sel 50)])),
          iOp (put 52) (.v false (oEv (sel 8))),
          iOp (put 53) (.v false (oEv (sel 2))),
          iOp (put 54) (.e (eCallF 10 [(sel 52), (sel 53)])),
          iOp (put 55) (.e (eAppend 3 1 8 (sel 51) (sel 54))),
          iOp (put 11) (.v false (oEv (sel 55)))])
        (sSeq (sSeq (sRegion [iOp (put 12) (.v false (oEv ⟨fun _ => .int .i64 1⟩))])
          (sBlock 2 (sLoop c4_1)))
         (sSeq (sRegion [iOp (put 116) (.v false (oEv (sel 7))),
            iOp (put 117) (.v false (oEv (sel 116))),
            iGuard (sel 117) true (put 118) (iOp (put 118) (.v false (oEv (sel 11)))),
            iGuard (sel 117) true (put 119) (iOp (put 119) (.v false (oEv (sel 9)))),
            iGuard (sel 117) true (put 120) (iOp (put 120) (.v false (oEv (sel 2)))),
            iGuard (sel 117) true (put 121) (iOp (put 121) (.e (eCallF 10 [(sel 119), (sel 120)]))),
            iGuard (sel 117) true (put 122) (iOp (put 122) (.e (eCallF 11 [(sel 118), (sel 121)]))),
            iOp (put 123) (.v false (oPick (sel 117) (sel 122) ⟨fun _ => .bool false⟩)),
            iOp (put 124) (.v false (oEv (sel 123))),
            iGuard (sel 124) true (put 125) (iOp (put 125) (.v false (oEv (sel 8)))),
            iGuard (sel 124) true (put 126) (iOp (put 126) (.e (eCallF 12 [(sel 125)]))),
            iGuard (sel 124) true (put 127) (iOp (put 127) (.v false (oEv (sel 9)))),
            iGuard (sel 124) true (put 128) (iOp (put 128) (.e (eCallF 12 [(sel 127)]))),
            iGuard (sel 124) true (put 129) (iOp (put 129) (.v false (oEq (.one 1) (sel 126) (sel 128)))),
            iOp (put 130) (.v false (oPick (sel 124) (sel 129) ⟨fun _ => .bool false⟩)),
            iOp (put 6) (.v false (oEv (sel 130)))])
          (sEx .ret)))))))))⟩
theorem d4 : denF Try.prog 4 = some c4 := denF_of (by kernel_rfl)
noncomputable def c5_0 : Vm.Sem := sSeq (sSeq (sRegion [iOp (put 24) (.v false (oEv (sel 6))),
    iOp (put 25) (.v false (oEv (sel 0))),
    iOp (put 26) (.v false (oLenS (sel 25))),
    iOp (put 27) (.v false (oInt2 fLss (sel 24) (sel 26)))])
  (sCond (sel 27)
    (sEx .normal)
    (sEx (.exit 0))))
 (sSeq (sBlock 1 (sSeq (sSeq (sRegion [iOp (put 30) (.v false (oEv (sel 0))),
       iOp (put 31) (.v false (oEv (sel 6))),
       iOp (put 32) (.v false (oIndexAddrS 3 (sel 30) (sel 31))),
       iOp (put 33) (.v false (oFieldAddr 0 (sel 32))),
       iOp (put 34) (.v true (oLoad1 (sel 33)))])
     (sBlock 2 (sSeq (sRegion [iOp (put 58) (.v false (oEq (.one 1) (sel 34) ⟨fun _ => .int .i64 0⟩)),
         iOp (put 57) (.v false (oEv (sel 58)))])
       (sCond (sel 57)
         (sSeq (sOne (sRegion [iOp (put 59) (.v false (oEv (sel 4))),
            iOp (put 60) (.v false (oEv (sel 0))),
            iOp (put 61) (.v false (oEv (sel 6))),
            iOp (put 62) (.v false (oIndexAddrS 3 (sel 60) (sel 61))),
            iOp (put 63) (.v false (oFieldAddr 1 (sel 62))),
            iOp (put 64) (.v true (oLoad1 (sel 63))),
            iOp (put 65) (.v false (oEv (sel 0))),
            iOp (put 66) (.v false (oEv (sel 6))),
            iOp (put 67) (.v false (oIndexAddrS 3 (sel 65) (sel 66))),
            iOp (put 68) (.v false (oFieldAddr 2 (sel 67))),
            iOp (put 69) (.v true (oLoad1 (sel 68))),
            iOp (put 70) (.e (eCallF 9 [(sel 59), (sel 64), (sel 69)]))]))
          (sOne (sRegion [iOp (put 71) (.v false (oEv (sel 5))),
            iOp (put 72) (.v false (oEv (sel 0))),
            iOp (put 73) (.v false (oEv (sel 6))),
            iOp (put 74) (.v false (oIndexAddrS 3 (sel 72) (sel 73))),
            iOp (put 75) (.v false (oFieldAddr 1 (sel 74))),
            iOp (put 76) (.v true (oLoad1 (sel 75))),
            iOp (put 77) (.v false (oEv (sel 0))),
            iOp (put 78) (.v false (oEv (sel 6))),
            iOp (put 79) (.v false (oIndexAddrS 3 (sel 77) (sel 78))),
            iOp (put 80) (.v false (oFieldAddr 2 (sel 79))),
            iOp (put 81) (.v true (oLoad1 (sel 80))),
            iOp (put 82) (.e (eCallF 13 [(sel 71), (sel 76), (sel 81)])),
            iOp (put 5) (.v false (oEv (sel 82)))])))
         (sSeq (sRegion [iOp (put 84) (.v false (oEq (.one 1) (sel 34) ⟨fun _ => .int .i64 1⟩)),
            iOp (put 83) (.v false (oEv (sel 84)))])
          (sCond (sel 83)
            (sSeq (sRegion [iOp (put 85) (.v false (oEv (sel 4))),
               iOp (put 86) (.v false (oEv (sel 0))),
               iOp (put 87) (.v false (oEv (sel 6))),
               iOp (put 88) (.v false (oIndexAddrS 3 (sel 86) (sel 87))),
               iOp (put 89) (.v false (oFieldAddr 1 (sel 88))),
               iOp (put 90) (.v true (oLoad1 (sel 89))),
               iOp (put 91) (.e (eCallF 14 [(sel 85), (sel 90)]))])
             (sRegion [iOp (put 92) (.v false (oEv (sel 5))),
               iOp (put 93) (.v false (oEv (sel 0))),
               iOp (put 94) (.v false (oEv (sel 6))),
               iOp (put 95) (.v false (oIndexAddrS 3 (sel 93) (sel 94))),
               iOp (put 96) (.v false (oFieldAddr 1 (sel 95))),
               iOp (put 97) (.v true (oLoad1 (sel 96))),
               iOp (put 98) (.e (eCallF 15 [(sel 92), (sel 97)])),
               iOp (put 5) (.v false (oEv (sel 98)))]))
            (sSeq (sRegion [iOp (put 35) (.v false (oEv (sel 4))),
               iOp (put 36) (.v false (oEv (sel 0))),
               iOp (put 37) (.v false (oEv (sel 6))),
               iOp (put 38) (.v false (oIndexAddrS 3 (sel 36) (sel 37))),
               iOp (put 39) (.v false (oFieldAddr 2 (sel 38))),
               iOp (put 40) (.v true (oLoad1 (sel 39))),
               iOp (put 41) (.e (eCallF 10 [(sel 35), (sel 40)])),
               iOp (put 7) (.v false (oEv (sel 41)))])
             (sSeq (sRegion [iOp (put 43) (.v false (oEv (sel 5))),
                iOp (put 44) (.v false (oEv (sel 0))),
                iOp (put 45) (.v false (oEv (sel 6))),
                iOp (put 46) (.v false (oIndexAddrS 3 (sel 44) (sel 45))),
                iOp (put 47) (.v false (oFieldAddr 2 (sel 46))),
                iOp (put 48) (.v true (oLoad1 (sel 47))),
                iOp (put 49) (.e (eCallF 16 [(sel 43), (sel 48)])),
                iOp (put 42) (.v false (oEv (sel 49))),
                iOp (put 50) (.v false (oExtract (sel 42) 0)),
                iOp (put 51) (.v false (oExtract (sel 42) 1)),
                iOp (put 8) (.v false (oEv (sel 50))),
                iOp (put 9) (.v false (oEv (sel 51)))])
              (sSeq (sRegion [iOp (put 52) (.v false (oEv (sel 9))),
                 iOp (put 5) (.v false (oEv (sel 52)))])
               (sSeq (sRegion [iOp (put 53) (.v false (oEv (sel 7))),
                  iOp (put 54) (.v false (oEv (sel 8))),
                  iOp (put 55) (.e (eCallF 11 [(sel 53), (sel 54)])),
                  iOp (put 56) (.v false (oNot (sel 55)))])
                (sCond (sel 56)
                  (sSeq (sRegion [iOp (put 2) (.v false (oEv ⟨fun _ => .bool false⟩))])
                   (sEx .ret))
                  (sEx .normal))))))))))))
    (sSeq (sRegion [iOp (put 100) (.v false (oEv (sel 4))),
       iOp (put 101) (.v false (oEv (sel 0))),
       iOp (put 102) (.v false (oEv (sel 6))),
       iOp (put 103) (.v false (oIndexAddrS 3 (sel 101) (sel 102))),
       iOp (put 104) (.v false (oFieldAddr 1 (sel 103))),
       iOp (put 105) (.v true (oLoad1 (sel 104))),
       iOp (put 106) (.e (eCallF 17 [(sel 100), (sel 105)])),
       iOp (put 99) (.v false (oEv (sel 106))),
       iOp (put 107) (.v false (oExtract (sel 99) 0)),
       iOp (put 108) (.v false (oExtract (sel 99) 1)),
       iOp (put 10) (.v false (oEv (sel 107))),
       iOp (put 11) (.v false (oEv (sel 108)))])
     (sSeq (sRegion [iOp (put 110) (.v false (oEv (sel 5))),
        iOp (put 111) (.v false (oEv (sel 0))),
        iOp (put 112) (.v false (oEv (sel 6))),
        iOp (put 113) (.v false (oIndexAddrS 3 (sel 111) (sel 112))),
        iOp (put 114) (.v false (oFieldAddr 1 (sel 113))),
        iOp (put 115) (.v true (oLoad1 (sel 114))),
        iOp (put 116) (.e (eCallF 18 [(sel 110), (sel 115)])),
        iOp (put 109) (.v false (oEv (sel 116))),
        iOp (put 117) (.v false (oExtract (sel 109) 0)),
        iOp (put 118) (.v false (oExtract (sel 109) 1)),
        iOp (put 12) (.v false (oEv (sel 117))),
        iOp (put 13) (.v false (oEv (sel 118)))])
      (sSeq (sRegion [iOp (put 120) (.v false (oEv (sel 4))),
         iOp (put 121) (.e (eCallF 19 [(sel 120)])),
         iOp (put 119) (.v false (oEv (sel 121))),
         iOp (put 122) (.v false (oExtract (sel 119) 0)),
         iOp (put 123) (.v false (oExtract (sel 119) 1)),
         iOp (put 124) (.v false (oExtract (sel 119) 2)),
         iOp (put 14) (.v false (oEv (sel 122))),
         iOp (put 15) (.v false (oEv (sel 123))),
         iOp (put 16) (.v false (oEv (sel 124)))])
       (sSeq (sRegion [iOp (put 125) (.v false (oEv (sel 10))),
          iOp (put 126) (.v false (oEv (sel 12))),
          iOp (put 127) (.v false (oNe (.one 1) (sel 125) (sel 126))),
          iOp (put 128) (.v false (oEv (sel 127))),
          iGuard (sel 128) false (put 129) (iOp (put 129) (.v false (oEv (sel 11)))),
          iGuard (sel 128) false (put 130) (iOp (put 130) (.v false (oEv (sel 13)))),
          iGuard (sel 128) false (put 131) (iOp (put 131) (.v false (oNe (.one 0) (sel 129) (sel 130)))),
          iOp (put 132) (.v false (oPick (sel 128) ⟨fun _ => .bool true⟩ (sel 131))),
          iOp (put 133) (.v false (oEv (sel 132))),
          iGuard (sel 133) false (put 134) (iOp (put 134) (.v false (oEv (sel 4)))),
          iGuard (sel 133) false (put 135) (iOp (put 135) (.e (eCallF 12 [(sel 134)]))),
          iGuard (sel 133) false (put 136) (iOp (put 136) (.v false (oEv (sel 5)))),
          iGuard (sel 133) false (put 137) (iOp (put 137) (.v false (oLenS (sel 136)))),
          iGuard (sel 133) false (put 138) (iOp (put 138) (.v false (oNe (.one 1) (sel 135) (sel 137)))),
          iOp (put 139) (.v false (oPick (sel 133) ⟨fun _ => .bool true⟩ (sel 138))),
          iOp (put 140) (.v false (oEv (sel 139))),
          iGuard (sel 140) false (put 141) (iOp (put 141) (.v false (oEv (sel 16)))),
          iGuard (sel 140) false (put 142) (iOp (put 142) (.v false (oEv (sel 5)))),
          iGuard (sel 140) false (put 143) (iOp (put 143) (.v false (oLenS (sel 142)))),
          iGuard (sel 140) false (put 144) (iOp (put 144) (.v false (oInt2 fGtr (sel 143) ⟨fun _ => .int .i64 0⟩))),
          iGuard (sel 140) false (put 145) (iOp (put 145) (.v false (oNe (.one 0) (sel 141) (sel 144)))),
          iOp (put 146) (.v false (oPick (sel 140) ⟨fun _ => .bool true⟩ (sel 145))),
          iOp (put 147) (.v false (oEv (sel 146))),
          iGuard (sel 147) false (put 148) (iOp (put 148) (.v false (oEv (sel 16)))),
          iGuard (sel 147) false (put 149) (iOp (put 149) (.v false (oEv (sel 148)))),
          iGuard (sel 149) true (put 150) (iOp (put 150) (.v false (oEv (sel 14)))),
          iGuard (sel 149) true (put 151) (iOp (put 151) (.v false (oEv (sel 5)))),
          iGuard (sel 149) true (put 152) (iOp (put 152) (.v false (oIndexAddrS 2 (sel 151) ⟨fun _ => .int .i64 0⟩))),
          iGuard (sel 149) true (put 153) (iOp (put 153) (.v false (oFieldAddr 0 (sel 152)))),
          iGuard (sel 149) true (put 154) (iOp (put 154) (.v true (oLoad1 (sel 153)))),
          iGuard (sel 149) true (put 155) (iOp (put 155) (.v false (oNe (.one 1) (sel 150) (sel 154)))),
          iGuard (sel 149) true (put 156) (iOp (put 156) (.v false (oEv (sel 155)))),
          iGuard (sel 156) false (put 157) (iOp (put 157) (.v false (oEv (sel 15)))),
          iGuard (sel 156) false (put 158) (iOp (put 158) (.v false (oEv (sel 5)))),
          iGuard (sel 156) false (put 159) (iOp (put 159) (.v false (oIndexAddrS 2 (sel 158) ⟨fun _ => .int .i64 0⟩))),
          iGuard (sel 156) false (put 160) (iOp (put 160) (.v false (oFieldAddr 1 (sel 159)))),
          iGuard (sel 156) false (put 161) (iOp (put 161) (.v true (oLoad1 (sel 160)))),
          iGuard (sel 156) false (put 162) (iOp (put 162) (.v false (oNe (.one 1) (sel 157) (sel 161)))),
          iGuard (sel 149) true (put 163) (iOp (put 163) (.v false (oPick (sel 156) ⟨fun _ => .bool true⟩ (sel 162)))),
          iGuard (sel 147) false (put 164) (iOp (put 164) (.v false (oPick (sel 149) (sel 163) ⟨fun _ => .bool false⟩))),
          iOp (put 165) (.v false (oPick (sel 147) ⟨fun _ => .bool true⟩ (sel 164))),
          iOp (put 166) (.v false (oEv (sel 165))),
          iGuard (sel 166) false (put 167) (iOp (put 167) (.v false (oEv (sel 16)))),
          iGuard (sel 166) false (put 168) (iOp (put 168) (.v false (oNot (sel 167)))),
          iGuard (sel 166) false (put 169) (iOp (put 169) (.v false (oEv (sel 168)))),
          iGuard (sel 169) true (put 170) (iOp (put 170) (.v false (oEv (sel 14)))),
          iGuard (sel 169) true (put 171) (iOp (put 171) (.v false (oNe (.one 1) (sel 170) ⟨fun _ => .int .i64 0⟩))),
          iGuard (sel 169) true (put 172) (iOp (put 172) (.v false (oEv (sel 171)))),
          iGuard (sel 172) false (put 173) (iOp (put 173) (.v false (oEv (sel 15)))),
          iGuard (sel 172) false (put 174) (iOp (put 174) (.v false (oNe (.one 1) (sel 173) ⟨fun _ => .int .i64 0⟩))),
          iGuard (sel 169) true (put 175) (iOp (put 175) (.v false (oPick (sel 172) ⟨fun _ => .bool true⟩ (sel 174)))),
          iGuard (sel 166) false (put 176) (iOp (put 176) (.v false (oPick (sel 169) (sel 175) ⟨fun _ => .bool false⟩))),
          iOp (put 177) (.v false (oPick (sel 166) ⟨fun _ => .bool true⟩ (sel 176)))])
        (sCond (sel 177)
          (sSeq (sRegion [iOp (put 2) (.v false (oEv ⟨fun _ => .bool false⟩))])
           (sEx .ret))
          (sEx .normal))))))))
  (sRegion [iOp (put 28) (.v false (oEv (sel 6))),
    iOp (put 29) (.v false (oInt2 fAdd (sel 28) ⟨fun _ => .int .i64 1⟩)),
    iOp (put 6) (.v false (oEv (sel 29)))]))
/-- bollard/bollardlaw05.TimerPlays -/
noncomputable def c5 : CF := ⟨179, [.tmp (sel 2)],
  sSeq (sRegion [iOp (put 2) (.v false (oEv ⟨fun _ => .bool false⟩))])
  (sSeq (sRegion [iOp (put 17) (.e (eCallF 8 [])),
     iOp (put 3) (.v false (oEv (sel 17)))])
   (sSeq (sSeq (sRegion [iOp (put 18) (.v false (oEv (sel 0))),
       iOp (put 19) (.v false (oLenS (sel 18))),
       iOp (put 20) (.v false (oInt2 fGtr (sel 19) ⟨fun _ => .int .i64 100⟩))])
     (sCond (sel 20)
       (sSeq (sRegion [iOp (put 21) (.v false (oEv (sel 3))),
          iOp (put 2) (.v false (oEv (sel 21)))])
        (sEx .ret))
       (sEx .normal)))
    (sSeq (sRegion [iOp (put 22) (.v false (oBuild [.map none] [])),
       iOp (put 23) (.a (aBox 27 (sel 22))),
       iOp (put 4) (.v false (oEv (sel 23)))])
     (sSeq (sRegion [iOp (put 5) (.v false (oEv ⟨fun _ => .slice none 0 0⟩))])
      (sSeq (sSeq (sRegion [iOp (put 6) (.v false (oEv ⟨fun _ => .int .i64 0⟩))])
        (sBlock 0 (sLoop c5_0)))
       (sSeq (sRegion [iOp (put 178) (.v false (oEv (sel 3))),
          iOp (put 2) (.v false (oEv (sel 178)))])
        (sEx .ret)))))))⟩
theorem d5 : denF Try.prog 5 = some c5 := denF_of (by kernel_rfl)
noncomputable def c13_0 : Vm.Sem := sSeq (sSeq (sRegion [iOp (put 12) (.v false (oEv (sel 7))),
    iOp (put 13) (.v false (oEv (sel 0))),
    iOp (put 14) (.v false (oLenS (sel 13))),
    iOp (put 15) (.v false (oInt2 fLss (sel 12) (sel 14))),
    iOp (put 16) (.v false (oEv (sel 15))),
    iGuard (sel 16) true (put 17) (iOp (put 17) (.v false (oEv (sel 0)))),
    iGuard (sel 16) true (put 18) (iOp (put 18) (.v false (oEv (sel 7)))),
    iGuard (sel 16) true (put 19) (iOp (put 19) (.v false (oIndexAddrS 2 (sel 17) (sel 18)))),
    iGuard (sel 16) true (put 20) (iOp (put 20) (.v false (oFieldAddr 1 (sel 19)))),
    iGuard (sel 16) true (put 21) (iOp (put 21) (.v true (oLoad1 (sel 20)))),
    iGuard (sel 16) true (put 22) (iOp (put 22) (.v false (oEv (sel 2)))),
    iGuard (sel 16) true (put 23) (iOp (put 23) (.v false (oInt2 fLss (sel 21) (sel 22)))),
    iGuard (sel 16) true (put 24) (iOp (put 24) (.v false (oEv (sel 23)))),
    iGuard (sel 24) false (put 25) (iOp (put 25) (.v false (oEv (sel 0)))),
    iGuard (sel 24) false (put 26) (iOp (put 26) (.v false (oEv (sel 7)))),
    iGuard (sel 24) false (put 27) (iOp (put 27) (.v false (oIndexAddrS 2 (sel 25) (sel 26)))),
    iGuard (sel 24) false (put 28) (iOp (put 28) (.v false (oFieldAddr 1 (sel 27)))),
    iGuard (sel 24) false (put 29) (iOp (put 29) (.v true (oLoad1 (sel 28)))),
    iGuard (sel 24) false (put 30) (iOp (put 30) (.v false (oEv (sel 2)))),
    iGuard (sel 24) false (put 31) (iOp (put 31) (.v false (oEq (.one 1) (sel 29) (sel 30)))),
    iGuard (sel 24) false (put 32) (iOp (put 32) (.v false (oEv (sel 31)))),
    iGuard (sel 32) true (put 33) (iOp (put 33) (.v false (oEv (sel 0)))),
    iGuard (sel 32) true (put 34) (iOp (put 34) (.v false (oEv (sel 7)))),
    iGuard (sel 32) true (put 35) (iOp (put 35) (.v false (oIndexAddrS 2 (sel 33) (sel 34)))),
    iGuard (sel 32) true (put 36) (iOp (put 36) (.v false (oFieldAddr 0 (sel 35)))),
    iGuard (sel 32) true (put 37) (iOp (put 37) (.v true (oLoad1 (sel 36)))),
    iGuard (sel 32) true (put 38) (iOp (put 38) (.v false (oEv (sel 1)))),
    iGuard (sel 32) true (put 39) (iOp (put 39) (.v false (oInt2 fLss (sel 37) (sel 38)))),
    iGuard (sel 24) false (put 40) (iOp (put 40) (.v false (oPick (sel 32) (sel 39) ⟨fun _ => .bool false⟩))),
    iGuard (sel 16) true (put 41) (iOp (put 41) (.v false (oPick (sel 24) ⟨fun _ => .bool true⟩ (sel 40)))),
    iOp (put 42) (.v false (oPick (sel 16) (sel 41) ⟨fun _ => .bool false⟩))])
  (sCond (sel 42)
    (sEx .normal)
    (sEx (.exit 0))))
 (sBlock 1 (sRegion [iOp (put 43) (.v false (oEv (sel 7))),
    iOp (put 44) (.v false (oInt2 fAdd (sel 43) ⟨fun _ => .int .i64 1⟩)),
    iOp (put 7) (.v false (oEv (sel 44)))]))
/-- bollard/bollardref05.Start -/
noncomputable def c13 : CF := ⟨61, [.tmp (sel 6)],
  sSeq (sRegion [iOp (put 6) (.v false (oEv ⟨fun _ => .slice none 0 0⟩))])
  (sSeq (sRegion [iOp (put 9) (.v false (oEv (sel 0))),
     iOp (put 10) (.v false (oEv (sel 1))),
     iOp (put 11) (.e (eCallF 15 [(sel 9), (sel 10)])),
     iOp (put 0) (.v false (oEv (sel 11)))])
   (sSeq (sRegion [iOp (put 7) (.v false (oEv ⟨fun _ => .int .i64 0⟩))])
    (sSeq (sBlock 0 (sLoop c13_0))
     (sSeq (sRegion [iOp (put 8) (.v false (oEv ⟨fun _ => .slice none 0 0⟩))])
      (sSeq (sRegion [iOp (put 45) (.v false (oEv (sel 8))),
         iOp (put 46) (.v false (oEv (sel 0))),
         iOp (put 47) (.v false (oEv (sel 7))),
         iOp (put 48) (.v false (oSlice 2 (sel 46) none (some (sel 47)) none)),
         iOp (put 49) (.e (eAppend 49 2 16 (sel 45) (sel 48))),
         iOp (put 8) (.v false (oEv (sel 49)))])
       (sSeq (sRegion [iOp (put 50) (.v false (oEv (sel 8))),
          iOp (put 51) (.v false (oEv (sel 1))),
          iOp (put 52) (.v false (oEv (sel 2))),
          iOp (put 53) (.v false (oBuild [.int .i64 0, .int .i64 0] [(0, 1, (sel 51)), (1, 1, (sel 52))])),
          iOp (put 54) (.a (aBuildSlice 49 1 (rep 1 [.int .i64 0, .int .i64 0]) [(0, 2, (sel 53))])),
          iOp (put 55) (.e (eAppend 49 2 16 (sel 50) (sel 54))),
          iOp (put 8) (.v false (oEv (sel 55)))])
        (sSeq (sRegion [iOp (put 56) (.v false (oEv (sel 8))),
           iOp (put 57) (.v false (oEv (sel 0))),
           iOp (put 58) (.v false (oEv (sel 7))),
           iOp (put 59) (.v false (oSlice 2 (sel 57) (some (sel 58)) none none)),
           iOp (put 60) (.e (eAppend 49 2 16 (sel 56) (sel 59))),
           iOp (put 6) (.v false (oEv (sel 60)))])
         (sEx .ret))))))))⟩
theorem d13 : denF Try.prog 13 = some c13 := denF_of (by kernel_rfl)
noncomputable def c15_0 : Vm.Sem := sSeq (sSeq (sRegion [iOp (put 7) (.v false (oEv (sel 6))),
    iOp (put 8) (.v false (oEv (sel 0))),
    iOp (put 9) (.v false (oLenS (sel 8))),
    iOp (put 10) (.v false (oInt2 fLss (sel 7) (sel 9)))])
  (sCond (sel 10)
    (sEx .normal)
    (sEx (.exit 0))))
 (sSeq (sBlock 1 (sSeq (sRegion [iOp (put 13) (.v false (oEv (sel 0))),
      iOp (put 14) (.v false (oEv (sel 6))),
      iOp (put 15) (.v false (oIndexAddrS 2 (sel 13) (sel 14))),
      iOp (put 16) (.v false (oFieldAddr 0 (sel 15))),
      iOp (put 17) (.v true (oLoad1 (sel 16))),
      iOp (put 18) (.v false (oEv (sel 1))),
      iOp (put 19) (.v false (oNe (.one 1) (sel 17) (sel 18)))])
    (sCond (sel 19)
      (sRegion [iOp (put 20) (.v false (oEv (sel 5))),
        iOp (put 21) (.v false (oEv (sel 0))),
        iOp (put 22) (.v false (oEv (sel 6))),
        iOp (put 23) (.v false (oIndexAddrS 2 (sel 21) (sel 22))),
        iOp (put 24) (.v true (oLoadN 2 (sel 23))),
        iOp (put 25) (.a (aBuildSlice 49 1 (rep 1 [.int .i64 0, .int .i64 0]) [(0, 2, (sel 24))])),
        iOp (put 26) (.e (eAppend 49 2 16 (sel 20) (sel 25))),
        iOp (put 5) (.v false (oEv (sel 26)))])
      (sEx .normal))))
  (sRegion [iOp (put 11) (.v false (oEv (sel 6))),
    iOp (put 12) (.v false (oInt2 fAdd (sel 11) ⟨fun _ => .int .i64 1⟩)),
    iOp (put 6) (.v false (oEv (sel 12)))]))
/-- bollard/bollardref05.Stop -/
noncomputable def c15 : CF := ⟨28, [.tmp (sel 4)],
  sSeq (sRegion [iOp (put 4) (.v false (oEv ⟨fun _ => .slice none 0 0⟩))])
  (sSeq (sRegion [iOp (put 5) (.v false (oEv ⟨fun _ => .slice none 0 0⟩))])
   (sSeq (sSeq (sRegion [iOp (put 6) (.v false (oEv ⟨fun _ => .int .i64 0⟩))])
     (sBlock 0 (sLoop c15_0)))
    (sSeq (sRegion [iOp (put 27) (.v false (oEv (sel 5))),
       iOp (put 4) (.v false (oEv (sel 27)))])
     (sEx .ret))))⟩
theorem d15 : denF Try.prog 15 = some c15 := denF_of (by kernel_rfl)
noncomputable def c16_0 : Vm.Sem := sSeq (sSeq (sRegion [iOp (put 7) (.v false (oEv (sel 0))),
    iOp (put 8) (.v false (oLenS (sel 7))),
    iOp (put 9) (.v false (oInt2 fGtr (sel 8) ⟨fun _ => .int .i64 0⟩)),
    iOp (put 10) (.v false (oEv (sel 9))),
    iGuard (sel 10) true (put 11) (iOp (put 11) (.v false (oEv (sel 0)))),
    iGuard (sel 10) true (put 12) (iOp (put 12) (.v false (oIndexAddrS 2 (sel 11) ⟨fun _ => .int .i64 0⟩))),
    iGuard (sel 10) true (put 13) (iOp (put 13) (.v false (oFieldAddr 1 (sel 12)))),
    iGuard (sel 10) true (put 14) (iOp (put 14) (.v true (oLoad1 (sel 13)))),
    iGuard (sel 10) true (put 15) (iOp (put 15) (.v false (oEv (sel 1)))),
    iGuard (sel 10) true (put 16) (iOp (put 16) (.v false (oInt2 fLeq (sel 14) (sel 15)))),
    iOp (put 17) (.v false (oPick (sel 10) (sel 16) ⟨fun _ => .bool false⟩))])
  (sCond (sel 17)
    (sEx .normal)
    (sEx (.exit 0))))
 (sBlock 1 (sSeq (sRegion [iOp (put 18) (.v false (oEv (sel 6))),
     iOp (put 19) (.v false (oEv (sel 0))),
     iOp (put 20) (.v false (oIndexAddrS 2 (sel 19) ⟨fun _ => .int .i64 0⟩)),
     iOp (put 21) (.v false (oFieldAddr 0 (sel 20))),
     iOp (put 22) (.v true (oLoad1 (sel 21))),
     iOp (put 23) (.a (aBuildSlice 3 1 (rep 1 [.int .i64 0]) [(0, 1, (sel 22))])),
     iOp (put 24) (.e (eAppend 3 1 8 (sel 18) (sel 23))),
     iOp (put 6) (.v false (oEv (sel 24)))])
   (sRegion [iOp (put 25) (.v false (oEv (sel 0))),
     iOp (put 26) (.v false (oSlice 2 (sel 25) (some ⟨fun _ => .int .i64 1⟩) none none)),
     iOp (put 0) (.v false (oEv (sel 26)))])))
/-- bollard/bollardref05.Due -/
noncomputable def c16 : CF := ⟨29, [.tmp (sel 4), .tmp (sel 5)],
  sSeq (sRegion [iOp (put 4) (.v false (oEv ⟨fun _ => .slice none 0 0⟩)),
    iOp (put 5) (.v false (oEv ⟨fun _ => .slice none 0 0⟩))])
  (sSeq (sRegion [iOp (put 6) (.v false (oEv ⟨fun _ => .slice none 0 0⟩))])
   (sSeq (sBlock 0 (sLoop c16_0))
    (sSeq (sRegion [iOp (put 27) (.v false (oEv (sel 6))),
       iOp (put 28) (.v false (oEv (sel 0))),
       iOp (put 4) (.v false (oEv (sel 27))),
       iOp (put 5) (.v false (oEv (sel 28)))])
     (sEx .ret))))⟩
theorem d16 : denF Try.prog 16 = some c16 := denF_of (by kernel_rfl)
noncomputable def c18_0 : Vm.Sem := sSeq (sSeq (sRegion [iOp (put 7) (.v false (oEv (sel 6))),
    iOp (put 8) (.v false (oEv (sel 0))),
    iOp (put 9) (.v false (oLenS (sel 8))),
    iOp (put 10) (.v false (oInt2 fLss (sel 7) (sel 9)))])
  (sCond (sel 10)
    (sEx .normal)
    (sEx (.exit 0))))
 (sSeq (sBlock 1 (sSeq (sRegion [iOp (put 13) (.v false (oEv (sel 0))),
      iOp (put 14) (.v false (oEv (sel 6))),
      iOp (put 15) (.v false (oIndexAddrS 2 (sel 13) (sel 14))),
      iOp (put 16) (.v false (oFieldAddr 0 (sel 15))),
      iOp (put 17) (.v true (oLoad1 (sel 16))),
      iOp (put 18) (.v false (oEv (sel 1))),
      iOp (put 19) (.v false (oEq (.one 1) (sel 17) (sel 18)))])
    (sCond (sel 19)
      (sSeq (sRegion [iOp (put 20) (.v false (oEv (sel 0))),
         iOp (put 21) (.v false (oEv (sel 6))),
         iOp (put 22) (.v false (oIndexAddrS 2 (sel 20) (sel 21))),
         iOp (put 23) (.v false (oFieldAddr 1 (sel 22))),
         iOp (put 24) (.v true (oLoad1 (sel 23))),
         iOp (put 4) (.v false (oEv (sel 24))),
         iOp (put 5) (.v false (oEv ⟨fun _ => .bool true⟩))])
       (sEx .ret))
      (sEx .normal))))
  (sRegion [iOp (put 11) (.v false (oEv (sel 6))),
    iOp (put 12) (.v false (oInt2 fAdd (sel 11) ⟨fun _ => .int .i64 1⟩)),
    iOp (put 6) (.v false (oEv (sel 12)))]))
/-- bollard/bollardref05.At -/
noncomputable def c18 : CF := ⟨25, [.tmp (sel 4), .tmp (sel 5)],
  sSeq (sRegion [iOp (put 4) (.v false (oEv ⟨fun _ => .int .i64 0⟩)),
    iOp (put 5) (.v false (oEv ⟨fun _ => .bool false⟩))])
  (sSeq (sSeq (sRegion [iOp (put 6) (.v false (oEv ⟨fun _ => .int .i64 0⟩))])
    (sBlock 0 (sLoop c18_0)))
   (sSeq (sRegion [iOp (put 4) (.v false (oEv ⟨fun _ => .int .i64 0⟩)),
      iOp (put 5) (.v false (oEv ⟨fun _ => .bool false⟩))])
    (sEx .ret)))⟩
theorem d18 : denF Try.prog 18 = some c18 := denF_of (by kernel_rfl)
end Go.Proofs.Ytkbanhfdfmodkaa

