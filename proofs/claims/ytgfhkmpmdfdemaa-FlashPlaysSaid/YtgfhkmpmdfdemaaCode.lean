/- The functions as the abstract machine has them: printed. -/
import Derived.Test.YtgfhkmpmdfdemaaProg
import Derived.Test.YtgfhkmpmdfdemaaAm24
namespace Go.Am.F
set_option linter.unusedVariables false
set_option linter.unusedSimpArgs false
abbrev S1 : Sh := .cons L8 (.cons LI (.cons LI (.cons .ref (.cons .ref .nil))))
abbrev S2 : Sh := .cons .ref .nil
/-- gosem.cut.init -/
def a_gosem_cut_init : ACode :=
 (.region false [⟨(some 0), .fail, none⟩])
def r_gosem_cut_init : List ARes := []
theorem c_gosem_cut_init : o2 Go.Proofs.Try.f2.body (comp Go.Proofs.Try.prog Go.Proofs.Try.f2.ntmps) = some a_gosem_cut_init := by kernel_rfl
theorem s_gosem_cut_init : cRess Go.Proofs.Try.prog Go.Proofs.Try.f2.results.toList = some r_gosem_cut_init := by kernel_rfl
theorem m_gosem_cut_init (C : Ctx) (hC : CtxOK C Go.Proofs.Try.prog) : Meets C.glob Go.Proofs.Try.prog 2 (afun C 0 r_gosem_cut_init a_gosem_cut_init) :=
  fn_sound hC Go.Proofs.Try.func2 c_gosem_cut_init s_gosem_cut_init (Nat.le_of_ble_eq_true (by kernel_rfl))

/-- curtilage/curtilagelaw12.FlashBlanks -/
def a_law12_FlashBlanks : ACode :=
 (.seq
  (.region false [⟨(some 8), (.mv (.const (.bool false))), none⟩])
  (.seq
   (.seq
    (.region false [⟨(some 17), (.call 8 []), none⟩,
     ⟨(some 18), (.un .not (.tmp 17)), none⟩])
    (.cond (.tmp 18)
     (.seq
      (.region false [⟨(some 8), (.mv (.const (.bool false))), none⟩])
      .ret)
     .skip))
   (.seq
    (.region false [⟨(some 20), (.call 9 [(.const (it 4))]), none⟩,
     ⟨(some 19), (.mv (.tmp 20)), none⟩,
     ⟨(some 21), (.ext (.tmp 19) 0), none⟩,
     ⟨(some 22), (.ext (.tmp 19) 1), none⟩,
     ⟨(some 9), (.mv (.tmp 21)), none⟩,
     ⟨(some 10), (.mv (.tmp 22)), none⟩])
    (.seq
     (.region false [⟨(some 23), (.mv (.tmp 0)), none⟩,
      ⟨(some 24), (.bin .rem (.tmp 23) (.const (u16 1024#16))), none⟩,
      ⟨(some 25), (.conv .i64 (.tmp 24)), none⟩,
      ⟨(some 11), (.mv (.tmp 25)), none⟩])
     (.seq
      (.region false [⟨(some 26), (.mv (.tmp 9)), none⟩,
       ⟨(some 27), (.mv (.tmp 11)), none⟩,
       ⟨(some 28), (.mv (.tmp 1)), none⟩,
       ⟨(some 29), (.call 10 [(.tmp 26), (.tmp 27), (.tmp 28)]), none⟩])
      (.seq
       (.region false [⟨(some 30), (.mv (.tmp 2)), none⟩,
        ⟨(some 31), (.bin .geq (.tmp 30) (.const (it 0))), none⟩,
        ⟨(some 32), (.mv (.tmp 31)), none⟩,
        ⟨(some 33), (.mv (.tmp 3)), some (32, true)⟩,
        ⟨(some 34), (.bin .geq (.tmp 33) (.const (it 0))), some (32, true)⟩,
        ⟨(some 35), (.pick (.tmp 32) (.tmp 34) (.const (.bool false))), none⟩,
        ⟨(some 36), (.mv (.tmp 35)), none⟩,
        ⟨(some 37), (.mv (.tmp 2)), some (36, true)⟩,
        ⟨(some 38), (.bin .leq (.tmp 37) (.const (it 4))), some (36, true)⟩,
        ⟨(some 39), (.pick (.tmp 36) (.tmp 38) (.const (.bool false))), none⟩,
        ⟨(some 40), (.mv (.tmp 39)), none⟩,
        ⟨(some 41), (.mv (.tmp 3)), some (40, true)⟩,
        ⟨(some 42), (.mv (.tmp 2)), some (40, true)⟩,
        ⟨(some 43), (.minmax false [(.tmp 42), (.const (it 4))]), some (40, true)⟩,
        ⟨(some 44), (.bin .sub (.const (it 4)) (.tmp 43)), some (40, true)⟩,
        ⟨(some 45), (.bin .leq (.tmp 41) (.tmp 44)), some (40, true)⟩,
        ⟨(some 46), (.pick (.tmp 40) (.tmp 45) (.const (.bool false))), none⟩,
        ⟨(some 12), (.mv (.tmp 46)), none⟩])
       (.seq
        (.region false [⟨(some 47), (.mv (.tmp 1)), none⟩,
         ⟨(some 48), (.bin .neq (.tmp 47) (.const (u8 0#8))), none⟩,
         ⟨(some 49), (.mv (.tmp 48)), none⟩,
         ⟨(some 50), (.mv (.tmp 2)), some (49, true)⟩,
         ⟨(some 51), (.mv (.tmp 11)), some (49, true)⟩,
         ⟨(some 52), (.bin .quo (.tmp 51) (.const (it 256))), some (49, true)⟩,
         ⟨(some 53), (.bin .leq (.tmp 50) (.tmp 52)), some (49, true)⟩,
         ⟨(some 54), (.pick (.tmp 49) (.tmp 53) (.const (.bool false))), none⟩,
         ⟨(some 55), (.mv (.tmp 54)), none⟩,
         ⟨(some 56), (.mv (.tmp 12)), some (55, true)⟩,
         ⟨(some 57), (.pick (.tmp 55) (.tmp 56) (.const (.bool false))), none⟩,
         ⟨(some 58), (.mv (.tmp 57)), none⟩,
         ⟨(some 59), (.mv (.tmp 11)), some (58, true)⟩,
         ⟨(some 60), (.bin .quo (.tmp 59) (.const (it 256))), some (58, true)⟩,
         ⟨(some 61), (.mv (.tmp 2)), some (58, true)⟩,
         ⟨(some 62), (.mv (.tmp 3)), some (58, true)⟩,
         ⟨(some 63), (.bin .add (.tmp 61) (.tmp 62)), some (58, true)⟩,
         ⟨(some 64), (.bin .lss (.tmp 60) (.tmp 63)), some (58, true)⟩,
         ⟨(some 65), (.pick (.tmp 58) (.tmp 64) (.const (.bool false))), none⟩,
         ⟨(some 13), (.mv (.tmp 65)), none⟩])
        (.seq
         (.seq
          (.region false [⟨(some 66), (.mv (.tmp 9)), none⟩,
           ⟨(some 67), (.mv (.tmp 2)), none⟩,
           ⟨(some 68), (.mv (.tmp 3)), none⟩,
           ⟨(some 69), (.call 11 [(.tmp 66), (.tmp 67), (.tmp 68)]), none⟩,
           ⟨(some 70), (.mv (.tmp 12)), none⟩,
           ⟨(some 71), (.mv (.tmp 70)), none⟩,
           ⟨(some 72), (.mv (.tmp 13)), some (71, true)⟩,
           ⟨(some 73), (.un .not (.tmp 72)), some (71, true)⟩,
           ⟨(some 74), (.pick (.tmp 71) (.tmp 73) (.const (.bool false))), none⟩,
           ⟨(some 75), (.beq true (.tmp 69) (.tmp 74)), none⟩])
          (.cond (.tmp 75)
           (.seq
            (.region false [⟨(some 8), (.mv (.const (.bool false))), none⟩])
            .ret)
           .skip))
         (.seq
          (.region false [⟨(some 76), (.mv (.tmp 9)), none⟩,
           ⟨(some 77), (.call 12 [(.tmp 76)]), none⟩,
           ⟨(some 14), (.mv (.tmp 77)), none⟩])
          (.seq
           (.region false [⟨(some 78), (.mv (.tmp 14)), none⟩,
            ⟨(some 79), (.mv (.tmp 11)), none⟩,
            ⟨(some 80), (.bin .quo (.tmp 79) (.const (it 256))), none⟩,
            ⟨(some 81), (.call 13 [(.tmp 78), (.tmp 80)]), none⟩])
           (.seq
            (.region false [⟨(some 82), (.mv (.tmp 14)), none⟩,
             ⟨(some 83), (.bslice L8 1 (.raw (u8 0#8)) [(0, (.const (u8 0#8)))]), none⟩,
             ⟨(some 84), (.call 14 [(.tmp 82), (.const (it 0)), (.tmp 83)]), none⟩])
            (.seq
             (.region false [⟨(some 86), (.mv (.tmp 9)), none⟩,
              ⟨(some 87), (.mv (.tmp 11)), none⟩,
              ⟨(some 88), (.call 15 [(.tmp 86), (.tmp 87), (.const (it 1))]), none⟩,
              ⟨(some 85), (.mv (.tmp 88)), none⟩,
              ⟨(some 89), (.ext (.tmp 85) 0), none⟩,
              ⟨(some 90), (.ext (.tmp 85) 1), none⟩,
              ⟨(some 15), (.mv (.tmp 89)), none⟩,
              ⟨(some 16), (.mv (.tmp 90)), none⟩])
             (.seq
              (.region false [⟨(some 91), (.mv (.tmp 15)), none⟩,
               ⟨(some 92), (.len (.tmp 91)), none⟩,
               ⟨(some 93), (.bin .eql (.tmp 92) (.const (it 1))), none⟩,
               ⟨(some 94), (.mv (.tmp 93)), none⟩,
               ⟨(some 95), (.mv (.tmp 15)), some (94, true)⟩,
               ⟨(some 96), (.iaddrs L8 (.tmp 95) (.const (it 0))), some (94, true)⟩,
               ⟨(some 97), (.load L8 (.tmp 96)), some (94, true)⟩,
               ⟨(some 98), (.mv (.tmp 1)), some (94, true)⟩,
               ⟨(some 99), (.bin .xor (.const (u8 255#8)) (.tmp 98)), some (94, true)⟩,
               ⟨(some 100), (.bin .eql (.tmp 97) (.tmp 99)), some (94, true)⟩,
               ⟨(some 101), (.pick (.tmp 94) (.tmp 100) (.const (.bool false))), none⟩,
               ⟨(some 102), (.mv (.tmp 101)), none⟩,
               ⟨(some 103), (.mv (.tmp 14)), some (102, true)⟩,
               ⟨(some 104), (.call 16 [(.tmp 103)]), some (102, true)⟩,
               ⟨(some 105), (.bin .eql (.tmp 104) (.const (it 1024))), some (102, true)⟩,
               ⟨(some 106), (.pick (.tmp 102) (.tmp 105) (.const (.bool false))), none⟩,
               ⟨(some 8), (.mv (.tmp 106)), none⟩])
              .ret)))))))))))))
def r_law12_FlashBlanks : List ARes := [(.tmp 8)]
theorem c_law12_FlashBlanks : o2 Go.Proofs.Try.f3.body (comp Go.Proofs.Try.prog Go.Proofs.Try.f3.ntmps) = some a_law12_FlashBlanks := by kernel_rfl
theorem s_law12_FlashBlanks : cRess Go.Proofs.Try.prog Go.Proofs.Try.f3.results.toList = some r_law12_FlashBlanks := by kernel_rfl
theorem m_law12_FlashBlanks (C : Ctx) (hC : CtxOK C Go.Proofs.Try.prog) : Meets C.glob Go.Proofs.Try.prog 3 (afun C 4 r_law12_FlashBlanks a_law12_FlashBlanks) :=
  fn_sound hC Go.Proofs.Try.func3 c_law12_FlashBlanks s_law12_FlashBlanks (Nat.le_of_ble_eq_true (by kernel_rfl))

/-- curtilage/curtilagelaw12.FlashWrites -/
def a_law12_FlashWrites : ACode :=
 (.seq
  (.region false [⟨(some 8), (.mv (.const (.bool false))), none⟩])
  (.seq
   (.seq
    (.region false [⟨(some 28), (.call 8 []), none⟩,
     ⟨(some 29), (.un .not (.tmp 28)), none⟩])
    (.cond (.tmp 29)
     (.seq
      (.region false [⟨(some 8), (.mv (.const (.bool false))), none⟩])
      .ret)
     .skip))
   (.seq
    (.region false [⟨(some 31), (.call 9 [(.const (it 3))]), none⟩,
     ⟨(some 30), (.mv (.tmp 31)), none⟩,
     ⟨(some 32), (.ext (.tmp 30) 0), none⟩,
     ⟨(some 33), (.ext (.tmp 30) 1), none⟩,
     ⟨(some 9), (.mv (.tmp 32)), none⟩,
     ⟨(some 10), (.mv (.tmp 33)), none⟩])
    (.seq
     (.region false [⟨(some 34), (.mv (.tmp 0)), none⟩,
      ⟨(some 35), (.call 17 [(.tmp 34), (.const (it 300))]), none⟩,
      ⟨(some 36), (.mv (.tmp 1)), none⟩,
      ⟨(some 37), (.call 17 [(.tmp 36), (.const (it 300))]), none⟩,
      ⟨(some 0), (.mv (.tmp 35)), none⟩,
      ⟨(some 1), (.mv (.tmp 37)), none⟩])
     (.seq
      (.region false [⟨(some 38), (.mv (.tmp 2)), none⟩,
       ⟨(some 39), (.bin .rem (.tmp 38) (.const (u16 400#16))), none⟩,
       ⟨(some 40), (.conv .i64 (.tmp 39)), none⟩,
       ⟨(some 41), (.mv (.tmp 3)), none⟩,
       ⟨(some 42), (.bin .rem (.tmp 41) (.const (u16 400#16))), none⟩,
       ⟨(some 43), (.conv .i64 (.tmp 42)), none⟩,
       ⟨(some 11), (.mv (.tmp 40)), none⟩,
       ⟨(some 12), (.mv (.tmp 43)), none⟩])
      (.seq
       (.seq
        (.region false [⟨(some 44), (.mv (.tmp 9)), none⟩,
         ⟨(some 45), (.mv (.tmp 11)), none⟩,
         ⟨(some 46), (.mv (.tmp 0)), none⟩,
         ⟨(some 47), (.call 14 [(.tmp 44), (.tmp 45), (.tmp 46)]), none⟩,
         ⟨(some 48), (.bin .neq (.tmp 47) (.const (it 0))), none⟩])
        (.cond (.tmp 48)
         (.seq
          (.region false [⟨(some 8), (.mv (.const (.bool false))), none⟩])
          .ret)
         .skip))
       (.seq
        (.region false [⟨(some 50), (.mv (.tmp 9)), none⟩,
         ⟨(some 51), (.call 15 [(.tmp 50), (.const (it 0)), (.const (it 768))]), none⟩,
         ⟨(some 49), (.mv (.tmp 51)), none⟩,
         ⟨(some 52), (.ext (.tmp 49) 0), none⟩,
         ⟨(some 53), (.ext (.tmp 49) 1), none⟩,
         ⟨(some 13), (.mv (.tmp 52)), none⟩,
         ⟨(some 14), (.mv (.tmp 53)), none⟩])
        (.seq
         (.region false [⟨(some 15), (.mv (.const (.bool true))), none⟩])
         (.seq
          (.seq
           (.region false [⟨(some 54), (.mv (.tmp 1)), none⟩,
            ⟨(some 55), (.len (.tmp 54)), none⟩,
            ⟨(some 56), (.mv (.const (it 0))), none⟩])
           (.block 0
            (.loop
             (.seq
              (.region false [⟨(some 57), (.bin .lss (.tmp 56) (.tmp 55)), none⟩])
              (.seq
               (.cond (.tmp 57)
                .skip
                (.exit 0))
               (.seq
                (.block 1
                 (.seq
                  (.region false [⟨(some 58), (.mv (.tmp 56)), none⟩,
                   ⟨(some 59), (.iaddrs L8 (.tmp 54) (.tmp 56)), none⟩,
                   ⟨(some 60), (.load L8 (.tmp 59)), none⟩,
                   ⟨(some 16), (.mv (.tmp 58)), none⟩,
                   ⟨(some 17), (.mv (.tmp 60)), none⟩])
                  (.region false [⟨(some 61), (.mv (.tmp 15)), none⟩,
                   ⟨(some 62), (.mv (.tmp 61)), none⟩,
                   ⟨(some 63), (.mv (.tmp 17)), some (62, true)⟩,
                   ⟨(some 64), (.mv (.tmp 13)), some (62, true)⟩,
                   ⟨(some 65), (.mv (.tmp 12)), some (62, true)⟩,
                   ⟨(some 66), (.mv (.tmp 16)), some (62, true)⟩,
                   ⟨(some 67), (.bin .add (.tmp 65) (.tmp 66)), some (62, true)⟩,
                   ⟨(some 68), (.iaddrs L8 (.tmp 64) (.tmp 67)), some (62, true)⟩,
                   ⟨(some 69), (.load L8 (.tmp 68)), some (62, true)⟩,
                   ⟨(some 70), (.bin .and (.tmp 63) (.tmp 69)), some (62, true)⟩,
                   ⟨(some 71), (.mv (.tmp 17)), some (62, true)⟩,
                   ⟨(some 72), (.bin .eql (.tmp 70) (.tmp 71)), some (62, true)⟩,
                   ⟨(some 73), (.pick (.tmp 62) (.tmp 72) (.const (.bool false))), none⟩,
                   ⟨(some 15), (.mv (.tmp 73)), none⟩])))
                (.region false [⟨(some 74), (.bin .add (.tmp 56) (.const (it 1))), none⟩,
                 ⟨(some 56), (.mv (.tmp 74)), none⟩])))))))
          (.seq
           (.region false [⟨(some 75), (.mv (.tmp 9)), none⟩,
            ⟨(some 76), (.call 12 [(.tmp 75)]), none⟩,
            ⟨(some 18), (.mv (.tmp 76)), none⟩])
           (.seq
            (.region false [⟨(some 77), (.mv (.tmp 9)), none⟩,
             ⟨(some 78), (.mv (.tmp 12)), none⟩,
             ⟨(some 79), (.mv (.tmp 1)), none⟩,
             ⟨(some 80), (.call 14 [(.tmp 77), (.tmp 78), (.tmp 79)]), none⟩,
             ⟨(some 19), (.mv (.tmp 80)), none⟩])
            (.seq
             (.seq
              (.region false [⟨(some 81), (.mv (.tmp 15)), none⟩,
               ⟨(some 82), (.mv (.tmp 19)), none⟩,
               ⟨(some 83), (.bin .eql (.tmp 82) (.const (it 0))), none⟩,
               ⟨(some 84), (.beq true (.tmp 81) (.tmp 83)), none⟩,
               ⟨(some 85), (.mv (.tmp 84)), none⟩,
               ⟨(some 86), (.mv (.tmp 15)), some (85, false)⟩,
               ⟨(some 87), (.un .not (.tmp 86)), some (85, false)⟩,
               ⟨(some 88), (.mv (.tmp 87)), some (85, false)⟩,
               ⟨(some 89), (.mv (.tmp 19)), some (88, true)⟩,
               ⟨(some 90), (.bin .neq (.tmp 89) (.const (it 14))), some (88, true)⟩,
               ⟨(some 91), (.pick (.tmp 88) (.tmp 90) (.const (.bool false))), some (85, false)⟩,
               ⟨(some 92), (.pick (.tmp 85) (.const (.bool true)) (.tmp 91)), none⟩])
              (.cond (.tmp 92)
               (.seq
                (.region false [⟨(some 8), (.mv (.const (.bool false))), none⟩])
                .ret)
               .skip))
             (.seq
              (.region false [⟨(some 94), (.mv (.tmp 9)), none⟩,
               ⟨(some 95), (.mv (.tmp 12)), none⟩,
               ⟨(some 96), (.mv (.tmp 1)), none⟩,
               ⟨(some 97), (.len (.tmp 96)), none⟩,
               ⟨(some 98), (.call 15 [(.tmp 94), (.tmp 95), (.tmp 97)]), none⟩,
               ⟨(some 93), (.mv (.tmp 98)), none⟩,
               ⟨(some 99), (.ext (.tmp 93) 0), none⟩,
               ⟨(some 100), (.ext (.tmp 93) 1), none⟩,
               ⟨(some 20), (.mv (.tmp 99)), none⟩,
               ⟨(some 21), (.mv (.tmp 100)), none⟩])
              (.seq
               (.seq
                (.region false [⟨(some 101), (.mv (.tmp 15)), none⟩,
                 ⟨(some 102), (.mv (.tmp 101)), none⟩,
                 ⟨(some 103), (.mv (.tmp 20)), some (102, true)⟩,
                 ⟨(some 104), (.mv (.tmp 1)), some (102, true)⟩,
                 ⟨(some 105), (.call 18 [(.tmp 103), (.tmp 104)]), some (102, true)⟩,
                 ⟨(some 106), (.un .not (.tmp 105)), some (102, true)⟩,
                 ⟨(some 107), (.pick (.tmp 102) (.tmp 106) (.const (.bool false))), none⟩])
                (.cond (.tmp 107)
                 (.seq
                  (.region false [⟨(some 8), (.mv (.const (.bool false))), none⟩])
                  .ret)
                 .skip))
               (.seq
                (.region false [⟨(some 108), (.mv (.tmp 12)), none⟩,
                 ⟨(some 109), (.bin .quo (.tmp 108) (.const (it 256))), none⟩,
                 ⟨(some 22), (.mv (.tmp 109)), none⟩])
                (.seq
                 (.region false [⟨(some 110), (.mv (.tmp 1)), none⟩,
                  ⟨(some 111), (.mv (.tmp 12)), none⟩,
                  ⟨(some 112), (.bin .rem (.tmp 111) (.const (it 256))), none⟩,
                  ⟨(some 113), (.bin .sub (.const (it 256)) (.tmp 112)), none⟩,
                  ⟨(some 114), (.call 17 [(.tmp 110), (.tmp 113)]), none⟩,
                  ⟨(some 23), (.mv (.tmp 114)), none⟩])
                 (.seq
                  (.region false [⟨(some 116), (.mv (.tmp 18)), none⟩,
                   ⟨(some 117), (.mv (.tmp 22)), none⟩,
                   ⟨(some 118), (.mv (.tmp 12)), none⟩,
                   ⟨(some 119), (.bin .rem (.tmp 118) (.const (it 256))), none⟩,
                   ⟨(some 120), (.mv (.tmp 23)), none⟩,
                   ⟨(some 121), (.call 19 [(.tmp 116), (.tmp 117), (.tmp 119), (.tmp 120)]), none⟩,
                   ⟨(some 115), (.mv (.tmp 121)), none⟩,
                   ⟨(some 122), (.ext (.tmp 115) 0), none⟩,
                   ⟨(some 123), (.ext (.tmp 115) 1), none⟩,
                   ⟨(some 24), (.mv (.tmp 122)), none⟩,
                   ⟨(some 25), (.mv (.tmp 123)), none⟩])
                  (.seq
                   (.seq
                    (.region false [⟨(some 124), (.mv (.tmp 23)), none⟩,
                     ⟨(some 125), (.len (.tmp 124)), none⟩,
                     ⟨(some 126), (.bin .eql (.tmp 125) (.const (it 0))), none⟩,
                     ⟨(some 127), (.mv (.tmp 126)), none⟩,
                     ⟨(some 128), (.mv (.tmp 25)), some (127, false)⟩,
                     ⟨(some 129), (.bin .neq (.tmp 128) (.const (it 0))), some (127, false)⟩,
                     ⟨(some 130), (.pick (.tmp 127) (.const (.bool true)) (.tmp 129)), none⟩])
                    (.cond (.tmp 130)
                     (.seq
                      (.region false [⟨(some 8), (.mv (.const (.bool true))), none⟩])
                      .ret)
                     .skip))
                   (.seq
                    (.region false [⟨(some 131), (.mv (.tmp 18)), none⟩,
                     ⟨(some 132), (.mv (.tmp 22)), none⟩,
                     ⟨(some 133), (.mv (.tmp 24)), none⟩,
                     ⟨(some 134), (.call 21 [(.const (it 1))]), none⟩,
                     ⟨(some 135), (.call 20 [(.tmp 131), (.tmp 132), (.tmp 133), (.tmp 134)]), none⟩])
                    (.seq
                     (.region false [⟨(some 137), (.mv (.tmp 18)), none⟩,
                      ⟨(some 138), (.mv (.tmp 12)), none⟩,
                      ⟨(some 139), (.mv (.tmp 23)), none⟩,
                      ⟨(some 140), (.len (.tmp 139)), none⟩,
                      ⟨(some 141), (.call 15 [(.tmp 137), (.tmp 138), (.tmp 140)]), none⟩,
                      ⟨(some 136), (.mv (.tmp 141)), none⟩,
                      ⟨(some 142), (.ext (.tmp 136) 0), none⟩,
                      ⟨(some 143), (.ext (.tmp 136) 1), none⟩,
                      ⟨(some 26), (.mv (.tmp 142)), none⟩,
                      ⟨(some 27), (.mv (.tmp 143)), none⟩])
                     (.seq
                      (.region false [⟨(some 144), (.mv (.tmp 26)), none⟩,
                       ⟨(some 145), (.mv (.tmp 23)), none⟩,
                       ⟨(some 146), (.call 18 [(.tmp 144), (.tmp 145)]), none⟩,
                       ⟨(some 8), (.mv (.tmp 146)), none⟩])
                      .ret)))))))))))))))))))))
def r_law12_FlashWrites : List ARes := [(.tmp 8)]
theorem c_law12_FlashWrites : o2 Go.Proofs.Try.f4.body (comp Go.Proofs.Try.prog Go.Proofs.Try.f4.ntmps) = some a_law12_FlashWrites := by kernel_rfl
theorem s_law12_FlashWrites : cRess Go.Proofs.Try.prog Go.Proofs.Try.f4.results.toList = some r_law12_FlashWrites := by kernel_rfl
theorem m_law12_FlashWrites (C : Ctx) (hC : CtxOK C Go.Proofs.Try.prog) : Meets C.glob Go.Proofs.Try.prog 4 (afun C 4 r_law12_FlashWrites a_law12_FlashWrites) :=
  fn_sound hC Go.Proofs.Try.func4 c_law12_FlashWrites s_law12_FlashWrites (Nat.le_of_ble_eq_true (by kernel_rfl))

/-- curtilage/curtilagelaw12.FlashTears -/
def a_law12_FlashTears : ACode :=
 (.seq
  (.region false [⟨(some 10), (.mv (.const (.bool false))), none⟩])
  (.seq
   (.seq
    (.region false [⟨(some 23), (.call 8 []), none⟩,
     ⟨(some 24), (.un .not (.tmp 23)), none⟩])
    (.cond (.tmp 24)
     (.seq
      (.region false [⟨(some 10), (.mv (.const (.bool false))), none⟩])
      .ret)
     .skip))
   (.seq
    (.region false [⟨(some 26), (.call 9 [(.const (it 3))]), none⟩,
     ⟨(some 25), (.mv (.tmp 26)), none⟩,
     ⟨(some 27), (.ext (.tmp 25) 0), none⟩,
     ⟨(some 28), (.ext (.tmp 25) 1), none⟩,
     ⟨(some 11), (.mv (.tmp 27)), none⟩,
     ⟨(some 12), (.mv (.tmp 28)), none⟩])
    (.seq
     (.region false [⟨(some 29), (.mv (.tmp 11)), none⟩,
      ⟨(some 30), (.mv (.tmp 0)), none⟩,
      ⟨(some 31), (.call 17 [(.tmp 30), (.const (it 256))]), none⟩,
      ⟨(some 32), (.call 21 [(.const (it 1))]), none⟩,
      ⟨(some 33), (.call 20 [(.tmp 29), (.const (it 1)), (.tmp 31), (.tmp 32)]), none⟩])
     (.seq
      (.region false [⟨(some 34), (.mv (.tmp 11)), none⟩,
       ⟨(some 35), (.bslice L8 3 (.raw (u8 0#8)) [(0, (.const (u8 1#8))), (1, (.const (u8 2#8))), (2, (.const (u8 3#8)))]), none⟩,
       ⟨(some 36), (.call 14 [(.tmp 34), (.const (it 0)), (.tmp 35)]), none⟩])
      (.seq
       (.region false [⟨(some 37), (.mv (.tmp 11)), none⟩,
        ⟨(some 38), (.bslice LI 1 (.raw (it 0)) [(0, (.const (it 1)))]), none⟩,
        ⟨(some 39), (.call 22 [(.tmp 37), (.tmp 38)]), none⟩,
        ⟨(some 13), (.mv (.tmp 39)), none⟩])
       (.seq
        (.region false [⟨(some 40), (.mv (.tmp 1)), none⟩,
         ⟨(some 41), (.mv (.tmp 2)), none⟩,
         ⟨(some 42), (.conv .i64 (.tmp 41)), none⟩,
         ⟨(some 43), (.bin .sub (.const (it 256)) (.tmp 42)), none⟩,
         ⟨(some 44), (.call 17 [(.tmp 40), (.tmp 43)]), none⟩,
         ⟨(some 1), (.mv (.tmp 44)), none⟩])
        (.seq
         (.seq
          (.region false [⟨(some 45), (.mv (.tmp 1)), none⟩,
           ⟨(some 46), (.len (.tmp 45)), none⟩,
           ⟨(some 47), (.mv (.const (it 0))), none⟩])
          (.block 0
           (.loop
            (.seq
             (.region false [⟨(some 48), (.bin .lss (.tmp 47) (.tmp 46)), none⟩])
             (.seq
              (.cond (.tmp 48)
               .skip
               (.exit 0))
              (.seq
               (.block 1
                (.seq
                 (.region false [⟨(some 49), (.mv (.tmp 47)), none⟩,
                  ⟨(some 14), (.mv (.tmp 49)), none⟩])
                 (.region true [⟨(some 50), (.mv (.tmp 1)), none⟩,
                  ⟨(some 51), (.mv (.tmp 14)), none⟩,
                  ⟨(some 52), (.iaddrs L8 (.tmp 50) (.tmp 51)), none⟩,
                  ⟨(some 53), (.load L8 (.tmp 52)), none⟩,
                  ⟨(some 54), (.mv (.tmp 13)), none⟩,
                  ⟨(some 55), (.mv (.tmp 2)), none⟩,
                  ⟨(some 56), (.conv .i64 (.tmp 55)), none⟩,
                  ⟨(some 57), (.mv (.tmp 14)), none⟩,
                  ⟨(some 58), (.bin .add (.tmp 56) (.tmp 57)), none⟩,
                  ⟨(some 59), (.iaddrs L8 (.tmp 54) (.tmp 58)), none⟩,
                  ⟨(some 60), (.load L8 (.tmp 59)), none⟩,
                  ⟨(some 61), (.bin .and (.tmp 53) (.tmp 60)), none⟩,
                  ⟨(some 62), (.iaddrs L8 (.tmp 50) (.tmp 51)), none⟩,
                  ⟨none, (.store L8 (.tmp 62) (.tmp 61)), none⟩])))
               (.region false [⟨(some 63), (.bin .add (.tmp 47) (.const (it 1))), none⟩,
                ⟨(some 47), (.mv (.tmp 63)), none⟩])))))))
         (.seq
          (.seq
           (.region false [⟨(some 64), (.mv (.tmp 4)), none⟩])
           (.cond (.tmp 64)
            (.region false [⟨(some 1), (.mv (.const (.slice none 0 0))), none⟩])
            .skip))
          (.seq
           (.region false [⟨(some 66), (.mv (.tmp 11)), none⟩,
            ⟨(some 67), (.mv (.tmp 2)), none⟩,
            ⟨(some 68), (.conv .i64 (.tmp 67)), none⟩,
            ⟨(some 69), (.mv (.tmp 1)), none⟩,
            ⟨(some 70), (.call 19 [(.tmp 66), (.const (it 1)), (.tmp 68), (.tmp 69)]), none⟩,
            ⟨(some 65), (.mv (.tmp 70)), none⟩,
            ⟨(some 71), (.ext (.tmp 65) 0), none⟩,
            ⟨(some 72), (.ext (.tmp 65) 1), none⟩,
            ⟨(some 15), (.mv (.tmp 71)), none⟩,
            ⟨(some 16), (.mv (.tmp 72)), none⟩])
           (.seq
            (.seq
             (.region false [⟨(some 73), (.mv (.tmp 16)), none⟩,
              ⟨(some 74), (.bin .neq (.tmp 73) (.const (it 0))), none⟩,
              ⟨(some 75), (.mv (.tmp 74)), none⟩,
              ⟨(some 76), (.mv (.tmp 15)), some (75, false)⟩,
              ⟨(some 77), (.len (.tmp 76)), some (75, false)⟩,
              ⟨(some 78), (.bin .neq (.tmp 77) (.const (it 256))), some (75, false)⟩,
              ⟨(some 79), (.pick (.tmp 75) (.const (.bool true)) (.tmp 78)), none⟩])
             (.cond (.tmp 79)
              (.seq
               (.region false [⟨(some 10), (.mv (.const (.bool false))), none⟩])
               .ret)
              .skip))
            (.seq
             (.region false [⟨(some 80), (.mv (.tmp 13)), none⟩,
              ⟨(some 17), (.mv (.tmp 80)), none⟩])
             (.seq
              (.seq
               (.region false [⟨(some 81), (.mv (.tmp 3)), none⟩,
                ⟨(some 82), (.len (.tmp 81)), none⟩,
                ⟨(some 83), (.mv (.const (it 0))), none⟩])
               (.block 2
                (.loop
                 (.seq
                  (.region false [⟨(some 84), (.bin .lss (.tmp 83) (.tmp 82)), none⟩])
                  (.seq
                   (.cond (.tmp 84)
                    .skip
                    (.exit 2))
                   (.seq
                    (.block 3
                     (.seq
                      (.region false [⟨(some 85), (.mv (.tmp 83)), none⟩,
                       ⟨(some 86), (.iaddrs .ref (.tmp 81) (.tmp 83)), none⟩,
                       ⟨(some 87), (.load .ref (.tmp 86)), none⟩,
                       ⟨(some 18), (.mv (.tmp 85)), none⟩,
                       ⟨(some 19), (.mv (.tmp 87)), none⟩])
                      (.seq
                       (.seq
                        (.region false [⟨(some 88), (.mv (.tmp 18)), none⟩,
                         ⟨(some 89), (.bin .geq (.tmp 88) (.const (it 6))), none⟩])
                        (.cond (.tmp 89)
                         (.exit 2)
                         .skip))
                       (.seq
                        (.seq
                         (.region false [⟨(some 90), (.mv (.tmp 11)), none⟩,
                          ⟨(some 91), (.mv (.tmp 15)), none⟩,
                          ⟨(some 92), (.mv (.tmp 19)), none⟩,
                          ⟨(some 93), (.call 17 [(.tmp 92), (.const (it 300))]), none⟩,
                          ⟨(some 94), (.call 20 [(.tmp 90), (.const (it 1)), (.tmp 91), (.tmp 93)]), none⟩,
                          ⟨(some 95), (.bin .neq (.tmp 94) (.const (it 0))), none⟩])
                         (.cond (.tmp 95)
                          (.seq
                           (.region false [⟨(some 10), (.mv (.const (.bool false))), none⟩])
                           .ret)
                          .skip))
                        (.seq
                         (.region false [⟨(some 96), (.mv (.tmp 11)), none⟩,
                          ⟨(some 97), (.bslice LI 1 (.raw (it 0)) [(0, (.const (it 1)))]), none⟩,
                          ⟨(some 98), (.call 22 [(.tmp 96), (.tmp 97)]), none⟩,
                          ⟨(some 20), (.mv (.tmp 98)), none⟩])
                         (.seq
                          (.seq
                           (.region false [⟨(some 99), (.mv (.tmp 20)), none⟩,
                            ⟨(some 100), (.len (.tmp 99)), none⟩,
                            ⟨(some 101), (.mv (.const (it 0))), none⟩])
                           (.block 4
                            (.loop
                             (.seq
                              (.region false [⟨(some 102), (.bin .lss (.tmp 101) (.tmp 100)), none⟩])
                              (.seq
                               (.cond (.tmp 102)
                                .skip
                                (.exit 4))
                               (.seq
                                (.block 5
                                 (.seq
                                  (.region false [⟨(some 103), (.mv (.tmp 101)), none⟩,
                                   ⟨(some 104), (.iaddrs L8 (.tmp 99) (.tmp 101)), none⟩,
                                   ⟨(some 105), (.load L8 (.tmp 104)), none⟩,
                                   ⟨(some 21), (.mv (.tmp 103)), none⟩,
                                   ⟨(some 22), (.mv (.tmp 105)), none⟩])
                                  (.seq
                                   (.region true [⟨(some 106), (.mv (.tmp 22)), none⟩,
                                    ⟨(some 107), (.mv (.tmp 17)), none⟩,
                                    ⟨(some 108), (.mv (.tmp 21)), none⟩,
                                    ⟨(some 109), (.iaddrs L8 (.tmp 107) (.tmp 108)), none⟩,
                                    ⟨(some 110), (.load L8 (.tmp 109)), none⟩,
                                    ⟨(some 111), (.bin .xor (.tmp 106) (.tmp 110)), none⟩,
                                    ⟨(some 112), (.mv (.tmp 22)), none⟩,
                                    ⟨(some 113), (.mv (.tmp 15)), none⟩,
                                    ⟨(some 114), (.mv (.tmp 21)), none⟩,
                                    ⟨(some 115), (.iaddrs L8 (.tmp 113) (.tmp 114)), none⟩,
                                    ⟨(some 116), (.load L8 (.tmp 115)), none⟩,
                                    ⟨(some 117), (.bin .xor (.tmp 112) (.tmp 116)), none⟩,
                                    ⟨(some 118), (.bin .and (.tmp 111) (.tmp 117)), none⟩,
                                    ⟨(some 119), (.bin .neq (.tmp 118) (.const (u8 0#8))), none⟩])
                                   (.cond (.tmp 119)
                                    (.seq
                                     (.region false [⟨(some 10), (.mv (.const (.bool false))), none⟩])
                                     .ret)
                                    .skip))))
                                (.region false [⟨(some 120), (.bin .add (.tmp 101) (.const (it 1))), none⟩,
                                 ⟨(some 101), (.mv (.tmp 120)), none⟩])))))))
                          (.region false [⟨(some 121), (.mv (.tmp 20)), none⟩,
                           ⟨(some 17), (.mv (.tmp 121)), none⟩])))))))
                    (.region false [⟨(some 122), (.bin .add (.tmp 83) (.const (it 1))), none⟩,
                     ⟨(some 83), (.mv (.tmp 122)), none⟩])))))))
              (.seq
               (.seq
                (.region false [⟨(some 123), (.mv (.tmp 11)), none⟩,
                 ⟨(some 124), (.mv (.tmp 15)), none⟩,
                 ⟨(some 125), (.call 21 [(.const (it 1))]), none⟩,
                 ⟨(some 126), (.call 20 [(.tmp 123), (.const (it 1)), (.tmp 124), (.tmp 125)]), none⟩,
                 ⟨(some 127), (.bin .neq (.tmp 126) (.const (it 0))), none⟩])
                (.cond (.tmp 127)
                 (.seq
                  (.region false [⟨(some 10), (.mv (.const (.bool false))), none⟩])
                  .ret)
                 .skip))
               (.seq
                (.region false [⟨(some 128), (.mv (.tmp 11)), none⟩,
                 ⟨(some 129), (.bslice LI 1 (.raw (it 0)) [(0, (.const (it 1)))]), none⟩,
                 ⟨(some 130), (.call 22 [(.tmp 128), (.tmp 129)]), none⟩,
                 ⟨(some 131), (.mv (.tmp 15)), none⟩,
                 ⟨(some 132), (.call 18 [(.tmp 130), (.tmp 131)]), none⟩,
                 ⟨(some 133), (.mv (.tmp 132)), none⟩,
                 ⟨(some 134), (.mv (.tmp 11)), some (133, true)⟩,
                 ⟨(some 135), (.bslice LI 1 (.raw (it 0)) [(0, (.const (it 0)))]), some (133, true)⟩,
                 ⟨(some 136), (.call 22 [(.tmp 134), (.tmp 135)]), some (133, true)⟩,
                 ⟨(some 137), (.slice L8 (.tmp 136) none (some (.const (it 3))) none), some (133, true)⟩,
                 ⟨(some 138), (.bslice L8 3 (.raw (u8 0#8)) [(0, (.const (u8 1#8))), (1, (.const (u8 2#8))), (2, (.const (u8 3#8)))]), some (133, true)⟩,
                 ⟨(some 139), (.call 18 [(.tmp 137), (.tmp 138)]), some (133, true)⟩,
                 ⟨(some 140), (.pick (.tmp 133) (.tmp 139) (.const (.bool false))), none⟩,
                 ⟨(some 141), (.mv (.tmp 140)), none⟩,
                 ⟨(some 142), (.mv (.tmp 11)), some (141, true)⟩,
                 ⟨(some 143), (.call 11 [(.tmp 142), (.const (it 2)), (.const (it 1))]), some (141, true)⟩,
                 ⟨(some 144), (.pick (.tmp 141) (.tmp 143) (.const (.bool false))), none⟩,
                 ⟨(some 10), (.mv (.tmp 144)), none⟩])
                .ret)))))))))))))))
def r_law12_FlashTears : List ARes := [(.tmp 10)]
theorem c_law12_FlashTears : o2 Go.Proofs.Try.f5.body (comp Go.Proofs.Try.prog Go.Proofs.Try.f5.ntmps) = some a_law12_FlashTears := by kernel_rfl
theorem s_law12_FlashTears : cRess Go.Proofs.Try.prog Go.Proofs.Try.f5.results.toList = some r_law12_FlashTears := by kernel_rfl
theorem m_law12_FlashTears (C : Ctx) (hC : CtxOK C Go.Proofs.Try.prog) : Meets C.glob Go.Proofs.Try.prog 5 (afun C 5 r_law12_FlashTears a_law12_FlashTears) :=
  fn_sound hC Go.Proofs.Try.func5 c_law12_FlashTears s_law12_FlashTears (Nat.le_of_ble_eq_true (by kernel_rfl))

/-- curtilage/curtilagelaw12.FlashPlays -/
def a_law12_FlashPlays : ACode :=
 (.seq
  (.region false [⟨(some 4), (.mv (.const (.bool false))), none⟩])
  (.seq
   (.seq
    (.region false [⟨(some 14), (.call 8 []), none⟩,
     ⟨(some 15), (.un .not (.tmp 14)), none⟩])
    (.cond (.tmp 15)
     (.seq
      (.region false [⟨(some 4), (.mv (.const (.bool false))), none⟩])
      .ret)
     .skip))
   (.seq
    (.region false [⟨(some 16), (.mv (.tmp 0)), none⟩,
     ⟨(some 17), (.bin .rem (.tmp 16) (.const (u8 4#8))), none⟩,
     ⟨(some 18), (.conv .i64 (.tmp 17)), none⟩,
     ⟨(some 5), (.mv (.tmp 18)), none⟩])
    (.seq
     (.region false [⟨(some 20), (.mv (.tmp 5)), none⟩,
      ⟨(some 21), (.call 9 [(.tmp 20)]), none⟩,
      ⟨(some 19), (.mv (.tmp 21)), none⟩,
      ⟨(some 22), (.ext (.tmp 19) 0), none⟩,
      ⟨(some 23), (.ext (.tmp 19) 1), none⟩,
      ⟨(some 6), (.mv (.tmp 22)), none⟩,
      ⟨(some 7), (.mv (.tmp 23)), none⟩])
     (.seq
      (.seq
       (.region false [⟨(some 24), (.mv (.tmp 7)), none⟩,
        ⟨(some 25), (.bin .neq (.tmp 24) (.const (it 0))), none⟩,
        ⟨(some 26), (.mv (.tmp 25)), none⟩,
        ⟨(some 27), (.mv (.tmp 6)), some (26, false)⟩,
        ⟨(some 28), (.eqnil false (.tmp 27) (.const (.pointer none))), some (26, false)⟩,
        ⟨(some 29), (.pick (.tmp 26) (.const (.bool true)) (.tmp 28)), none⟩])
       (.cond (.tmp 29)
        (.seq
         (.region false [⟨(some 4), (.mv (.const (.bool false))), none⟩])
         .ret)
        .skip))
      (.seq
       (.region false [⟨(some 30), (.mv (.tmp 5)), none⟩,
        ⟨(some 31), (.call 21 [(.tmp 30)]), none⟩,
        ⟨(some 8), (.mv (.tmp 31)), none⟩])
       (.seq
        (.seq
         (.region false [⟨(some 32), (.mv (.tmp 1)), none⟩,
          ⟨(some 33), (.len (.tmp 32)), none⟩,
          ⟨(some 34), (.mv (.const (it 0))), none⟩])
         (.block 0
          (.loop
           (.seq
            (.region false [⟨(some 35), (.bin .lss (.tmp 34) (.tmp 33)), none⟩])
            (.seq
             (.cond (.tmp 35)
              .skip
              (.exit 0))
             (.seq
              (.block 1
               (.seq
                (.region false [⟨(some 36), (.mv (.tmp 34)), none⟩,
                 ⟨(some 37), (.iaddrs S1 (.tmp 32) (.tmp 34)), none⟩,
                 ⟨(some 38), (.load S1 (.tmp 37)), none⟩,
                 ⟨(some 10), (.alloc S1 (.agg S1 [(.raw (u8 0#8)), (.raw (it 0)), (.raw (it 0)), (.raw (.slice none 0 0)), (.raw (.slice none 0 0))])), none⟩,
                 ⟨(some 9), (.mv (.tmp 36)), none⟩,
                 ⟨none, (.store S1 (.tmp 10) (.tmp 38)), none⟩])
                (.seq
                 (.seq
                  (.region false [⟨(some 39), (.mv (.tmp 9)), none⟩,
                   ⟨(some 40), (.bin .geq (.tmp 39) (.const (it 30))), none⟩])
                  (.cond (.tmp 40)
                   (.exit 0)
                   .skip))
                 (.seq
                  (.region false [⟨(some 11), (.mv (.const (.bool false))), none⟩])
                  (.seq
                   (.region false [⟨(some 42), (.mv (.tmp 6)), none⟩,
                    ⟨(some 43), (.mv (.tmp 8)), none⟩,
                    ⟨(some 44), (.load S1 (.tmp 10)), none⟩,
                    ⟨(some 45), (.call 24 [(.tmp 44)]), none⟩,
                    ⟨(some 46), (.call 23 [(.tmp 42), (.tmp 43), (.tmp 45)]), none⟩,
                    ⟨(some 41), (.mv (.tmp 46)), none⟩,
                    ⟨(some 47), (.ext (.tmp 41) 0), none⟩,
                    ⟨(some 48), (.ext (.tmp 41) 1), none⟩,
                    ⟨(some 8), (.mv (.tmp 47)), none⟩,
                    ⟨(some 11), (.mv (.tmp 48)), none⟩])
                   (.seq
                    (.region false [⟨(some 49), (.mv (.tmp 11)), none⟩,
                     ⟨(some 50), (.un .not (.tmp 49)), none⟩])
                    (.cond (.tmp 50)
                     (.seq
                      (.region false [⟨(some 4), (.mv (.const (.bool false))), none⟩])
                      .ret)
                     .skip)))))))
              (.region false [⟨(some 51), (.bin .add (.tmp 34) (.const (it 1))), none⟩,
               ⟨(some 34), (.mv (.tmp 51)), none⟩])))))))
        (.seq
         (.region false [⟨(some 53), (.mv (.tmp 6)), none⟩,
          ⟨(some 54), (.mv (.tmp 6)), none⟩,
          ⟨(some 55), (.call 16 [(.tmp 54)]), none⟩,
          ⟨(some 56), (.call 15 [(.tmp 53), (.const (it 0)), (.tmp 55)]), none⟩,
          ⟨(some 52), (.mv (.tmp 56)), none⟩,
          ⟨(some 57), (.ext (.tmp 52) 0), none⟩,
          ⟨(some 58), (.ext (.tmp 52) 1), none⟩,
          ⟨(some 12), (.mv (.tmp 57)), none⟩,
          ⟨(some 13), (.mv (.tmp 58)), none⟩])
         (.seq
          (.region false [⟨(some 59), (.mv (.tmp 13)), none⟩,
           ⟨(some 60), (.bin .eql (.tmp 59) (.const (it 0))), none⟩,
           ⟨(some 61), (.mv (.tmp 60)), none⟩,
           ⟨(some 62), (.mv (.tmp 12)), some (61, true)⟩,
           ⟨(some 63), (.mv (.tmp 8)), some (61, true)⟩,
           ⟨(some 64), (.call 18 [(.tmp 62), (.tmp 63)]), some (61, true)⟩,
           ⟨(some 65), (.pick (.tmp 61) (.tmp 64) (.const (.bool false))), none⟩,
           ⟨(some 66), (.mv (.tmp 65)), none⟩,
           ⟨(some 67), (.mv (.tmp 6)), some (66, true)⟩,
           ⟨(some 68), (.call 16 [(.tmp 67)]), some (66, true)⟩,
           ⟨(some 69), (.mv (.tmp 5)), some (66, true)⟩,
           ⟨(some 70), (.bin .mul (.const (it 256)) (.tmp 69)), some (66, true)⟩,
           ⟨(some 71), (.bin .eql (.tmp 68) (.tmp 70)), some (66, true)⟩,
           ⟨(some 72), (.pick (.tmp 66) (.tmp 71) (.const (.bool false))), none⟩,
           ⟨(some 4), (.mv (.tmp 72)), none⟩])
          .ret)))))))))
def r_law12_FlashPlays : List ARes := [(.tmp 4)]
theorem c_law12_FlashPlays : o2 Go.Proofs.Try.f6.body (comp Go.Proofs.Try.prog Go.Proofs.Try.f6.ntmps) = some a_law12_FlashPlays := by kernel_rfl
theorem s_law12_FlashPlays : cRess Go.Proofs.Try.prog Go.Proofs.Try.f6.results.toList = some r_law12_FlashPlays := by kernel_rfl
theorem m_law12_FlashPlays (C : Ctx) (hC : CtxOK C Go.Proofs.Try.prog) : Meets C.glob Go.Proofs.Try.prog 6 (afun C 2 r_law12_FlashPlays a_law12_FlashPlays) :=
  fn_sound hC Go.Proofs.Try.func6 c_law12_FlashPlays s_law12_FlashPlays (Nat.le_of_ble_eq_true (by kernel_rfl))

/-- curtilage/curtilagelaw12.FlashArgs -/
def a_law12_FlashArgs : ACode :=
 (.seq
  (.region false [⟨(some 8), (.mv (.const (.bool false))), none⟩])
  (.seq
   (.seq
    (.region false [⟨(some 24), (.call 8 []), none⟩,
     ⟨(some 25), (.un .not (.tmp 24)), none⟩])
    (.cond (.tmp 25)
     (.seq
      (.region false [⟨(some 8), (.mv (.const (.bool false))), none⟩])
      .ret)
     .skip))
   (.seq
    (.region false [⟨(some 26), (.mv (.tmp 3)), none⟩,
     ⟨(some 27), (.call 17 [(.tmp 26), (.const (it 50))]), none⟩,
     ⟨(some 3), (.mv (.tmp 27)), none⟩])
    (.seq
     (.seq
      (.region false [⟨(some 28), (.mv (.tmp 0)), none⟩,
       ⟨(some 29), (.bin .lss (.tmp 28) (.const (it 0))), none⟩,
       ⟨(some 30), (.mv (.tmp 29)), none⟩,
       ⟨(some 31), (.mv (.tmp 0)), some (30, false)⟩,
       ⟨(some 32), (.bin .gtr (.tmp 31) (.const (it 1024))), some (30, false)⟩,
       ⟨(some 33), (.pick (.tmp 30) (.const (.bool true)) (.tmp 32)), none⟩])
      (.cond (.tmp 33)
       (.seq
        (.region false [⟨(some 35), (.mv (.tmp 0)), none⟩,
         ⟨(some 36), (.call 9 [(.tmp 35)]), none⟩,
         ⟨(some 34), (.mv (.tmp 36)), none⟩,
         ⟨(some 37), (.ext (.tmp 34) 0), none⟩,
         ⟨(some 38), (.ext (.tmp 34) 1), none⟩,
         ⟨(some 9), (.mv (.tmp 37)), none⟩,
         ⟨(some 10), (.mv (.tmp 38)), none⟩])
        (.seq
         (.region false [⟨(some 39), (.mv (.tmp 10)), none⟩,
          ⟨(some 40), (.bin .neq (.tmp 39) (.const (it 1))), none⟩])
         (.cond (.tmp 40)
          (.seq
           (.region false [⟨(some 8), (.mv (.const (.bool false))), none⟩])
           .ret)
          .skip)))
       .skip))
     (.seq
      (.region false [⟨(some 42), (.call 9 [(.const (it 1))]), none⟩,
       ⟨(some 41), (.mv (.tmp 42)), none⟩,
       ⟨(some 43), (.ext (.tmp 41) 0), none⟩,
       ⟨(some 44), (.ext (.tmp 41) 1), none⟩,
       ⟨(some 11), (.mv (.tmp 43)), none⟩,
       ⟨(some 12), (.mv (.tmp 44)), none⟩])
      (.seq
       (.region false [⟨(some 45), (.mv (.tmp 3)), none⟩,
        ⟨(some 46), (.call 17 [(.tmp 45), (.const (it 50))]), none⟩,
        ⟨(some 13), (.mv (.tmp 46)), none⟩])
       (.seq
        (.region false [⟨(some 47), (.mv (.tmp 11)), none⟩,
         ⟨(some 48), (.mv (.tmp 13)), none⟩,
         ⟨(some 49), (.call 14 [(.tmp 47), (.const (it 0)), (.tmp 48)]), none⟩])
        (.seq
         (.region false [⟨(some 51), (.mv (.tmp 11)), none⟩,
          ⟨(some 52), (.mv (.tmp 3)), none⟩,
          ⟨(some 53), (.len (.tmp 52)), none⟩,
          ⟨(some 54), (.call 15 [(.tmp 51), (.const (it 0)), (.tmp 53)]), none⟩,
          ⟨(some 50), (.mv (.tmp 54)), none⟩,
          ⟨(some 55), (.ext (.tmp 50) 0), none⟩,
          ⟨(some 56), (.ext (.tmp 50) 1), none⟩,
          ⟨(some 14), (.mv (.tmp 55)), none⟩,
          ⟨(some 15), (.mv (.tmp 56)), none⟩])
         (.seq
          (.seq
           (.region false [⟨(some 57), (.mv (.tmp 13)), none⟩,
            ⟨(some 58), (.len (.tmp 57)), none⟩,
            ⟨(some 59), (.mv (.const (it 0))), none⟩])
           (.block 0
            (.loop
             (.seq
              (.region false [⟨(some 60), (.bin .lss (.tmp 59) (.tmp 58)), none⟩])
              (.seq
               (.cond (.tmp 60)
                .skip
                (.exit 0))
               (.seq
                (.block 1
                 (.seq
                  (.region false [⟨(some 61), (.mv (.tmp 59)), none⟩,
                   ⟨(some 16), (.mv (.tmp 61)), none⟩])
                  (.seq
                   (.region false [⟨(some 62), (.mv (.tmp 13)), none⟩,
                    ⟨(some 63), (.mv (.tmp 16)), none⟩,
                    ⟨(some 64), (.iaddrs L8 (.tmp 62) (.tmp 63)), none⟩,
                    ⟨(some 65), (.load L8 (.tmp 64)), none⟩,
                    ⟨(some 66), (.bin .add (.tmp 65) (.const (u8 1#8))), none⟩,
                    ⟨(some 67), (.iaddrs L8 (.tmp 62) (.tmp 63)), none⟩,
                    ⟨none, (.store L8 (.tmp 67) (.tmp 66)), none⟩])
                   (.region false [⟨(some 68), (.mv (.tmp 14)), none⟩,
                    ⟨(some 69), (.mv (.tmp 16)), none⟩,
                    ⟨(some 70), (.iaddrs L8 (.tmp 68) (.tmp 69)), none⟩,
                    ⟨(some 71), (.load L8 (.tmp 70)), none⟩,
                    ⟨(some 72), (.bin .add (.tmp 71) (.const (u8 2#8))), none⟩,
                    ⟨(some 73), (.iaddrs L8 (.tmp 68) (.tmp 69)), none⟩,
                    ⟨none, (.store L8 (.tmp 73) (.tmp 72)), none⟩]))))
                (.region false [⟨(some 74), (.bin .add (.tmp 59) (.const (it 1))), none⟩,
                 ⟨(some 59), (.mv (.tmp 74)), none⟩])))))))
          (.seq
           (.region false [⟨(some 76), (.mv (.tmp 11)), none⟩,
            ⟨(some 77), (.mv (.tmp 3)), none⟩,
            ⟨(some 78), (.len (.tmp 77)), none⟩,
            ⟨(some 79), (.call 15 [(.tmp 76), (.const (it 0)), (.tmp 78)]), none⟩,
            ⟨(some 75), (.mv (.tmp 79)), none⟩,
            ⟨(some 80), (.ext (.tmp 75) 0), none⟩,
            ⟨(some 81), (.ext (.tmp 75) 1), none⟩,
            ⟨(some 17), (.mv (.tmp 80)), none⟩,
            ⟨(some 18), (.mv (.tmp 81)), none⟩])
           (.seq
            (.seq
             (.region false [⟨(some 82), (.mv (.tmp 17)), none⟩,
              ⟨(some 83), (.mv (.tmp 3)), none⟩,
              ⟨(some 84), (.call 18 [(.tmp 82), (.tmp 83)]), none⟩,
              ⟨(some 85), (.un .not (.tmp 84)), none⟩,
              ⟨(some 86), (.mv (.tmp 85)), none⟩,
              ⟨(some 87), (.mv (.tmp 11)), some (86, false)⟩,
              ⟨(some 88), (.bslice LI 3 (.raw (it 0)) [(0, (.const (it (-1)))), (1, (.const (it 1))), (2, (.const (it 7)))]), some (86, false)⟩,
              ⟨(some 89), (.call 22 [(.tmp 87), (.tmp 88)]), some (86, false)⟩,
              ⟨(some 90), (.len (.tmp 89)), some (86, false)⟩,
              ⟨(some 91), (.bin .neq (.tmp 90) (.const (it 0))), some (86, false)⟩,
              ⟨(some 92), (.pick (.tmp 86) (.const (.bool true)) (.tmp 91)), none⟩,
              ⟨(some 93), (.mv (.tmp 92)), none⟩,
              ⟨(some 94), (.mv (.tmp 11)), some (93, false)⟩,
              ⟨(some 95), (.bslice LI 2 (.raw (it 0)) [(0, (.const (it 0))), (1, (.const (it 0)))]), some (93, false)⟩,
              ⟨(some 96), (.call 22 [(.tmp 94), (.tmp 95)]), some (93, false)⟩,
              ⟨(some 97), (.len (.tmp 96)), some (93, false)⟩,
              ⟨(some 98), (.bin .neq (.tmp 97) (.const (it 512))), some (93, false)⟩,
              ⟨(some 99), (.pick (.tmp 93) (.const (.bool true)) (.tmp 98)), none⟩])
             (.cond (.tmp 99)
              (.seq
               (.region false [⟨(some 8), (.mv (.const (.bool false))), none⟩])
               .ret)
              .skip))
            (.seq
             (.region false [⟨(some 19), (.mv (.const (.pointer none))), none⟩])
             (.seq
              (.region false [⟨(some 101), (.mv (.tmp 19)), none⟩,
               ⟨(some 102), (.mv (.tmp 1)), none⟩,
               ⟨(some 103), (.mv (.tmp 2)), none⟩,
               ⟨(some 104), (.call 15 [(.tmp 101), (.tmp 102), (.tmp 103)]), none⟩,
               ⟨(some 100), (.mv (.tmp 104)), none⟩,
               ⟨(some 105), (.ext (.tmp 100) 0), none⟩,
               ⟨(some 106), (.ext (.tmp 100) 1), none⟩,
               ⟨(some 20), (.mv (.tmp 105)), none⟩,
               ⟨(some 21), (.mv (.tmp 106)), none⟩])
              (.seq
               (.region false [⟨(some 108), (.mv (.tmp 19)), none⟩,
                ⟨(some 109), (.mv (.tmp 1)), none⟩,
                ⟨(some 110), (.mv (.tmp 2)), none⟩,
                ⟨(some 111), (.mv (.tmp 3)), none⟩,
                ⟨(some 112), (.call 19 [(.tmp 108), (.tmp 109), (.tmp 110), (.tmp 111)]), none⟩,
                ⟨(some 107), (.mv (.tmp 112)), none⟩,
                ⟨(some 113), (.ext (.tmp 107) 0), none⟩,
                ⟨(some 114), (.ext (.tmp 107) 1), none⟩,
                ⟨(some 22), (.mv (.tmp 113)), none⟩,
                ⟨(some 23), (.mv (.tmp 114)), none⟩])
               (.seq
                (.region false [⟨(some 115), (.mv (.tmp 21)), none⟩,
                 ⟨(some 116), (.bin .eql (.tmp 115) (.const (it 3))), none⟩,
                 ⟨(some 117), (.mv (.tmp 116)), none⟩,
                 ⟨(some 118), (.mv (.tmp 23)), some (117, true)⟩,
                 ⟨(some 119), (.bin .eql (.tmp 118) (.const (it 3))), some (117, true)⟩,
                 ⟨(some 120), (.pick (.tmp 117) (.tmp 119) (.const (.bool false))), none⟩,
                 ⟨(some 121), (.mv (.tmp 120)), none⟩,
                 ⟨(some 122), (.mv (.tmp 19)), some (121, true)⟩,
                 ⟨(some 123), (.mv (.tmp 1)), some (121, true)⟩,
                 ⟨(some 124), (.call 13 [(.tmp 122), (.tmp 123)]), some (121, true)⟩,
                 ⟨(some 125), (.bin .eql (.tmp 124) (.const (it 3))), some (121, true)⟩,
                 ⟨(some 126), (.pick (.tmp 121) (.tmp 125) (.const (.bool false))), none⟩,
                 ⟨(some 127), (.mv (.tmp 126)), none⟩,
                 ⟨(some 128), (.mv (.tmp 19)), some (127, true)⟩,
                 ⟨(some 129), (.mv (.tmp 1)), some (127, true)⟩,
                 ⟨(some 130), (.mv (.tmp 3)), some (127, true)⟩,
                 ⟨(some 131), (.call 14 [(.tmp 128), (.tmp 129), (.tmp 130)]), some (127, true)⟩,
                 ⟨(some 132), (.bin .eql (.tmp 131) (.const (it 3))), some (127, true)⟩,
                 ⟨(some 133), (.pick (.tmp 127) (.tmp 132) (.const (.bool false))), none⟩,
                 ⟨(some 134), (.mv (.tmp 133)), none⟩,
                 ⟨(some 135), (.mv (.tmp 19)), some (134, true)⟩,
                 ⟨(some 136), (.mv (.tmp 1)), some (134, true)⟩,
                 ⟨(some 137), (.mv (.tmp 3)), some (134, true)⟩,
                 ⟨(some 138), (.mv (.tmp 3)), some (134, true)⟩,
                 ⟨(some 139), (.call 20 [(.tmp 135), (.tmp 136), (.tmp 137), (.tmp 138)]), some (134, true)⟩,
                 ⟨(some 140), (.bin .eql (.tmp 139) (.const (it 3))), some (134, true)⟩,
                 ⟨(some 141), (.pick (.tmp 134) (.tmp 140) (.const (.bool false))), none⟩,
                 ⟨(some 142), (.mv (.tmp 141)), none⟩,
                 ⟨(some 143), (.mv (.tmp 19)), some (142, true)⟩,
                 ⟨(some 144), (.mv (.tmp 1)), some (142, true)⟩,
                 ⟨(some 145), (.call 10 [(.tmp 143), (.tmp 144), (.const (u8 1#8))]), some (142, true)⟩,
                 ⟨(some 146), (.bin .eql (.tmp 145) (.const (it 3))), some (142, true)⟩,
                 ⟨(some 147), (.pick (.tmp 142) (.tmp 146) (.const (.bool false))), none⟩,
                 ⟨(some 148), (.mv (.tmp 147)), none⟩,
                 ⟨(some 149), (.mv (.tmp 19)), some (148, true)⟩,
                 ⟨(some 150), (.call 16 [(.tmp 149)]), some (148, true)⟩,
                 ⟨(some 151), (.mv (.tmp 19)), some (148, true)⟩,
                 ⟨(some 152), (.bslice LI 1 (.raw (it 0)) [(0, (.const (it 0)))]), some (148, true)⟩,
                 ⟨(some 153), (.call 22 [(.tmp 151), (.tmp 152)]), some (148, true)⟩,
                 ⟨(some 154), (.len (.tmp 153)), some (148, true)⟩,
                 ⟨(some 155), (.bin .add (.tmp 150) (.tmp 154)), some (148, true)⟩,
                 ⟨(some 156), (.bin .eql (.tmp 155) (.const (it 0))), some (148, true)⟩,
                 ⟨(some 157), (.pick (.tmp 148) (.tmp 156) (.const (.bool false))), none⟩,
                 ⟨(some 158), (.mv (.tmp 157)), none⟩,
                 ⟨(some 159), (.mv (.tmp 19)), some (158, true)⟩,
                 ⟨(some 160), (.call 11 [(.tmp 159), (.const (it 0)), (.const (it 0))]), some (158, true)⟩,
                 ⟨(some 161), (.un .not (.tmp 160)), some (158, true)⟩,
                 ⟨(some 162), (.pick (.tmp 158) (.tmp 161) (.const (.bool false))), none⟩,
                 ⟨(some 163), (.mv (.tmp 162)), none⟩,
                 ⟨(some 164), (.mv (.tmp 19)), some (163, true)⟩,
                 ⟨(some 165), (.call 12 [(.tmp 164)]), some (163, true)⟩,
                 ⟨(some 166), (.eqnil false (.tmp 165) (.const (.pointer none))), some (163, true)⟩,
                 ⟨(some 167), (.pick (.tmp 163) (.tmp 166) (.const (.bool false))), none⟩,
                 ⟨(some 8), (.mv (.tmp 167)), none⟩])
                .ret)))))))))))))))
def r_law12_FlashArgs : List ARes := [(.tmp 8)]
theorem c_law12_FlashArgs : o2 Go.Proofs.Try.f7.body (comp Go.Proofs.Try.prog Go.Proofs.Try.f7.ntmps) = some a_law12_FlashArgs := by kernel_rfl
theorem s_law12_FlashArgs : cRess Go.Proofs.Try.prog Go.Proofs.Try.f7.results.toList = some r_law12_FlashArgs := by kernel_rfl
theorem m_law12_FlashArgs (C : Ctx) (hC : CtxOK C Go.Proofs.Try.prog) : Meets C.glob Go.Proofs.Try.prog 7 (afun C 4 r_law12_FlashArgs a_law12_FlashArgs) :=
  fn_sound hC Go.Proofs.Try.func7 c_law12_FlashArgs s_law12_FlashArgs (Nat.le_of_ble_eq_true (by kernel_rfl))

/-- curtilage/curtilagelaw12.awake -/
def a_law12_awake : ACode :=
 (.seq
  (.region false [⟨(some 0), (.mv (.const (.bool false))), none⟩])
  (.seq
   (.region false [⟨(some 6), (.call 9 [(.const (it 2))]), none⟩,
    ⟨(some 5), (.mv (.tmp 6)), none⟩,
    ⟨(some 7), (.ext (.tmp 5) 0), none⟩,
    ⟨(some 8), (.ext (.tmp 5) 1), none⟩,
    ⟨(some 1), (.mv (.tmp 7)), none⟩,
    ⟨(some 2), (.mv (.tmp 8)), none⟩])
   (.seq
    (.seq
     (.region false [⟨(some 9), (.mv (.tmp 2)), none⟩,
      ⟨(some 10), (.bin .neq (.tmp 9) (.const (it 0))), none⟩,
      ⟨(some 11), (.mv (.tmp 10)), none⟩,
      ⟨(some 12), (.mv (.tmp 1)), some (11, false)⟩,
      ⟨(some 13), (.eqnil false (.tmp 12) (.const (.pointer none))), some (11, false)⟩,
      ⟨(some 14), (.pick (.tmp 11) (.const (.bool true)) (.tmp 13)), none⟩,
      ⟨(some 15), (.mv (.tmp 14)), none⟩,
      ⟨(some 16), (.mv (.tmp 1)), some (15, false)⟩,
      ⟨(some 17), (.bslice L8 1 (.raw (u8 0#8)) [(0, (.const (u8 240#8)))]), some (15, false)⟩,
      ⟨(some 18), (.call 14 [(.tmp 16), (.const (it 0)), (.tmp 17)]), some (15, false)⟩,
      ⟨(some 19), (.bin .neq (.tmp 18) (.const (it 0))), some (15, false)⟩,
      ⟨(some 20), (.pick (.tmp 15) (.const (.bool true)) (.tmp 19)), none⟩,
      ⟨(some 21), (.mv (.tmp 20)), none⟩,
      ⟨(some 22), (.mv (.tmp 1)), some (21, false)⟩,
      ⟨(some 23), (.bslice L8 1 (.raw (u8 0#8)) [(0, (.const (u8 48#8)))]), some (21, false)⟩,
      ⟨(some 24), (.call 14 [(.tmp 22), (.const (it 0)), (.tmp 23)]), some (21, false)⟩,
      ⟨(some 25), (.bin .neq (.tmp 24) (.const (it 0))), some (21, false)⟩,
      ⟨(some 26), (.pick (.tmp 21) (.const (.bool true)) (.tmp 25)), none⟩,
      ⟨(some 27), (.mv (.tmp 26)), none⟩,
      ⟨(some 28), (.mv (.tmp 1)), some (27, false)⟩,
      ⟨(some 29), (.bslice L8 1 (.raw (u8 0#8)) [(0, (.const (u8 255#8)))]), some (27, false)⟩,
      ⟨(some 30), (.call 14 [(.tmp 28), (.const (it 0)), (.tmp 29)]), some (27, false)⟩,
      ⟨(some 31), (.bin .neq (.tmp 30) (.const (it 14))), some (27, false)⟩,
      ⟨(some 32), (.pick (.tmp 27) (.const (.bool true)) (.tmp 31)), none⟩])
     (.cond (.tmp 32)
      (.seq
       (.region false [⟨(some 0), (.mv (.const (.bool false))), none⟩])
       .ret)
      .skip))
    (.seq
     (.region false [⟨(some 34), (.mv (.tmp 1)), none⟩,
      ⟨(some 35), (.call 15 [(.tmp 34), (.const (it 0)), (.const (it 2))]), none⟩,
      ⟨(some 33), (.mv (.tmp 35)), none⟩,
      ⟨(some 36), (.ext (.tmp 33) 0), none⟩,
      ⟨(some 37), (.ext (.tmp 33) 1), none⟩,
      ⟨(some 3), (.mv (.tmp 36)), none⟩,
      ⟨(some 4), (.mv (.tmp 37)), none⟩])
     (.seq
      (.region false [⟨(some 38), (.mv (.tmp 4)), none⟩,
       ⟨(some 39), (.bin .eql (.tmp 38) (.const (it 0))), none⟩,
       ⟨(some 40), (.mv (.tmp 39)), none⟩,
       ⟨(some 41), (.mv (.tmp 3)), some (40, true)⟩,
       ⟨(some 42), (.bslice L8 2 (.raw (u8 0#8)) [(0, (.const (u8 48#8))), (1, (.const (u8 255#8)))]), some (40, true)⟩,
       ⟨(some 43), (.call 18 [(.tmp 41), (.tmp 42)]), some (40, true)⟩,
       ⟨(some 44), (.pick (.tmp 40) (.tmp 43) (.const (.bool false))), none⟩,
       ⟨(some 45), (.mv (.tmp 44)), none⟩,
       ⟨(some 46), (.mv (.tmp 1)), some (45, true)⟩,
       ⟨(some 47), (.call 11 [(.tmp 46), (.const (it 1)), (.const (it 1))]), some (45, true)⟩,
       ⟨(some 48), (.pick (.tmp 45) (.tmp 47) (.const (.bool false))), none⟩,
       ⟨(some 49), (.mv (.tmp 48)), none⟩,
       ⟨(some 50), (.mv (.tmp 1)), some (49, true)⟩,
       ⟨(some 51), (.call 11 [(.tmp 50), (.const (it 0)), (.const (it 2))]), some (49, true)⟩,
       ⟨(some 52), (.un .not (.tmp 51)), some (49, true)⟩,
       ⟨(some 53), (.pick (.tmp 49) (.tmp 52) (.const (.bool false))), none⟩,
       ⟨(some 0), (.mv (.tmp 53)), none⟩])
      .ret)))))
def r_law12_awake : List ARes := [(.tmp 0)]
theorem c_law12_awake : o2 Go.Proofs.Try.f8.body (comp Go.Proofs.Try.prog Go.Proofs.Try.f8.ntmps) = some a_law12_awake := by kernel_rfl
theorem s_law12_awake : cRess Go.Proofs.Try.prog Go.Proofs.Try.f8.results.toList = some r_law12_awake := by kernel_rfl
theorem m_law12_awake (C : Ctx) (hC : CtxOK C Go.Proofs.Try.prog) : Meets C.glob Go.Proofs.Try.prog 8 (afun C 0 r_law12_awake a_law12_awake) :=
  fn_sound hC Go.Proofs.Try.func8 c_law12_awake s_law12_awake (Nat.le_of_ble_eq_true (by kernel_rfl))

/-- curtilage/flash.New -/
def a_flash_New : ACode :=
 (.seq
  (.region false [⟨(some 2), (.mv (.const (.pointer none))), none⟩,
   ⟨(some 3), (.mv (.const (it 0))), none⟩])
  (.seq
   (.seq
    (.region false [⟨(some 4), (.mv (.tmp 0)), none⟩,
     ⟨(some 5), (.bin .lss (.tmp 4) (.const (it 0))), none⟩,
     ⟨(some 6), (.mv (.tmp 5)), none⟩,
     ⟨(some 7), (.mv (.tmp 0)), some (6, false)⟩,
     ⟨(some 8), (.bin .gtr (.tmp 7) (.const (it 1024))), some (6, false)⟩,
     ⟨(some 9), (.pick (.tmp 6) (.const (.bool true)) (.tmp 8)), none⟩])
    (.cond (.tmp 9)
     (.seq
      (.region false [⟨(some 2), (.mv (.const (.pointer none))), none⟩,
       ⟨(some 3), (.mv (.const (it 1))), none⟩])
      .ret)
     .skip))
   (.seq
    (.region false [⟨(some 10), (.bslice L8 1 (.raw (u8 0#8)) [(0, (.const (u8 255#8)))]), none⟩,
     ⟨(some 11), (.mv (.tmp 0)), none⟩,
     ⟨(some 12), (.bin .mul (.const (it 256)) (.tmp 11)), none⟩,
     ⟨(some 13), (.call 25 [(.tmp 10), (.tmp 12)]), none⟩,
     ⟨(some 14), (.build S2 [(.raw (.slice none 0 0))] [(0, (.tmp 13))]), none⟩,
     ⟨(some 15), (.box S2 (.tmp 14)), none⟩,
     ⟨(some 2), (.mv (.tmp 15)), none⟩,
     ⟨(some 3), (.mv (.const (it 0))), none⟩])
    .ret)))
def r_flash_New : List ARes := [(.tmp 2), (.tmp 3)]
theorem c_flash_New : o2 Go.Proofs.Try.f9.body (comp Go.Proofs.Try.prog Go.Proofs.Try.f9.ntmps) = some a_flash_New := by kernel_rfl
theorem s_flash_New : cRess Go.Proofs.Try.prog Go.Proofs.Try.f9.results.toList = some r_flash_New := by kernel_rfl
theorem m_flash_New (C : Ctx) (hC : CtxOK C Go.Proofs.Try.prog) : Meets C.glob Go.Proofs.Try.prog 9 (afun C 1 r_flash_New a_flash_New) :=
  fn_sound hC Go.Proofs.Try.func9 c_flash_New s_flash_New (Nat.le_of_ble_eq_true (by kernel_rfl))

/-- (*curtilage/flash.Flash).Turn -/
def a_flash_Flash_Turn : ACode :=
 (.seq
  (.region false [⟨(some 6), (.mv (.const (it 0))), none⟩])
  (.seq
   (.seq
    (.region false [⟨(some 8), (.mv (.tmp 0)), none⟩,
     ⟨(some 9), (.mv (.tmp 1)), none⟩,
     ⟨(some 10), (.call 26 [(.tmp 8), (.tmp 9), (.const (it 1))]), none⟩,
     ⟨(some 7), (.mv (.tmp 10)), none⟩])
    (.seq
     (.region false [⟨(some 11), (.mv (.tmp 7)), none⟩,
      ⟨(some 12), (.bin .neq (.tmp 11) (.const (it 0))), none⟩])
     (.cond (.tmp 12)
      (.seq
       (.region false [⟨(some 13), (.mv (.tmp 7)), none⟩,
        ⟨(some 6), (.mv (.tmp 13)), none⟩])
       .ret)
      .skip)))
   (.seq
    (.region false [⟨(some 14), (.mv (.tmp 0)), none⟩,
     ⟨(some 15), (.nilc (.tmp 14)), none⟩,
     ⟨(some 16), (.faddr S2 (.tmp 15) 0), none⟩,
     ⟨(some 17), (.load .ref (.tmp 16)), none⟩,
     ⟨(some 18), (.mv (.tmp 1)), none⟩,
     ⟨(some 19), (.iaddrs L8 (.tmp 17) (.tmp 18)), none⟩,
     ⟨(some 20), (.load L8 (.tmp 19)), none⟩,
     ⟨(some 21), (.mv (.tmp 2)), none⟩,
     ⟨(some 22), (.bin .xor (.tmp 20) (.tmp 21)), none⟩,
     ⟨(some 23), (.iaddrs L8 (.tmp 17) (.tmp 18)), none⟩,
     ⟨none, (.store L8 (.tmp 23) (.tmp 22)), none⟩])
    (.seq
     (.region false [⟨(some 6), (.mv (.const (it 0))), none⟩])
     .ret))))
def r_flash_Flash_Turn : List ARes := [(.tmp 6)]
theorem c_flash_Flash_Turn : o2 Go.Proofs.Try.f10.body (comp Go.Proofs.Try.prog Go.Proofs.Try.f10.ntmps) = some a_flash_Flash_Turn := by kernel_rfl
theorem s_flash_Flash_Turn : cRess Go.Proofs.Try.prog Go.Proofs.Try.f10.results.toList = some r_flash_Flash_Turn := by kernel_rfl
theorem m_flash_Flash_Turn (C : Ctx) (hC : CtxOK C Go.Proofs.Try.prog) : Meets C.glob Go.Proofs.Try.prog 10 (afun C 3 r_flash_Flash_Turn a_flash_Flash_Turn) :=
  fn_sound hC Go.Proofs.Try.func10 c_flash_Flash_Turn s_flash_Flash_Turn (Nat.le_of_ble_eq_true (by kernel_rfl))

/-- (*curtilage/flash.Flash).Blank -/
def a_flash_Flash_Blank : ACode :=
 (.seq
  (.region false [⟨(some 6), (.mv (.const (.bool false))), none⟩])
  (.seq
   (.seq
    (.region false [⟨(some 9), (.mv (.tmp 2)), none⟩,
     ⟨(some 10), (.bin .lss (.tmp 9) (.const (it 0))), none⟩,
     ⟨(some 11), (.mv (.tmp 10)), none⟩,
     ⟨(some 12), (.mv (.tmp 2)), some (11, false)⟩,
     ⟨(some 13), (.bin .gtr (.tmp 12) (.const (it 1024))), some (11, false)⟩,
     ⟨(some 14), (.pick (.tmp 11) (.const (.bool true)) (.tmp 13)), none⟩,
     ⟨(some 15), (.mv (.tmp 14)), none⟩,
     ⟨(some 16), (.mv (.tmp 1)), some (15, false)⟩,
     ⟨(some 17), (.bin .lss (.tmp 16) (.const (it 0))), some (15, false)⟩,
     ⟨(some 18), (.pick (.tmp 15) (.const (.bool true)) (.tmp 17)), none⟩,
     ⟨(some 19), (.mv (.tmp 18)), none⟩,
     ⟨(some 20), (.mv (.tmp 1)), some (19, false)⟩,
     ⟨(some 21), (.bin .gtr (.tmp 20) (.const (it 1024))), some (19, false)⟩,
     ⟨(some 22), (.pick (.tmp 19) (.const (.bool true)) (.tmp 21)), none⟩,
     ⟨(some 23), (.mv (.tmp 22)), none⟩,
     ⟨(some 24), (.mv (.tmp 0)), some (23, false)⟩,
     ⟨(some 25), (.mv (.tmp 1)), some (23, false)⟩,
     ⟨(some 26), (.bin .mul (.const (it 256)) (.tmp 25)), some (23, false)⟩,
     ⟨(some 27), (.mv (.tmp 2)), some (23, false)⟩,
     ⟨(some 28), (.bin .mul (.const (it 256)) (.tmp 27)), some (23, false)⟩,
     ⟨(some 29), (.call 26 [(.tmp 24), (.tmp 26), (.tmp 28)]), some (23, false)⟩,
     ⟨(some 30), (.bin .neq (.tmp 29) (.const (it 0))), some (23, false)⟩,
     ⟨(some 31), (.pick (.tmp 23) (.const (.bool true)) (.tmp 30)), none⟩])
    (.cond (.tmp 31)
     (.seq
      (.region false [⟨(some 6), (.mv (.const (.bool false))), none⟩])
      .ret)
     .skip))
   (.seq
    (.seq
     (.region false [⟨(some 32), (.mv (.tmp 0)), none⟩,
      ⟨(some 33), (.nilc (.tmp 32)), none⟩,
      ⟨(some 34), (.faddr S2 (.tmp 33) 0), none⟩,
      ⟨(some 35), (.load .ref (.tmp 34)), none⟩,
      ⟨(some 36), (.mv (.tmp 1)), none⟩,
      ⟨(some 37), (.bin .mul (.const (it 256)) (.tmp 36)), none⟩,
      ⟨(some 38), (.mv (.tmp 1)), none⟩,
      ⟨(some 39), (.mv (.tmp 2)), none⟩,
      ⟨(some 40), (.bin .add (.tmp 38) (.tmp 39)), none⟩,
      ⟨(some 41), (.bin .mul (.const (it 256)) (.tmp 40)), none⟩,
      ⟨(some 42), (.slice L8 (.tmp 35) (some (.tmp 37)) (some (.tmp 41)) none), none⟩,
      ⟨(some 43), (.len (.tmp 42)), none⟩,
      ⟨(some 44), (.mv (.const (it 0))), none⟩])
     (.block 0
      (.loop
       (.seq
        (.region false [⟨(some 45), (.bin .lss (.tmp 44) (.tmp 43)), none⟩])
        (.seq
         (.cond (.tmp 45)
          .skip
          (.exit 0))
         (.seq
          (.block 1
           (.seq
            (.region false [⟨(some 46), (.iaddrs L8 (.tmp 42) (.tmp 44)), none⟩,
             ⟨(some 47), (.load L8 (.tmp 46)), none⟩,
             ⟨(some 8), (.mv (.tmp 47)), none⟩])
            (.seq
             (.region false [⟨(some 48), (.mv (.tmp 8)), none⟩,
              ⟨(some 49), (.bin .neq (.tmp 48) (.const (u8 255#8))), none⟩])
             (.cond (.tmp 49)
              (.seq
               (.region false [⟨(some 6), (.mv (.const (.bool false))), none⟩])
               .ret)
              .skip))))
          (.region false [⟨(some 50), (.bin .add (.tmp 44) (.const (it 1))), none⟩,
           ⟨(some 44), (.mv (.tmp 50)), none⟩])))))))
    (.seq
     (.region false [⟨(some 6), (.mv (.const (.bool true))), none⟩])
     .ret))))
def r_flash_Flash_Blank : List ARes := [(.tmp 6)]
theorem c_flash_Flash_Blank : o2 Go.Proofs.Try.f11.body (comp Go.Proofs.Try.prog Go.Proofs.Try.f11.ntmps) = some a_flash_Flash_Blank := by kernel_rfl
theorem s_flash_Flash_Blank : cRess Go.Proofs.Try.prog Go.Proofs.Try.f11.results.toList = some r_flash_Flash_Blank := by kernel_rfl
theorem m_flash_Flash_Blank (C : Ctx) (hC : CtxOK C Go.Proofs.Try.prog) : Meets C.glob Go.Proofs.Try.prog 11 (afun C 3 r_flash_Flash_Blank a_flash_Flash_Blank) :=
  fn_sound hC Go.Proofs.Try.func11 c_flash_Flash_Blank s_flash_Flash_Blank (Nat.le_of_ble_eq_true (by kernel_rfl))

/-- (*curtilage/flash.Flash).Copy -/
def a_flash_Flash_Copy : ACode :=
 (.seq
  (.region false [⟨(some 2), (.mv (.const (.pointer none))), none⟩])
  (.seq
   (.seq
    (.region false [⟨(some 3), (.mv (.tmp 0)), none⟩,
     ⟨(some 4), (.eqnil false (.tmp 3) (.const (.pointer none))), none⟩])
    (.cond (.tmp 4)
     (.seq
      (.region false [⟨(some 2), (.mv (.const (.pointer none))), none⟩])
      .ret)
     .skip))
   (.seq
    (.region false [⟨(some 5), (.mv (.tmp 0)), none⟩,
     ⟨(some 6), (.nilc (.tmp 5)), none⟩,
     ⟨(some 7), (.faddr S2 (.tmp 6) 0), none⟩,
     ⟨(some 8), (.load .ref (.tmp 7)), none⟩,
     ⟨(some 9), (.call 27 [(.tmp 8)]), none⟩,
     ⟨(some 10), (.build S2 [(.raw (.slice none 0 0))] [(0, (.tmp 9))]), none⟩,
     ⟨(some 11), (.box S2 (.tmp 10)), none⟩,
     ⟨(some 2), (.mv (.tmp 11)), none⟩])
    .ret)))
def r_flash_Flash_Copy : List ARes := [(.tmp 2)]
theorem c_flash_Flash_Copy : o2 Go.Proofs.Try.f12.body (comp Go.Proofs.Try.prog Go.Proofs.Try.f12.ntmps) = some a_flash_Flash_Copy := by kernel_rfl
theorem s_flash_Flash_Copy : cRess Go.Proofs.Try.prog Go.Proofs.Try.f12.results.toList = some r_flash_Flash_Copy := by kernel_rfl
theorem m_flash_Flash_Copy (C : Ctx) (hC : CtxOK C Go.Proofs.Try.prog) : Meets C.glob Go.Proofs.Try.prog 12 (afun C 1 r_flash_Flash_Copy a_flash_Flash_Copy) :=
  fn_sound hC Go.Proofs.Try.func12 c_flash_Flash_Copy s_flash_Flash_Copy (Nat.le_of_ble_eq_true (by kernel_rfl))

/-- (*curtilage/flash.Flash).Erase -/
def a_flash_Flash_Erase : ACode :=
 (.seq
  (.region false [⟨(some 4), (.mv (.const (it 0))), none⟩])
  (.seq
   (.seq
    (.region false [⟨(some 6), (.mv (.tmp 0)), none⟩,
     ⟨(some 7), (.mv (.tmp 1)), none⟩,
     ⟨(some 8), (.call 28 [(.tmp 6), (.tmp 7)]), none⟩,
     ⟨(some 5), (.mv (.tmp 8)), none⟩])
    (.seq
     (.region false [⟨(some 9), (.mv (.tmp 5)), none⟩,
      ⟨(some 10), (.bin .neq (.tmp 9) (.const (it 0))), none⟩])
     (.cond (.tmp 10)
      (.seq
       (.region false [⟨(some 11), (.mv (.tmp 5)), none⟩,
        ⟨(some 4), (.mv (.tmp 11)), none⟩])
       .ret)
      .skip)))
   (.seq
    (.region true [⟨(some 12), (.mv (.tmp 0)), none⟩,
     ⟨(some 13), (.nilc (.tmp 12)), none⟩,
     ⟨(some 14), (.faddr S2 (.tmp 13) 0), none⟩,
     ⟨(some 15), (.load .ref (.tmp 14)), none⟩,
     ⟨(some 16), (.mv (.tmp 1)), none⟩,
     ⟨(some 17), (.bin .mul (.const (it 256)) (.tmp 16)), none⟩,
     ⟨(some 18), (.slice L8 (.tmp 15) (some (.tmp 17)) none none), none⟩,
     ⟨(some 19), (.bslice L8 1 (.raw (u8 0#8)) [(0, (.const (u8 255#8)))]), none⟩,
     ⟨(some 20), (.call 25 [(.tmp 19), (.const (it 256))]), none⟩,
     ⟨(some 21), (.copy L8 (.tmp 18) (.tmp 20)), none⟩])
    (.seq
     (.region false [⟨(some 4), (.mv (.const (it 0))), none⟩])
     .ret))))
def r_flash_Flash_Erase : List ARes := [(.tmp 4)]
theorem c_flash_Flash_Erase : o2 Go.Proofs.Try.f13.body (comp Go.Proofs.Try.prog Go.Proofs.Try.f13.ntmps) = some a_flash_Flash_Erase := by kernel_rfl
theorem s_flash_Flash_Erase : cRess Go.Proofs.Try.prog Go.Proofs.Try.f13.results.toList = some r_flash_Flash_Erase := by kernel_rfl
theorem m_flash_Flash_Erase (C : Ctx) (hC : CtxOK C Go.Proofs.Try.prog) : Meets C.glob Go.Proofs.Try.prog 13 (afun C 2 r_flash_Flash_Erase a_flash_Flash_Erase) :=
  fn_sound hC Go.Proofs.Try.func13 c_flash_Flash_Erase s_flash_Flash_Erase (Nat.le_of_ble_eq_true (by kernel_rfl))

/-- (*curtilage/flash.Flash).Write -/
def a_flash_Flash_Write : ACode :=
 (.seq
  (.region false [⟨(some 6), (.mv (.const (it 0))), none⟩])
  (.seq
   (.seq
    (.region false [⟨(some 8), (.mv (.tmp 0)), none⟩,
     ⟨(some 9), (.mv (.tmp 1)), none⟩,
     ⟨(some 10), (.mv (.tmp 2)), none⟩,
     ⟨(some 11), (.len (.tmp 10)), none⟩,
     ⟨(some 12), (.call 26 [(.tmp 8), (.tmp 9), (.tmp 11)]), none⟩,
     ⟨(some 7), (.mv (.tmp 12)), none⟩])
    (.seq
     (.region false [⟨(some 13), (.mv (.tmp 7)), none⟩,
      ⟨(some 14), (.bin .neq (.tmp 13) (.const (it 0))), none⟩])
     (.cond (.tmp 14)
      (.seq
       (.region false [⟨(some 15), (.mv (.tmp 7)), none⟩,
        ⟨(some 6), (.mv (.tmp 15)), none⟩])
       .ret)
      .skip)))
   (.seq
    (.seq
     (.region false [⟨(some 16), (.mv (.tmp 0)), none⟩,
      ⟨(some 17), (.nilc (.tmp 16)), none⟩,
      ⟨(some 18), (.faddr S2 (.tmp 17) 0), none⟩,
      ⟨(some 19), (.load .ref (.tmp 18)), none⟩,
      ⟨(some 20), (.mv (.tmp 1)), none⟩,
      ⟨(some 21), (.slice L8 (.tmp 19) (some (.tmp 20)) none none), none⟩,
      ⟨(some 22), (.mv (.tmp 2)), none⟩,
      ⟨(some 23), (.call 29 [(.tmp 21), (.tmp 22)]), none⟩,
      ⟨(some 24), (.un .not (.tmp 23)), none⟩])
     (.cond (.tmp 24)
      (.seq
       (.region false [⟨(some 6), (.mv (.const (it 14))), none⟩])
       .ret)
      .skip))
    (.seq
     (.region false [⟨(some 25), (.mv (.tmp 0)), none⟩,
      ⟨(some 26), (.nilc (.tmp 25)), none⟩,
      ⟨(some 27), (.faddr S2 (.tmp 26) 0), none⟩,
      ⟨(some 28), (.load .ref (.tmp 27)), none⟩,
      ⟨(some 29), (.mv (.tmp 1)), none⟩,
      ⟨(some 30), (.slice L8 (.tmp 28) (some (.tmp 29)) none none), none⟩,
      ⟨(some 31), (.mv (.tmp 2)), none⟩,
      ⟨(some 32), (.copy L8 (.tmp 30) (.tmp 31)), none⟩])
     (.seq
      (.region false [⟨(some 6), (.mv (.const (it 0))), none⟩])
      .ret)))))
def r_flash_Flash_Write : List ARes := [(.tmp 6)]
theorem c_flash_Flash_Write : o2 Go.Proofs.Try.f14.body (comp Go.Proofs.Try.prog Go.Proofs.Try.f14.ntmps) = some a_flash_Flash_Write := by kernel_rfl
theorem s_flash_Flash_Write : cRess Go.Proofs.Try.prog Go.Proofs.Try.f14.results.toList = some r_flash_Flash_Write := by kernel_rfl
theorem m_flash_Flash_Write (C : Ctx) (hC : CtxOK C Go.Proofs.Try.prog) : Meets C.glob Go.Proofs.Try.prog 14 (afun C 3 r_flash_Flash_Write a_flash_Flash_Write) :=
  fn_sound hC Go.Proofs.Try.func14 c_flash_Flash_Write s_flash_Flash_Write (Nat.le_of_ble_eq_true (by kernel_rfl))

/-- (*curtilage/flash.Flash).Read -/
def a_flash_Flash_Read : ACode :=
 (.seq
  (.region false [⟨(some 6), (.mv (.const (.slice none 0 0))), none⟩,
   ⟨(some 7), (.mv (.const (it 0))), none⟩])
  (.seq
   (.seq
    (.region false [⟨(some 9), (.mv (.tmp 0)), none⟩,
     ⟨(some 10), (.mv (.tmp 1)), none⟩,
     ⟨(some 11), (.mv (.tmp 2)), none⟩,
     ⟨(some 12), (.call 26 [(.tmp 9), (.tmp 10), (.tmp 11)]), none⟩,
     ⟨(some 8), (.mv (.tmp 12)), none⟩])
    (.seq
     (.region false [⟨(some 13), (.mv (.tmp 8)), none⟩,
      ⟨(some 14), (.bin .neq (.tmp 13) (.const (it 0))), none⟩])
     (.cond (.tmp 14)
      (.seq
       (.region false [⟨(some 15), (.mv (.tmp 8)), none⟩,
        ⟨(some 6), (.mv (.const (.slice none 0 0))), none⟩,
        ⟨(some 7), (.mv (.tmp 15)), none⟩])
       .ret)
      .skip)))
   (.seq
    (.region false [⟨(some 16), (.mv (.tmp 0)), none⟩,
     ⟨(some 17), (.nilc (.tmp 16)), none⟩,
     ⟨(some 18), (.faddr S2 (.tmp 17) 0), none⟩,
     ⟨(some 19), (.load .ref (.tmp 18)), none⟩,
     ⟨(some 20), (.mv (.tmp 1)), none⟩,
     ⟨(some 21), (.mv (.tmp 1)), none⟩,
     ⟨(some 22), (.mv (.tmp 2)), none⟩,
     ⟨(some 23), (.bin .add (.tmp 21) (.tmp 22)), none⟩,
     ⟨(some 24), (.slice L8 (.tmp 19) (some (.tmp 20)) (some (.tmp 23)) none), none⟩,
     ⟨(some 25), (.call 27 [(.tmp 24)]), none⟩,
     ⟨(some 6), (.mv (.tmp 25)), none⟩,
     ⟨(some 7), (.mv (.const (it 0))), none⟩])
    .ret)))
def r_flash_Flash_Read : List ARes := [(.tmp 6), (.tmp 7)]
theorem c_flash_Flash_Read : o2 Go.Proofs.Try.f15.body (comp Go.Proofs.Try.prog Go.Proofs.Try.f15.ntmps) = some a_flash_Flash_Read := by kernel_rfl
theorem s_flash_Flash_Read : cRess Go.Proofs.Try.prog Go.Proofs.Try.f15.results.toList = some r_flash_Flash_Read := by kernel_rfl
theorem m_flash_Flash_Read (C : Ctx) (hC : CtxOK C Go.Proofs.Try.prog) : Meets C.glob Go.Proofs.Try.prog 15 (afun C 3 r_flash_Flash_Read a_flash_Flash_Read) :=
  fn_sound hC Go.Proofs.Try.func15 c_flash_Flash_Read s_flash_Flash_Read (Nat.le_of_ble_eq_true (by kernel_rfl))

/-- (*curtilage/flash.Flash).Size -/
def a_flash_Flash_Size : ACode :=
 (.seq
  (.region false [⟨(some 2), (.mv (.const (it 0))), none⟩])
  (.seq
   (.seq
    (.region false [⟨(some 3), (.mv (.tmp 0)), none⟩,
     ⟨(some 4), (.eqnil false (.tmp 3) (.const (.pointer none))), none⟩])
    (.cond (.tmp 4)
     (.seq
      (.region false [⟨(some 2), (.mv (.const (it 0))), none⟩])
      .ret)
     .skip))
   (.seq
    (.region false [⟨(some 5), (.mv (.tmp 0)), none⟩,
     ⟨(some 6), (.nilc (.tmp 5)), none⟩,
     ⟨(some 7), (.faddr S2 (.tmp 6) 0), none⟩,
     ⟨(some 8), (.load .ref (.tmp 7)), none⟩,
     ⟨(some 9), (.len (.tmp 8)), none⟩,
     ⟨(some 2), (.mv (.tmp 9)), none⟩])
    .ret)))
def r_flash_Flash_Size : List ARes := [(.tmp 2)]
theorem c_flash_Flash_Size : o2 Go.Proofs.Try.f16.body (comp Go.Proofs.Try.prog Go.Proofs.Try.f16.ntmps) = some a_flash_Flash_Size := by kernel_rfl
theorem s_flash_Flash_Size : cRess Go.Proofs.Try.prog Go.Proofs.Try.f16.results.toList = some r_flash_Flash_Size := by kernel_rfl
theorem m_flash_Flash_Size (C : Ctx) (hC : CtxOK C Go.Proofs.Try.prog) : Meets C.glob Go.Proofs.Try.prog 16 (afun C 1 r_flash_Flash_Size a_flash_Flash_Size) :=
  fn_sound hC Go.Proofs.Try.func16 c_flash_Flash_Size s_flash_Flash_Size (Nat.le_of_ble_eq_true (by kernel_rfl))

/-- curtilage/curtilageref01.Cut -/
def a_ref01_Cut : ACode :=
 (.seq
  (.region false [⟨(some 4), (.mv (.const (.slice none 0 0))), none⟩])
  (.seq
   (.region false [⟨(some 5), (.mv (.const (.slice none 0 0))), none⟩])
   (.seq
    (.seq
     (.region false [⟨(some 8), (.mv (.tmp 0)), none⟩,
      ⟨(some 9), (.len (.tmp 8)), none⟩,
      ⟨(some 10), (.mv (.const (it 0))), none⟩])
     (.block 0
      (.loop
       (.seq
        (.region false [⟨(some 11), (.bin .lss (.tmp 10) (.tmp 9)), none⟩])
        (.seq
         (.cond (.tmp 11)
          .skip
          (.exit 0))
         (.seq
          (.block 1
           (.seq
            (.region false [⟨(some 12), (.mv (.tmp 10)), none⟩,
             ⟨(some 13), (.iaddrs L8 (.tmp 8) (.tmp 10)), none⟩,
             ⟨(some 14), (.load L8 (.tmp 13)), none⟩,
             ⟨(some 6), (.mv (.tmp 12)), none⟩,
             ⟨(some 7), (.mv (.tmp 14)), none⟩])
            (.seq
             (.region false [⟨(some 15), (.mv (.tmp 6)), none⟩,
              ⟨(some 16), (.mv (.tmp 1)), none⟩,
              ⟨(some 17), (.bin .lss (.tmp 15) (.tmp 16)), none⟩])
             (.cond (.tmp 17)
              (.region false [⟨(some 18), (.mv (.tmp 5)), none⟩,
               ⟨(some 19), (.mv (.tmp 7)), none⟩,
               ⟨(some 20), (.bslice L8 1 (.raw (u8 0#8)) [(0, (.tmp 19))]), none⟩,
               ⟨(some 21), (.append L8 1 (.tmp 18) (.tmp 20)), none⟩,
               ⟨(some 5), (.mv (.tmp 21)), none⟩])
              .skip))))
          (.region false [⟨(some 22), (.bin .add (.tmp 10) (.const (it 1))), none⟩,
           ⟨(some 10), (.mv (.tmp 22)), none⟩])))))))
    (.seq
     (.region false [⟨(some 23), (.mv (.tmp 5)), none⟩,
      ⟨(some 4), (.mv (.tmp 23)), none⟩])
     .ret))))
def r_ref01_Cut : List ARes := [(.tmp 4)]
theorem c_ref01_Cut : o2 Go.Proofs.Try.f17.body (comp Go.Proofs.Try.prog Go.Proofs.Try.f17.ntmps) = some a_ref01_Cut := by kernel_rfl
theorem s_ref01_Cut : cRess Go.Proofs.Try.prog Go.Proofs.Try.f17.results.toList = some r_ref01_Cut := by kernel_rfl
theorem m_ref01_Cut (C : Ctx) (hC : CtxOK C Go.Proofs.Try.prog) : Meets C.glob Go.Proofs.Try.prog 17 (afun C 2 r_ref01_Cut a_ref01_Cut) :=
  fn_sound hC Go.Proofs.Try.func17 c_ref01_Cut s_ref01_Cut (Nat.le_of_ble_eq_true (by kernel_rfl))

/-- curtilage/curtilageref01.Same -/
def a_ref01_Same : ACode :=
 (.seq
  (.region false [⟨(some 4), (.mv (.const (.bool false))), none⟩])
  (.seq
   (.seq
    (.region false [⟨(some 6), (.mv (.tmp 0)), none⟩,
     ⟨(some 7), (.len (.tmp 6)), none⟩,
     ⟨(some 8), (.mv (.tmp 1)), none⟩,
     ⟨(some 9), (.len (.tmp 8)), none⟩,
     ⟨(some 10), (.bin .neq (.tmp 7) (.tmp 9)), none⟩])
    (.cond (.tmp 10)
     (.seq
      (.region false [⟨(some 4), (.mv (.const (.bool false))), none⟩])
      .ret)
     .skip))
   (.seq
    (.seq
     (.region false [⟨(some 11), (.mv (.tmp 0)), none⟩,
      ⟨(some 12), (.len (.tmp 11)), none⟩,
      ⟨(some 13), (.mv (.const (it 0))), none⟩])
     (.block 0
      (.loop
       (.seq
        (.region false [⟨(some 14), (.bin .lss (.tmp 13) (.tmp 12)), none⟩])
        (.seq
         (.cond (.tmp 14)
          .skip
          (.exit 0))
         (.seq
          (.block 1
           (.seq
            (.region false [⟨(some 15), (.mv (.tmp 13)), none⟩,
             ⟨(some 5), (.mv (.tmp 15)), none⟩])
            (.seq
             (.region true [⟨(some 16), (.mv (.tmp 0)), none⟩,
              ⟨(some 17), (.mv (.tmp 5)), none⟩,
              ⟨(some 18), (.iaddrs L8 (.tmp 16) (.tmp 17)), none⟩,
              ⟨(some 19), (.load L8 (.tmp 18)), none⟩,
              ⟨(some 20), (.mv (.tmp 1)), none⟩,
              ⟨(some 21), (.mv (.tmp 5)), none⟩,
              ⟨(some 22), (.iaddrs L8 (.tmp 20) (.tmp 21)), none⟩,
              ⟨(some 23), (.load L8 (.tmp 22)), none⟩,
              ⟨(some 24), (.bin .neq (.tmp 19) (.tmp 23)), none⟩])
             (.cond (.tmp 24)
              (.seq
               (.region false [⟨(some 4), (.mv (.const (.bool false))), none⟩])
               .ret)
              .skip))))
          (.region false [⟨(some 25), (.bin .add (.tmp 13) (.const (it 1))), none⟩,
           ⟨(some 13), (.mv (.tmp 25)), none⟩])))))))
    (.seq
     (.region false [⟨(some 4), (.mv (.const (.bool true))), none⟩])
     .ret))))
def r_ref01_Same : List ARes := [(.tmp 4)]
theorem c_ref01_Same : o2 Go.Proofs.Try.f18.body (comp Go.Proofs.Try.prog Go.Proofs.Try.f18.ntmps) = some a_ref01_Same := by kernel_rfl
theorem s_ref01_Same : cRess Go.Proofs.Try.prog Go.Proofs.Try.f18.results.toList = some r_ref01_Same := by kernel_rfl
theorem m_ref01_Same (C : Ctx) (hC : CtxOK C Go.Proofs.Try.prog) : Meets C.glob Go.Proofs.Try.prog 18 (afun C 2 r_ref01_Same a_ref01_Same) :=
  fn_sound hC Go.Proofs.Try.func18 c_ref01_Same s_ref01_Same (Nat.le_of_ble_eq_true (by kernel_rfl))

/-- (*curtilage/flash.Flash).After -/
def a_flash_Flash_After : ACode :=
 (.seq
  (.region false [⟨(some 8), (.mv (.const (.slice none 0 0))), none⟩,
   ⟨(some 9), (.mv (.const (it 0))), none⟩])
  (.seq
   (.seq
    (.region false [⟨(some 12), (.mv (.tmp 0)), none⟩,
     ⟨(some 13), (.mv (.tmp 1)), none⟩,
     ⟨(some 14), (.call 28 [(.tmp 12), (.tmp 13)]), none⟩,
     ⟨(some 10), (.mv (.tmp 14)), none⟩])
    (.seq
     (.region false [⟨(some 15), (.mv (.tmp 10)), none⟩,
      ⟨(some 16), (.bin .neq (.tmp 15) (.const (it 0))), none⟩])
     (.cond (.tmp 16)
      (.seq
       (.region false [⟨(some 17), (.mv (.tmp 10)), none⟩,
        ⟨(some 8), (.mv (.const (.slice none 0 0))), none⟩,
        ⟨(some 9), (.mv (.tmp 17)), none⟩])
       .ret)
      .skip)))
   (.seq
    (.seq
     (.region false [⟨(some 18), (.mv (.tmp 3)), none⟩,
      ⟨(some 19), (.len (.tmp 18)), none⟩,
      ⟨(some 20), (.bin .eql (.tmp 19) (.const (it 0))), none⟩])
     (.cond (.tmp 20)
      (.seq
       (.region false [⟨(some 21), (.bslice L8 1 (.raw (u8 0#8)) [(0, (.const (u8 255#8)))]), none⟩,
        ⟨(some 22), (.call 25 [(.tmp 21), (.const (it 256))]), none⟩,
        ⟨(some 8), (.mv (.tmp 22)), none⟩,
        ⟨(some 9), (.mv (.const (it 0))), none⟩])
       .ret)
      .skip))
    (.seq
     (.seq
      (.region false [⟨(some 23), (.mv (.tmp 2)), none⟩,
       ⟨(some 24), (.bin .lss (.tmp 23) (.const (it 0))), none⟩,
       ⟨(some 25), (.mv (.tmp 24)), none⟩,
       ⟨(some 26), (.mv (.tmp 2)), some (25, false)⟩,
       ⟨(some 27), (.bin .gtr (.tmp 26) (.const (it 256))), some (25, false)⟩,
       ⟨(some 28), (.pick (.tmp 25) (.const (.bool true)) (.tmp 27)), none⟩,
       ⟨(some 29), (.mv (.tmp 28)), none⟩,
       ⟨(some 30), (.mv (.tmp 3)), some (29, false)⟩,
       ⟨(some 31), (.len (.tmp 30)), some (29, false)⟩,
       ⟨(some 32), (.mv (.tmp 2)), some (29, false)⟩,
       ⟨(some 33), (.bin .sub (.const (it 256)) (.tmp 32)), some (29, false)⟩,
       ⟨(some 34), (.bin .gtr (.tmp 31) (.tmp 33)), some (29, false)⟩,
       ⟨(some 35), (.pick (.tmp 29) (.const (.bool true)) (.tmp 34)), none⟩])
      (.cond (.tmp 35)
       (.seq
        (.region false [⟨(some 8), (.mv (.const (.slice none 0 0))), none⟩,
         ⟨(some 9), (.mv (.const (it 9))), none⟩])
        .ret)
       .skip))
     (.seq
      (.region false [⟨(some 36), (.mv (.tmp 0)), none⟩,
       ⟨(some 37), (.nilc (.tmp 36)), none⟩,
       ⟨(some 38), (.faddr S2 (.tmp 37) 0), none⟩,
       ⟨(some 39), (.load .ref (.tmp 38)), none⟩,
       ⟨(some 40), (.mv (.tmp 1)), none⟩,
       ⟨(some 41), (.bin .mul (.const (it 256)) (.tmp 40)), none⟩,
       ⟨(some 42), (.mv (.tmp 1)), none⟩,
       ⟨(some 43), (.bin .add (.tmp 42) (.const (it 1))), none⟩,
       ⟨(some 44), (.bin .mul (.const (it 256)) (.tmp 43)), none⟩,
       ⟨(some 45), (.slice L8 (.tmp 39) (some (.tmp 41)) (some (.tmp 44)) none), none⟩,
       ⟨(some 46), (.call 27 [(.tmp 45)]), none⟩,
       ⟨(some 11), (.mv (.tmp 46)), none⟩])
      (.seq
       (.seq
        (.region false [⟨(some 47), (.mv (.tmp 11)), none⟩,
         ⟨(some 48), (.mv (.tmp 2)), none⟩,
         ⟨(some 49), (.slice L8 (.tmp 47) (some (.tmp 48)) none none), none⟩,
         ⟨(some 50), (.mv (.tmp 3)), none⟩,
         ⟨(some 51), (.call 29 [(.tmp 49), (.tmp 50)]), none⟩,
         ⟨(some 52), (.un .not (.tmp 51)), none⟩])
        (.cond (.tmp 52)
         (.seq
          (.region false [⟨(some 8), (.mv (.const (.slice none 0 0))), none⟩,
           ⟨(some 9), (.mv (.const (it 14))), none⟩])
          .ret)
         .skip))
       (.seq
        (.region false [⟨(some 53), (.mv (.tmp 11)), none⟩,
         ⟨(some 54), (.mv (.tmp 2)), none⟩,
         ⟨(some 55), (.slice L8 (.tmp 53) (some (.tmp 54)) none none), none⟩,
         ⟨(some 56), (.mv (.tmp 3)), none⟩,
         ⟨(some 57), (.copy L8 (.tmp 55) (.tmp 56)), none⟩])
        (.seq
         (.region false [⟨(some 58), (.mv (.tmp 11)), none⟩,
          ⟨(some 8), (.mv (.tmp 58)), none⟩,
          ⟨(some 9), (.mv (.const (it 0))), none⟩])
         .ret))))))))
def r_flash_Flash_After : List ARes := [(.tmp 8), (.tmp 9)]
theorem c_flash_Flash_After : o2 Go.Proofs.Try.f19.body (comp Go.Proofs.Try.prog Go.Proofs.Try.f19.ntmps) = some a_flash_Flash_After := by kernel_rfl
theorem s_flash_Flash_After : cRess Go.Proofs.Try.prog Go.Proofs.Try.f19.results.toList = some r_flash_Flash_After := by kernel_rfl
theorem m_flash_Flash_After (C : Ctx) (hC : CtxOK C Go.Proofs.Try.prog) : Meets C.glob Go.Proofs.Try.prog 19 (afun C 4 r_flash_Flash_After a_flash_Flash_After) :=
  fn_sound hC Go.Proofs.Try.func19 c_flash_Flash_After s_flash_Flash_After (Nat.le_of_ble_eq_true (by kernel_rfl))

/-- (*curtilage/flash.Flash).Tear -/
def a_flash_Flash_Tear : ACode :=
 (.seq
  (.region false [⟨(some 8), (.mv (.const (it 0))), none⟩])
  (.seq
   (.seq
    (.region false [⟨(some 12), (.mv (.tmp 0)), none⟩,
     ⟨(some 13), (.mv (.tmp 1)), none⟩,
     ⟨(some 14), (.call 28 [(.tmp 12), (.tmp 13)]), none⟩,
     ⟨(some 9), (.mv (.tmp 14)), none⟩])
    (.seq
     (.region false [⟨(some 15), (.mv (.tmp 9)), none⟩,
      ⟨(some 16), (.bin .neq (.tmp 15) (.const (it 0))), none⟩])
     (.cond (.tmp 16)
      (.seq
       (.region false [⟨(some 17), (.mv (.tmp 9)), none⟩,
        ⟨(some 8), (.mv (.tmp 17)), none⟩])
       .ret)
      .skip)))
   (.seq
    (.seq
     (.region false [⟨(some 18), (.mv (.tmp 2)), none⟩,
      ⟨(some 19), (.len (.tmp 18)), none⟩,
      ⟨(some 20), (.mv (.tmp 3)), none⟩,
      ⟨(some 21), (.len (.tmp 20)), none⟩,
      ⟨(some 22), (.minmax false [(.tmp 19), (.tmp 21), (.const (it 256))]), none⟩,
      ⟨(some 23), (.mv (.const (it 0))), none⟩])
     (.block 0
      (.loop
       (.seq
        (.region false [⟨(some 24), (.bin .lss (.tmp 23) (.tmp 22)), none⟩])
        (.seq
         (.cond (.tmp 24)
          .skip
          (.exit 0))
         (.seq
          (.block 1
           (.seq
            (.region false [⟨(some 25), (.mv (.tmp 23)), none⟩,
             ⟨(some 10), (.mv (.tmp 25)), none⟩])
            (.seq
             (.region false [⟨(some 26), (.mv (.tmp 0)), none⟩,
              ⟨(some 27), (.nilc (.tmp 26)), none⟩,
              ⟨(some 28), (.faddr S2 (.tmp 27) 0), none⟩,
              ⟨(some 29), (.load .ref (.tmp 28)), none⟩,
              ⟨(some 30), (.mv (.tmp 1)), none⟩,
              ⟨(some 31), (.bin .mul (.const (it 256)) (.tmp 30)), none⟩,
              ⟨(some 32), (.mv (.tmp 10)), none⟩,
              ⟨(some 33), (.bin .add (.tmp 31) (.tmp 32)), none⟩,
              ⟨(some 34), (.iaddrs L8 (.tmp 29) (.tmp 33)), none⟩,
              ⟨(some 11), (.mv (.tmp 34)), none⟩])
             (.region true [⟨(some 35), (.mv (.tmp 11)), none⟩,
              ⟨(some 36), (.mv (.tmp 11)), none⟩,
              ⟨(some 37), (.nilc (.tmp 36)), none⟩,
              ⟨(some 38), (.load L8 (.tmp 37)), none⟩,
              ⟨(some 39), (.mv (.tmp 3)), none⟩,
              ⟨(some 40), (.mv (.tmp 10)), none⟩,
              ⟨(some 41), (.iaddrs L8 (.tmp 39) (.tmp 40)), none⟩,
              ⟨(some 42), (.load L8 (.tmp 41)), none⟩,
              ⟨(some 43), (.bin .andNot (.tmp 38) (.tmp 42)), none⟩,
              ⟨(some 44), (.mv (.tmp 2)), none⟩,
              ⟨(some 45), (.mv (.tmp 10)), none⟩,
              ⟨(some 46), (.iaddrs L8 (.tmp 44) (.tmp 45)), none⟩,
              ⟨(some 47), (.load L8 (.tmp 46)), none⟩,
              ⟨(some 48), (.mv (.tmp 3)), none⟩,
              ⟨(some 49), (.mv (.tmp 10)), none⟩,
              ⟨(some 50), (.iaddrs L8 (.tmp 48) (.tmp 49)), none⟩,
              ⟨(some 51), (.load L8 (.tmp 50)), none⟩,
              ⟨(some 52), (.bin .and (.tmp 47) (.tmp 51)), none⟩,
              ⟨(some 53), (.bin .or (.tmp 43) (.tmp 52)), none⟩,
              ⟨(some 54), (.nilc (.tmp 35)), none⟩,
              ⟨none, (.store L8 (.tmp 54) (.tmp 53)), none⟩]))))
          (.region false [⟨(some 55), (.bin .add (.tmp 23) (.const (it 1))), none⟩,
           ⟨(some 23), (.mv (.tmp 55)), none⟩])))))))
    (.seq
     (.region false [⟨(some 8), (.mv (.const (it 0))), none⟩])
     .ret))))
def r_flash_Flash_Tear : List ARes := [(.tmp 8)]
theorem c_flash_Flash_Tear : o2 Go.Proofs.Try.f20.body (comp Go.Proofs.Try.prog Go.Proofs.Try.f20.ntmps) = some a_flash_Flash_Tear := by kernel_rfl
theorem s_flash_Flash_Tear : cRess Go.Proofs.Try.prog Go.Proofs.Try.f20.results.toList = some r_flash_Flash_Tear := by kernel_rfl
theorem m_flash_Flash_Tear (C : Ctx) (hC : CtxOK C Go.Proofs.Try.prog) : Meets C.glob Go.Proofs.Try.prog 20 (afun C 4 r_flash_Flash_Tear a_flash_Flash_Tear) :=
  fn_sound hC Go.Proofs.Try.func20 c_flash_Flash_Tear s_flash_Flash_Tear (Nat.le_of_ble_eq_true (by kernel_rfl))

/-- curtilage/curtilageref12.New -/
def a_ref12_New : ACode :=
 (.seq
  (.region false [⟨(some 2), (.mv (.const (.slice none 0 0))), none⟩])
  (.seq
   (.region false [⟨(some 5), (.mv (.tmp 0)), none⟩,
    ⟨(some 6), (.bin .mul (.const (it 256)) (.tmp 5)), none⟩,
    ⟨(some 7), (.mks L8 1 (.raw (u8 0#8)) (.tmp 6) (.tmp 6)), none⟩,
    ⟨(some 3), (.mv (.tmp 7)), none⟩])
   (.seq
    (.seq
     (.region false [⟨(some 8), (.mv (.tmp 3)), none⟩,
      ⟨(some 9), (.len (.tmp 8)), none⟩,
      ⟨(some 10), (.mv (.const (it 0))), none⟩])
     (.block 0
      (.loop
       (.seq
        (.region false [⟨(some 11), (.bin .lss (.tmp 10) (.tmp 9)), none⟩])
        (.seq
         (.cond (.tmp 11)
          .skip
          (.exit 0))
         (.seq
          (.block 1
           (.seq
            (.region false [⟨(some 12), (.mv (.tmp 10)), none⟩,
             ⟨(some 4), (.mv (.tmp 12)), none⟩])
            (.region false [⟨(some 13), (.mv (.tmp 3)), none⟩,
             ⟨(some 14), (.mv (.tmp 4)), none⟩,
             ⟨(some 15), (.iaddrs L8 (.tmp 13) (.tmp 14)), none⟩,
             ⟨none, (.store L8 (.tmp 15) (.const (u8 255#8))), none⟩])))
          (.region false [⟨(some 16), (.bin .add (.tmp 10) (.const (it 1))), none⟩,
           ⟨(some 10), (.mv (.tmp 16)), none⟩])))))))
    (.seq
     (.region false [⟨(some 17), (.mv (.tmp 3)), none⟩,
      ⟨(some 2), (.mv (.tmp 17)), none⟩])
     .ret))))
def r_ref12_New : List ARes := [(.tmp 2)]
theorem c_ref12_New : o2 Go.Proofs.Try.f21.body (comp Go.Proofs.Try.prog Go.Proofs.Try.f21.ntmps) = some a_ref12_New := by kernel_rfl
theorem s_ref12_New : cRess Go.Proofs.Try.prog Go.Proofs.Try.f21.results.toList = some r_ref12_New := by kernel_rfl
theorem m_ref12_New (C : Ctx) (hC : CtxOK C Go.Proofs.Try.prog) : Meets C.glob Go.Proofs.Try.prog 21 (afun C 1 r_ref12_New a_ref12_New) :=
  fn_sound hC Go.Proofs.Try.func21 c_ref12_New s_ref12_New (Nat.le_of_ble_eq_true (by kernel_rfl))

/-- (*curtilage/flash.Flash).Pages -/
def a_flash_Flash_Pages : ACode :=
 (.seq
  (.region false [⟨(some 4), (.mv (.const (.slice none 0 0))), none⟩])
  (.seq
   (.region false [⟨(some 5), (.mv (.const (.slice none 0 0))), none⟩])
   (.seq
    (.seq
     (.region false [⟨(some 8), (.mv (.tmp 1)), none⟩,
      ⟨(some 9), (.len (.tmp 8)), none⟩,
      ⟨(some 10), (.mv (.const (it 0))), none⟩])
     (.block 0
      (.loop
       (.seq
        (.region false [⟨(some 11), (.bin .lss (.tmp 10) (.tmp 9)), none⟩])
        (.seq
         (.cond (.tmp 11)
          .skip
          (.exit 0))
         (.seq
          (.block 1
           (.seq
            (.region false [⟨(some 12), (.iaddrs LI (.tmp 8) (.tmp 10)), none⟩,
             ⟨(some 13), (.load LI (.tmp 12)), none⟩,
             ⟨(some 7), (.mv (.tmp 13)), none⟩])
            (.seq
             (.region false [⟨(some 14), (.mv (.tmp 0)), none⟩,
              ⟨(some 15), (.mv (.tmp 7)), none⟩,
              ⟨(some 16), (.call 28 [(.tmp 14), (.tmp 15)]), none⟩,
              ⟨(some 17), (.bin .eql (.tmp 16) (.const (it 0))), none⟩])
             (.cond (.tmp 17)
              (.region false [⟨(some 18), (.mv (.tmp 5)), none⟩,
               ⟨(some 19), (.mv (.tmp 0)), none⟩,
               ⟨(some 20), (.nilc (.tmp 19)), none⟩,
               ⟨(some 21), (.faddr S2 (.tmp 20) 0), none⟩,
               ⟨(some 22), (.load .ref (.tmp 21)), none⟩,
               ⟨(some 23), (.mv (.tmp 7)), none⟩,
               ⟨(some 24), (.bin .mul (.const (it 256)) (.tmp 23)), none⟩,
               ⟨(some 25), (.mv (.tmp 7)), none⟩,
               ⟨(some 26), (.bin .add (.tmp 25) (.const (it 1))), none⟩,
               ⟨(some 27), (.bin .mul (.const (it 256)) (.tmp 26)), none⟩,
               ⟨(some 28), (.slice L8 (.tmp 22) (some (.tmp 24)) (some (.tmp 27)) none), none⟩,
               ⟨(some 29), (.append L8 1 (.tmp 18) (.tmp 28)), none⟩,
               ⟨(some 5), (.mv (.tmp 29)), none⟩])
              .skip))))
          (.region false [⟨(some 30), (.bin .add (.tmp 10) (.const (it 1))), none⟩,
           ⟨(some 10), (.mv (.tmp 30)), none⟩])))))))
    (.seq
     (.region false [⟨(some 31), (.mv (.tmp 5)), none⟩,
      ⟨(some 4), (.mv (.tmp 31)), none⟩])
     .ret))))
def r_flash_Flash_Pages : List ARes := [(.tmp 4)]
theorem c_flash_Flash_Pages : o2 Go.Proofs.Try.f22.body (comp Go.Proofs.Try.prog Go.Proofs.Try.f22.ntmps) = some a_flash_Flash_Pages := by kernel_rfl
theorem s_flash_Flash_Pages : cRess Go.Proofs.Try.prog Go.Proofs.Try.f22.results.toList = some r_flash_Flash_Pages := by kernel_rfl
theorem m_flash_Flash_Pages (C : Ctx) (hC : CtxOK C Go.Proofs.Try.prog) : Meets C.glob Go.Proofs.Try.prog 22 (afun C 2 r_flash_Flash_Pages a_flash_Flash_Pages) :=
  fn_sound hC Go.Proofs.Try.func22 c_flash_Flash_Pages s_flash_Flash_Pages (Nat.le_of_ble_eq_true (by kernel_rfl))

/-- curtilage/curtilagelaw12.do -/
def a_law12_do : ACode :=
 (.seq
  (.region false [⟨(some 5), (.box S1 (.tmp 2)), none⟩,
   ⟨(some 6), (.mv (.const (.slice none 0 0))), none⟩,
   ⟨(some 7), (.mv (.const (.bool false))), none⟩])
  (.seq
   (.region false [⟨(some 13), (.mv (.tmp 1)), none⟩,
    ⟨(some 14), (.load S1 (.tmp 5)), none⟩,
    ⟨(some 15), (.call 30 [(.tmp 13), (.tmp 14)]), none⟩,
    ⟨(some 12), (.mv (.tmp 15)), none⟩,
    ⟨(some 16), (.ext (.tmp 12) 0), none⟩,
    ⟨(some 17), (.ext (.tmp 12) 1), none⟩,
    ⟨(some 18), (.ext (.tmp 12) 2), none⟩,
    ⟨(some 1), (.mv (.tmp 16)), none⟩,
    ⟨(some 8), (.mv (.tmp 17)), none⟩,
    ⟨(some 9), (.mv (.tmp 18)), none⟩])
   (.seq
    (.region false [⟨(some 10), (.mv (.const (.slice none 0 0))), none⟩])
    (.seq
     (.region false [⟨(some 11), (.mv (.const (it 0))), none⟩])
     (.seq
      (.seq
       (.region false [⟨(some 19), (.faddr S1 (.tmp 5) 0), none⟩,
        ⟨(some 20), (.load L8 (.tmp 19)), none⟩,
        ⟨(some 21), (.bin .rem (.tmp 20) (.const (u8 6#8))), none⟩])
       (.block 0
        (.seq
         (.region false [⟨(some 34), (.bin .eql (.tmp 21) (.const (u8 0#8))), none⟩,
          ⟨(some 33), (.mv (.tmp 34)), none⟩])
         (.cond (.tmp 33)
          (.region false [⟨(some 36), (.mv (.tmp 0)), none⟩,
           ⟨(some 37), (.faddr S1 (.tmp 5) 1), none⟩,
           ⟨(some 38), (.load LI (.tmp 37)), none⟩,
           ⟨(some 39), (.faddr S1 (.tmp 5) 2), none⟩,
           ⟨(some 40), (.load LI (.tmp 39)), none⟩,
           ⟨(some 41), (.call 15 [(.tmp 36), (.tmp 38), (.tmp 40)]), none⟩,
           ⟨(some 35), (.mv (.tmp 41)), none⟩,
           ⟨(some 42), (.ext (.tmp 35) 0), none⟩,
           ⟨(some 43), (.ext (.tmp 35) 1), none⟩,
           ⟨(some 10), (.mv (.tmp 42)), none⟩,
           ⟨(some 11), (.mv (.tmp 43)), none⟩])
          (.seq
           (.region false [⟨(some 45), (.bin .eql (.tmp 21) (.const (u8 1#8))), none⟩,
            ⟨(some 44), (.mv (.tmp 45)), none⟩])
           (.cond (.tmp 44)
            (.region false [⟨(some 46), (.mv (.tmp 0)), none⟩,
             ⟨(some 47), (.faddr S1 (.tmp 5) 1), none⟩,
             ⟨(some 48), (.load LI (.tmp 47)), none⟩,
             ⟨(some 49), (.call 13 [(.tmp 46), (.tmp 48)]), none⟩,
             ⟨(some 11), (.mv (.tmp 49)), none⟩])
            (.seq
             (.region false [⟨(some 51), (.bin .eql (.tmp 21) (.const (u8 2#8))), none⟩,
              ⟨(some 50), (.mv (.tmp 51)), none⟩])
             (.cond (.tmp 50)
              (.region false [⟨(some 52), (.mv (.tmp 0)), none⟩,
               ⟨(some 53), (.faddr S1 (.tmp 5) 1), none⟩,
               ⟨(some 54), (.load LI (.tmp 53)), none⟩,
               ⟨(some 55), (.faddr S1 (.tmp 5) 3), none⟩,
               ⟨(some 56), (.load .ref (.tmp 55)), none⟩,
               ⟨(some 57), (.call 14 [(.tmp 52), (.tmp 54), (.tmp 56)]), none⟩,
               ⟨(some 11), (.mv (.tmp 57)), none⟩])
              (.seq
               (.region false [⟨(some 59), (.bin .eql (.tmp 21) (.const (u8 3#8))), none⟩,
                ⟨(some 58), (.mv (.tmp 59)), none⟩])
               (.cond (.tmp 58)
                (.region false [⟨(some 60), (.mv (.tmp 0)), none⟩,
                 ⟨(some 61), (.faddr S1 (.tmp 5) 1), none⟩,
                 ⟨(some 62), (.load LI (.tmp 61)), none⟩,
                 ⟨(some 63), (.faddr S1 (.tmp 5) 3), none⟩,
                 ⟨(some 64), (.load .ref (.tmp 63)), none⟩,
                 ⟨(some 65), (.faddr S1 (.tmp 5) 4), none⟩,
                 ⟨(some 66), (.load .ref (.tmp 65)), none⟩,
                 ⟨(some 67), (.call 20 [(.tmp 60), (.tmp 62), (.tmp 64), (.tmp 66)]), none⟩,
                 ⟨(some 11), (.mv (.tmp 67)), none⟩])
                (.seq
                 (.region false [⟨(some 69), (.bin .eql (.tmp 21) (.const (u8 4#8))), none⟩,
                  ⟨(some 68), (.mv (.tmp 69)), none⟩])
                 (.cond (.tmp 68)
                  (.region false [⟨(some 70), (.mv (.tmp 0)), none⟩,
                   ⟨(some 71), (.faddr S1 (.tmp 5) 1), none⟩,
                   ⟨(some 72), (.load LI (.tmp 71)), none⟩,
                   ⟨(some 73), (.faddr S1 (.tmp 5) 2), none⟩,
                   ⟨(some 74), (.load LI (.tmp 73)), none⟩,
                   ⟨(some 75), (.conv .u8 (.tmp 74)), none⟩,
                   ⟨(some 76), (.call 10 [(.tmp 70), (.tmp 72), (.tmp 75)]), none⟩,
                   ⟨(some 11), (.mv (.tmp 76)), none⟩])
                  (.region false [⟨(some 23), (.mv (.tmp 0)), none⟩,
                   ⟨(some 24), (.faddr S1 (.tmp 5) 1), none⟩,
                   ⟨(some 25), (.load LI (.tmp 24)), none⟩,
                   ⟨(some 26), (.faddr S1 (.tmp 5) 2), none⟩,
                   ⟨(some 27), (.load LI (.tmp 26)), none⟩,
                   ⟨(some 28), (.faddr S1 (.tmp 5) 3), none⟩,
                   ⟨(some 29), (.load .ref (.tmp 28)), none⟩,
                   ⟨(some 30), (.call 19 [(.tmp 23), (.tmp 25), (.tmp 27), (.tmp 29)]), none⟩,
                   ⟨(some 22), (.mv (.tmp 30)), none⟩,
                   ⟨(some 31), (.ext (.tmp 22) 0), none⟩,
                   ⟨(some 32), (.ext (.tmp 22) 1), none⟩,
                   ⟨(some 10), (.mv (.tmp 31)), none⟩,
                   ⟨(some 11), (.mv (.tmp 32)), none⟩])))))))))))))
      (.seq
       (.region false [⟨(some 77), (.mv (.tmp 1)), none⟩,
        ⟨(some 78), (.mv (.tmp 11)), none⟩,
        ⟨(some 79), (.mv (.tmp 9)), none⟩,
        ⟨(some 80), (.bin .eql (.tmp 78) (.tmp 79)), none⟩,
        ⟨(some 81), (.mv (.tmp 80)), none⟩,
        ⟨(some 82), (.mv (.tmp 10)), some (81, true)⟩,
        ⟨(some 83), (.mv (.tmp 8)), some (81, true)⟩,
        ⟨(some 84), (.call 18 [(.tmp 82), (.tmp 83)]), some (81, true)⟩,
        ⟨(some 85), (.pick (.tmp 81) (.tmp 84) (.const (.bool false))), none⟩,
        ⟨(some 6), (.mv (.tmp 77)), none⟩,
        ⟨(some 7), (.mv (.tmp 85)), none⟩])
       .ret))))))
def r_law12_do : List ARes := [(.tmp 6), (.tmp 7)]
theorem c_law12_do : o2 Go.Proofs.Try.f23.body (comp Go.Proofs.Try.prog Go.Proofs.Try.f23.ntmps) = some a_law12_do := by kernel_rfl
theorem s_law12_do : cRess Go.Proofs.Try.prog Go.Proofs.Try.f23.results.toList = some r_law12_do := by kernel_rfl
theorem m_law12_do (C : Ctx) (hC : CtxOK C Go.Proofs.Try.prog) : Meets C.glob Go.Proofs.Try.prog 23 (afun C 3 r_law12_do a_law12_do) :=
  fn_sound hC Go.Proofs.Try.func23 c_law12_do s_law12_do (Nat.le_of_ble_eq_true (by kernel_rfl))

/-- curtilage/curtilageref12.Few -/
def a_ref12_Few : ACode :=
 (.seq
  (.region false [⟨(some 1), (.box S1 (.tmp 0)), none⟩,
   ⟨(some 2), (.alloc S1 (.agg S1 [(.raw (u8 0#8)), (.raw (it 0)), (.raw (it 0)), (.raw (.slice none 0 0)), (.raw (.slice none 0 0))])), none⟩])
  (.seq
   (.region true [⟨(some 3), (.faddr S1 (.tmp 1) 3), none⟩,
    ⟨(some 4), (.load .ref (.tmp 3)), none⟩,
    ⟨(some 5), (.call 17 [(.tmp 4), (.const (it 300))]), none⟩,
    ⟨(some 6), (.faddr S1 (.tmp 1) 4), none⟩,
    ⟨(some 7), (.load .ref (.tmp 6)), none⟩,
    ⟨(some 8), (.call 17 [(.tmp 7), (.const (it 300))]), none⟩,
    ⟨(some 9), (.faddr S1 (.tmp 1) 3), none⟩,
    ⟨none, (.store .ref (.tmp 9) (.tmp 5)), none⟩,
    ⟨(some 10), (.faddr S1 (.tmp 1) 4), none⟩,
    ⟨none, (.store .ref (.tmp 10) (.tmp 8)), none⟩])
   (.seq
    (.region false [⟨(some 11), (.load S1 (.tmp 1)), none⟩,
     ⟨none, (.store S1 (.tmp 2) (.tmp 11)), none⟩])
    .ret)))
def r_ref12_Few : List ARes := [(.cell 2 S1)]
theorem c_ref12_Few : o2 Go.Proofs.Try.f24.body (comp Go.Proofs.Try.prog Go.Proofs.Try.f24.ntmps) = some a_ref12_Few := by kernel_rfl
theorem s_ref12_Few : cRess Go.Proofs.Try.prog Go.Proofs.Try.f24.results.toList = some r_ref12_Few := by kernel_rfl
theorem m_ref12_Few (C : Ctx) (hC : CtxOK C Go.Proofs.Try.prog) : Meets C.glob Go.Proofs.Try.prog 24 (afun C 1 r_ref12_Few a_ref12_Few) :=
  fn_sound hC Go.Proofs.Try.func24 c_ref12_Few s_ref12_Few (Nat.le_of_ble_eq_true (by kernel_rfl))

/-- bytes.Repeat -/
def a_bytes_Repeat : ACode :=
 (.seq
  (.region false [⟨(some 4), (.mv (.const (.slice none 0 0))), none⟩])
  (.seq
   (.seq
    (.region false [⟨(some 12), (.mv (.tmp 1)), none⟩,
     ⟨(some 13), (.bin .eql (.tmp 12) (.const (it 0))), none⟩])
    (.cond (.tmp 13)
     (.seq
      (.region false [⟨(some 14), (.bslice L8 0 (.raw (u8 0#8)) []), none⟩,
       ⟨(some 4), (.mv (.tmp 14)), none⟩])
      .ret)
     .skip))
   (.seq
    (.seq
     (.region false [⟨(some 15), (.mv (.tmp 1)), none⟩,
      ⟨(some 16), (.bin .lss (.tmp 15) (.const (it 0))), none⟩])
     (.cond (.tmp 16)
      (.region false [⟨(some 17), .fail, none⟩,
       ⟨none, .fail, none⟩])
      .skip))
    (.seq
     (.region false [⟨(some 19), (.mv (.tmp 0)), none⟩,
      ⟨(some 20), (.len (.tmp 19)), none⟩,
      ⟨(some 21), (.conv .u64 (.tmp 20)), none⟩,
      ⟨(some 22), (.mv (.tmp 1)), none⟩,
      ⟨(some 23), (.conv .u64 (.tmp 22)), none⟩,
      ⟨(some 24), (.call 31 [(.tmp 21), (.tmp 23)]), none⟩,
      ⟨(some 18), (.mv (.tmp 24)), none⟩,
      ⟨(some 25), (.ext (.tmp 18) 0), none⟩,
      ⟨(some 26), (.ext (.tmp 18) 1), none⟩,
      ⟨(some 5), (.mv (.tmp 25)), none⟩,
      ⟨(some 6), (.mv (.tmp 26)), none⟩])
     (.seq
      (.seq
       (.region false [⟨(some 27), (.mv (.tmp 5)), none⟩,
        ⟨(some 28), (.bin .gtr (.tmp 27) (.const (u64 0#64))), none⟩,
        ⟨(some 29), (.mv (.tmp 28)), none⟩,
        ⟨(some 30), (.mv (.tmp 6)), some (29, false)⟩,
        ⟨(some 31), (.bin .gtr (.tmp 30) (.const (u64 9223372036854775807#64))), some (29, false)⟩,
        ⟨(some 32), (.pick (.tmp 29) (.const (.bool true)) (.tmp 31)), none⟩])
       (.cond (.tmp 32)
        (.region false [⟨(some 33), .fail, none⟩,
         ⟨none, .fail, none⟩])
        .skip))
      (.seq
       (.region false [⟨(some 34), (.mv (.tmp 6)), none⟩,
        ⟨(some 35), (.conv .i64 (.tmp 34)), none⟩,
        ⟨(some 7), (.mv (.tmp 35)), none⟩])
       (.seq
        (.seq
         (.region false [⟨(some 36), (.mv (.tmp 0)), none⟩,
          ⟨(some 37), (.len (.tmp 36)), none⟩,
          ⟨(some 38), (.bin .eql (.tmp 37) (.const (it 0))), none⟩])
         (.cond (.tmp 38)
          (.seq
           (.region false [⟨(some 39), (.bslice L8 0 (.raw (u8 0#8)) []), none⟩,
            ⟨(some 4), (.mv (.tmp 39)), none⟩])
           .ret)
          .skip))
        (.seq
         (.region false [⟨(some 40), (.mv (.tmp 7)), none⟩,
          ⟨(some 8), (.mv (.tmp 40)), none⟩])
         (.seq
          (.seq
           (.region false [⟨(some 41), (.mv (.tmp 8)), none⟩,
            ⟨(some 42), (.bin .gtr (.tmp 41) (.const (it 8192))), none⟩])
           (.cond (.tmp 42)
            (.seq
             (.region false [⟨(some 43), (.mv (.tmp 0)), none⟩,
              ⟨(some 44), (.len (.tmp 43)), none⟩,
              ⟨(some 45), (.bin .quo (.const (it 8192)) (.tmp 44)), none⟩,
              ⟨(some 46), (.mv (.tmp 0)), none⟩,
              ⟨(some 47), (.len (.tmp 46)), none⟩,
              ⟨(some 48), (.bin .mul (.tmp 45) (.tmp 47)), none⟩,
              ⟨(some 8), (.mv (.tmp 48)), none⟩])
             (.seq
              (.region false [⟨(some 49), (.mv (.tmp 8)), none⟩,
               ⟨(some 50), (.bin .eql (.tmp 49) (.const (it 0))), none⟩])
              (.cond (.tmp 50)
               (.region false [⟨(some 51), (.mv (.tmp 0)), none⟩,
                ⟨(some 52), (.len (.tmp 51)), none⟩,
                ⟨(some 8), (.mv (.tmp 52)), none⟩])
               .skip)))
            .skip))
          (.seq
           (.region false [⟨(some 53), (.mv (.tmp 7)), none⟩,
            ⟨(some 54), (.mnz (.tmp 53)), none⟩,
            ⟨(some 55), (.mv (.tmp 7)), none⟩,
            ⟨(some 56), (.mv (.tmp 7)), none⟩,
            ⟨(some 57), (.slice L8 (.tmp 54) none (some (.tmp 55)) (some (.tmp 56))), none⟩,
            ⟨(some 9), (.mv (.tmp 57)), none⟩])
           (.seq
            (.region false [⟨(some 58), (.mv (.tmp 9)), none⟩,
             ⟨(some 59), (.mv (.tmp 0)), none⟩,
             ⟨(some 60), (.copy L8 (.tmp 58) (.tmp 59)), none⟩,
             ⟨(some 10), (.mv (.tmp 60)), none⟩])
            (.seq
             (.block 0
              (.loop
               (.seq
                (.seq
                 (.region false [⟨(some 61), (.mv (.tmp 10)), none⟩,
                  ⟨(some 62), (.mv (.tmp 7)), none⟩,
                  ⟨(some 63), (.bin .lss (.tmp 61) (.tmp 62)), none⟩])
                 (.cond (.tmp 63)
                  .skip
                  (.exit 0)))
                (.block 1
                 (.seq
                  (.region false [⟨(some 64), (.mv (.tmp 10)), none⟩,
                   ⟨(some 65), (.mv (.tmp 8)), none⟩,
                   ⟨(some 66), (.minmax false [(.tmp 64), (.tmp 65)]), none⟩,
                   ⟨(some 11), (.mv (.tmp 66)), none⟩])
                  (.draw [⟨(some 67), (.mv (.tmp 10)), none⟩,
                   ⟨(some 68), (.mv (.tmp 9)), none⟩,
                   ⟨(some 69), (.mv (.tmp 10)), none⟩,
                   ⟨(some 70), (.slice L8 (.tmp 68) (some (.tmp 69)) none none), none⟩,
                   ⟨(some 71), (.mv (.tmp 9)), none⟩,
                   ⟨(some 72), (.mv (.tmp 11)), none⟩,
                   ⟨(some 73), (.slice L8 (.tmp 71) none (some (.tmp 72)) none), none⟩]
                   [⟨(some 67), (.mv (.tmp 10)), none⟩]
                   [(⟨(some 74), (.copy L8 (.tmp 70) (.tmp 73)), none⟩, [⟨(some 67), (.mv (.tmp 10)), none⟩]),
                   (⟨(some 75), (.bin .add (.tmp 67) (.tmp 74)), none⟩, [⟨(some 68), (.mv (.tmp 9)), none⟩, ⟨(some 69), (.mv (.tmp 10)), none⟩, ⟨(some 71), (.mv (.tmp 9)), none⟩, ⟨(some 72), (.mv (.tmp 11)), none⟩]),
                   (⟨(some 10), (.mv (.tmp 75)), none⟩, [])]))))))
             (.seq
              (.region false [⟨(some 76), (.mv (.tmp 9)), none⟩,
               ⟨(some 4), (.mv (.tmp 76)), none⟩])
              .ret)))))))))))))
def r_bytes_Repeat : List ARes := [(.tmp 4)]
theorem c_bytes_Repeat : o2 Go.Proofs.Try.f25.body (comp Go.Proofs.Try.prog Go.Proofs.Try.f25.ntmps) = some a_bytes_Repeat := by kernel_rfl
theorem s_bytes_Repeat : cRess Go.Proofs.Try.prog Go.Proofs.Try.f25.results.toList = some r_bytes_Repeat := by kernel_rfl
theorem m_bytes_Repeat (C : Ctx) (hC : CtxOK C Go.Proofs.Try.prog) : Meets C.glob Go.Proofs.Try.prog 25 (afun C 2 r_bytes_Repeat a_bytes_Repeat) :=
  fn_sound hC Go.Proofs.Try.func25 c_bytes_Repeat s_bytes_Repeat (Nat.le_of_ble_eq_true (by kernel_rfl))

/-- (*curtilage/flash.Flash).within -/
def a_flash_Flash_within : ACode :=
 (.seq
  (.region false [⟨(some 6), (.mv (.const (it 0))), none⟩])
  (.seq
   (.block 0
    (.seq
     (.region false [⟨(some 8), (.mv (.tmp 0)), none⟩,
      ⟨(some 9), (.eqnil false (.tmp 8) (.const (.pointer none))), none⟩,
      ⟨(some 7), (.mv (.tmp 9)), none⟩])
     (.cond (.tmp 7)
      (.seq
       (.region false [⟨(some 6), (.mv (.const (it 3))), none⟩])
       .ret)
      (.seq
       (.region false [⟨(some 11), (.mv (.tmp 1)), none⟩,
        ⟨(some 12), (.bin .lss (.tmp 11) (.const (it 0))), none⟩,
        ⟨(some 13), (.mv (.tmp 12)), none⟩,
        ⟨(some 14), (.mv (.tmp 2)), some (13, false)⟩,
        ⟨(some 15), (.bin .lss (.tmp 14) (.const (it 0))), some (13, false)⟩,
        ⟨(some 16), (.pick (.tmp 13) (.const (.bool true)) (.tmp 15)), none⟩,
        ⟨(some 17), (.mv (.tmp 16)), none⟩,
        ⟨(some 18), (.mv (.tmp 1)), some (17, false)⟩,
        ⟨(some 19), (.mv (.tmp 0)), some (17, false)⟩,
        ⟨(some 20), (.nilc (.tmp 19)), some (17, false)⟩,
        ⟨(some 21), (.faddr S2 (.tmp 20) 0), some (17, false)⟩,
        ⟨(some 22), (.load .ref (.tmp 21)), some (17, false)⟩,
        ⟨(some 23), (.len (.tmp 22)), some (17, false)⟩,
        ⟨(some 24), (.bin .gtr (.tmp 18) (.tmp 23)), some (17, false)⟩,
        ⟨(some 25), (.pick (.tmp 17) (.const (.bool true)) (.tmp 24)), none⟩,
        ⟨(some 26), (.mv (.tmp 25)), none⟩,
        ⟨(some 27), (.mv (.tmp 2)), some (26, false)⟩,
        ⟨(some 28), (.mv (.tmp 0)), some (26, false)⟩,
        ⟨(some 29), (.nilc (.tmp 28)), some (26, false)⟩,
        ⟨(some 30), (.faddr S2 (.tmp 29) 0), some (26, false)⟩,
        ⟨(some 31), (.load .ref (.tmp 30)), some (26, false)⟩,
        ⟨(some 32), (.len (.tmp 31)), some (26, false)⟩,
        ⟨(some 33), (.mv (.tmp 1)), some (26, false)⟩,
        ⟨(some 34), (.bin .sub (.tmp 32) (.tmp 33)), some (26, false)⟩,
        ⟨(some 35), (.bin .gtr (.tmp 27) (.tmp 34)), some (26, false)⟩,
        ⟨(some 36), (.pick (.tmp 26) (.const (.bool true)) (.tmp 35)), none⟩,
        ⟨(some 10), (.mv (.tmp 36)), none⟩])
       (.cond (.tmp 10)
        (.seq
         (.region false [⟨(some 6), (.mv (.const (it 9))), none⟩])
         .ret)
        .skip)))))
   (.seq
    (.region false [⟨(some 6), (.mv (.const (it 0))), none⟩])
    .ret)))
def r_flash_Flash_within : List ARes := [(.tmp 6)]
theorem c_flash_Flash_within : o2 Go.Proofs.Try.f26.body (comp Go.Proofs.Try.prog Go.Proofs.Try.f26.ntmps) = some a_flash_Flash_within := by kernel_rfl
theorem s_flash_Flash_within : cRess Go.Proofs.Try.prog Go.Proofs.Try.f26.results.toList = some r_flash_Flash_within := by kernel_rfl
theorem m_flash_Flash_within (C : Ctx) (hC : CtxOK C Go.Proofs.Try.prog) : Meets C.glob Go.Proofs.Try.prog 26 (afun C 3 r_flash_Flash_within a_flash_Flash_within) :=
  fn_sound hC Go.Proofs.Try.func26 c_flash_Flash_within s_flash_Flash_within (Nat.le_of_ble_eq_true (by kernel_rfl))

/-- bytes.Clone -/
def a_bytes_Clone : ACode :=
 (.seq
  (.region false [⟨(some 2), (.mv (.const (.slice none 0 0))), none⟩])
  (.seq
   (.seq
    (.region false [⟨(some 3), (.mv (.tmp 0)), none⟩,
     ⟨(some 4), (.eqsn false (.tmp 3) (.const (.slice none 0 0))), none⟩])
    (.cond (.tmp 4)
     (.seq
      (.region false [⟨(some 2), (.mv (.const (.slice none 0 0))), none⟩])
      .ret)
     .skip))
   (.seq
    (.region false [⟨(some 5), (.bslice L8 0 (.raw (u8 0#8)) []), none⟩,
     ⟨(some 6), (.mv (.tmp 0)), none⟩,
     ⟨(some 7), (.append L8 1 (.tmp 5) (.tmp 6)), none⟩,
     ⟨(some 2), (.mv (.tmp 7)), none⟩])
    .ret)))
def r_bytes_Clone : List ARes := [(.tmp 2)]
theorem c_bytes_Clone : o2 Go.Proofs.Try.f27.body (comp Go.Proofs.Try.prog Go.Proofs.Try.f27.ntmps) = some a_bytes_Clone := by kernel_rfl
theorem s_bytes_Clone : cRess Go.Proofs.Try.prog Go.Proofs.Try.f27.results.toList = some r_bytes_Clone := by kernel_rfl
theorem m_bytes_Clone (C : Ctx) (hC : CtxOK C Go.Proofs.Try.prog) : Meets C.glob Go.Proofs.Try.prog 27 (afun C 1 r_bytes_Clone a_bytes_Clone) :=
  fn_sound hC Go.Proofs.Try.func27 c_bytes_Clone s_bytes_Clone (Nat.le_of_ble_eq_true (by kernel_rfl))

/-- (*curtilage/flash.Flash).page -/
def a_flash_Flash_page : ACode :=
 (.seq
  (.region false [⟨(some 4), (.mv (.const (it 0))), none⟩])
  (.seq
   (.block 0
    (.seq
     (.region false [⟨(some 6), (.mv (.tmp 0)), none⟩,
      ⟨(some 7), (.eqnil false (.tmp 6) (.const (.pointer none))), none⟩,
      ⟨(some 5), (.mv (.tmp 7)), none⟩])
     (.cond (.tmp 5)
      (.seq
       (.region false [⟨(some 4), (.mv (.const (it 3))), none⟩])
       .ret)
      (.seq
       (.region false [⟨(some 9), (.mv (.tmp 1)), none⟩,
        ⟨(some 10), (.bin .lss (.tmp 9) (.const (it 0))), none⟩,
        ⟨(some 11), (.mv (.tmp 10)), none⟩,
        ⟨(some 12), (.mv (.tmp 1)), some (11, false)⟩,
        ⟨(some 13), (.mv (.tmp 0)), some (11, false)⟩,
        ⟨(some 14), (.nilc (.tmp 13)), some (11, false)⟩,
        ⟨(some 15), (.faddr S2 (.tmp 14) 0), some (11, false)⟩,
        ⟨(some 16), (.load .ref (.tmp 15)), some (11, false)⟩,
        ⟨(some 17), (.len (.tmp 16)), some (11, false)⟩,
        ⟨(some 18), (.bin .quo (.tmp 17) (.const (it 256))), some (11, false)⟩,
        ⟨(some 19), (.bin .geq (.tmp 12) (.tmp 18)), some (11, false)⟩,
        ⟨(some 20), (.pick (.tmp 11) (.const (.bool true)) (.tmp 19)), none⟩,
        ⟨(some 8), (.mv (.tmp 20)), none⟩])
       (.cond (.tmp 8)
        (.seq
         (.region false [⟨(some 4), (.mv (.const (it 9))), none⟩])
         .ret)
        .skip)))))
   (.seq
    (.region false [⟨(some 4), (.mv (.const (it 0))), none⟩])
    .ret)))
def r_flash_Flash_page : List ARes := [(.tmp 4)]
theorem c_flash_Flash_page : o2 Go.Proofs.Try.f28.body (comp Go.Proofs.Try.prog Go.Proofs.Try.f28.ntmps) = some a_flash_Flash_page := by kernel_rfl
theorem s_flash_Flash_page : cRess Go.Proofs.Try.prog Go.Proofs.Try.f28.results.toList = some r_flash_Flash_page := by kernel_rfl
theorem m_flash_Flash_page (C : Ctx) (hC : CtxOK C Go.Proofs.Try.prog) : Meets C.glob Go.Proofs.Try.prog 28 (afun C 2 r_flash_Flash_page a_flash_Flash_page) :=
  fn_sound hC Go.Proofs.Try.func28 c_flash_Flash_page s_flash_Flash_page (Nat.le_of_ble_eq_true (by kernel_rfl))

/-- curtilage/flash.clears -/
def a_flash_clears : ACode :=
 (.seq
  (.region false [⟨(some 4), (.mv (.const (.bool false))), none⟩])
  (.seq
   (.seq
    (.region false [⟨(some 7), (.mv (.tmp 1)), none⟩,
     ⟨(some 8), (.len (.tmp 7)), none⟩,
     ⟨(some 9), (.mv (.const (it 0))), none⟩])
    (.block 0
     (.loop
      (.seq
       (.region false [⟨(some 10), (.bin .lss (.tmp 9) (.tmp 8)), none⟩])
       (.seq
        (.cond (.tmp 10)
         .skip
         (.exit 0))
        (.seq
         (.block 1
          (.seq
           (.region false [⟨(some 11), (.mv (.tmp 9)), none⟩,
            ⟨(some 12), (.iaddrs L8 (.tmp 7) (.tmp 9)), none⟩,
            ⟨(some 13), (.load L8 (.tmp 12)), none⟩,
            ⟨(some 5), (.mv (.tmp 11)), none⟩,
            ⟨(some 6), (.mv (.tmp 13)), none⟩])
           (.seq
            (.region false [⟨(some 14), (.mv (.tmp 6)), none⟩,
             ⟨(some 15), (.mv (.tmp 0)), none⟩,
             ⟨(some 16), (.mv (.tmp 5)), none⟩,
             ⟨(some 17), (.iaddrs L8 (.tmp 15) (.tmp 16)), none⟩,
             ⟨(some 18), (.load L8 (.tmp 17)), none⟩,
             ⟨(some 19), (.bin .andNot (.tmp 14) (.tmp 18)), none⟩,
             ⟨(some 20), (.bin .neq (.tmp 19) (.const (u8 0#8))), none⟩])
            (.cond (.tmp 20)
             (.seq
              (.region false [⟨(some 4), (.mv (.const (.bool false))), none⟩])
              .ret)
             .skip))))
         (.region false [⟨(some 21), (.bin .add (.tmp 9) (.const (it 1))), none⟩,
          ⟨(some 9), (.mv (.tmp 21)), none⟩])))))))
   (.seq
    (.region false [⟨(some 4), (.mv (.const (.bool true))), none⟩])
    .ret)))
def r_flash_clears : List ARes := [(.tmp 4)]
theorem c_flash_clears : o2 Go.Proofs.Try.f29.body (comp Go.Proofs.Try.prog Go.Proofs.Try.f29.ntmps) = some a_flash_clears := by kernel_rfl
theorem s_flash_clears : cRess Go.Proofs.Try.prog Go.Proofs.Try.f29.results.toList = some r_flash_clears := by kernel_rfl
theorem m_flash_clears (C : Ctx) (hC : CtxOK C Go.Proofs.Try.prog) : Meets C.glob Go.Proofs.Try.prog 29 (afun C 2 r_flash_clears a_flash_clears) :=
  fn_sound hC Go.Proofs.Try.func29 c_flash_clears s_flash_clears (Nat.le_of_ble_eq_true (by kernel_rfl))

/-- curtilage/curtilageref12.Do -/
def a_ref12_Do : ACode :=
 (.seq
  (.region false [⟨(some 3), (.box S1 (.tmp 1)), none⟩,
   ⟨(some 4), (.mv (.const (.slice none 0 0))), none⟩,
   ⟨(some 5), (.mv (.const (.slice none 0 0))), none⟩,
   ⟨(some 6), (.mv (.const (it 0))), none⟩])
  (.seq
   (.region false [⟨(some 16), (.mv (.tmp 0)), none⟩,
    ⟨(some 17), (.len (.tmp 16)), none⟩,
    ⟨(some 18), (.bin .quo (.tmp 17) (.const (it 256))), none⟩,
    ⟨(some 7), (.mv (.tmp 18)), none⟩])
   (.seq
    (.region false [⟨(some 19), (.faddr S1 (.tmp 3) 1), none⟩,
     ⟨(some 20), (.load LI (.tmp 19)), none⟩,
     ⟨(some 21), (.bin .geq (.tmp 20) (.const (it 0))), none⟩,
     ⟨(some 22), (.mv (.tmp 21)), none⟩,
     ⟨(some 23), (.faddr S1 (.tmp 3) 1), some (22, true)⟩,
     ⟨(some 24), (.load LI (.tmp 23)), some (22, true)⟩,
     ⟨(some 25), (.mv (.tmp 7)), some (22, true)⟩,
     ⟨(some 26), (.bin .lss (.tmp 24) (.tmp 25)), some (22, true)⟩,
     ⟨(some 27), (.pick (.tmp 22) (.tmp 26) (.const (.bool false))), none⟩,
     ⟨(some 8), (.mv (.tmp 27)), none⟩])
    (.seq
     (.seq
      (.region false [⟨(some 28), (.faddr S1 (.tmp 3) 0), none⟩,
       ⟨(some 29), (.load L8 (.tmp 28)), none⟩,
       ⟨(some 30), (.bin .rem (.tmp 29) (.const (u8 6#8))), none⟩])
      (.block 0
       (.seq
        (.region false [⟨(some 32), (.bin .eql (.tmp 30) (.const (u8 0#8))), none⟩,
         ⟨(some 31), (.mv (.tmp 32)), none⟩])
        (.cond (.tmp 31)
         (.seq
          (.seq
           (.region false [⟨(some 33), (.faddr S1 (.tmp 3) 1), none⟩,
            ⟨(some 34), (.load LI (.tmp 33)), none⟩,
            ⟨(some 35), (.faddr S1 (.tmp 3) 2), none⟩,
            ⟨(some 36), (.load LI (.tmp 35)), none⟩,
            ⟨(some 37), (.mv (.tmp 0)), none⟩,
            ⟨(some 38), (.len (.tmp 37)), none⟩,
            ⟨(some 39), (.call 33 [(.tmp 34), (.tmp 36), (.tmp 38)]), none⟩,
            ⟨(some 40), (.un .not (.tmp 39)), none⟩])
           (.cond (.tmp 40)
            (.seq
             (.region false [⟨(some 41), (.mv (.tmp 0)), none⟩,
              ⟨(some 4), (.mv (.tmp 41)), none⟩,
              ⟨(some 5), (.mv (.const (.slice none 0 0))), none⟩,
              ⟨(some 6), (.mv (.const (it 9))), none⟩])
             .ret)
            .skip))
          (.seq
           (.region true [⟨(some 42), (.mv (.tmp 0)), none⟩,
            ⟨(some 43), (.mv (.tmp 0)), none⟩,
            ⟨(some 44), (.faddr S1 (.tmp 3) 1), none⟩,
            ⟨(some 45), (.load LI (.tmp 44)), none⟩,
            ⟨(some 46), (.slice L8 (.tmp 43) (some (.tmp 45)) none none), none⟩,
            ⟨(some 47), (.faddr S1 (.tmp 3) 2), none⟩,
            ⟨(some 48), (.load LI (.tmp 47)), none⟩,
            ⟨(some 49), (.call 17 [(.tmp 46), (.tmp 48)]), none⟩,
            ⟨(some 4), (.mv (.tmp 42)), none⟩,
            ⟨(some 5), (.mv (.tmp 49)), none⟩,
            ⟨(some 6), (.mv (.const (it 0))), none⟩])
           .ret))
         (.seq
          (.region false [⟨(some 51), (.bin .eql (.tmp 30) (.const (u8 2#8))), none⟩,
           ⟨(some 50), (.mv (.tmp 51)), none⟩])
          (.cond (.tmp 50)
           (.seq
            (.region false [⟨(some 53), (.mv (.tmp 0)), none⟩,
             ⟨(some 54), (.faddr S1 (.tmp 3) 1), none⟩,
             ⟨(some 55), (.load LI (.tmp 54)), none⟩,
             ⟨(some 56), (.faddr S1 (.tmp 3) 3), none⟩,
             ⟨(some 57), (.load .ref (.tmp 56)), none⟩,
             ⟨(some 58), (.call 34 [(.tmp 53), (.tmp 55), (.tmp 57)]), none⟩,
             ⟨(some 52), (.mv (.tmp 58)), none⟩,
             ⟨(some 59), (.ext (.tmp 52) 0), none⟩,
             ⟨(some 60), (.ext (.tmp 52) 1), none⟩,
             ⟨(some 9), (.mv (.tmp 59)), none⟩,
             ⟨(some 10), (.mv (.tmp 60)), none⟩])
            (.seq
             (.seq
              (.region false [⟨(some 61), (.mv (.tmp 10)), none⟩,
               ⟨(some 62), (.bin .neq (.tmp 61) (.const (it 0))), none⟩])
              (.cond (.tmp 62)
               (.seq
                (.region false [⟨(some 63), (.mv (.tmp 0)), none⟩,
                 ⟨(some 64), (.mv (.tmp 10)), none⟩,
                 ⟨(some 4), (.mv (.tmp 63)), none⟩,
                 ⟨(some 5), (.mv (.const (.slice none 0 0))), none⟩,
                 ⟨(some 6), (.mv (.tmp 64)), none⟩])
                .ret)
               .skip))
             (.seq
              (.region false [⟨(some 65), (.mv (.tmp 9)), none⟩,
               ⟨(some 4), (.mv (.tmp 65)), none⟩,
               ⟨(some 5), (.mv (.const (.slice none 0 0))), none⟩,
               ⟨(some 6), (.mv (.const (it 0))), none⟩])
              .ret)))
           (.seq
            (.region false [⟨(some 67), (.bin .eql (.tmp 30) (.const (u8 4#8))), none⟩,
             ⟨(some 66), (.mv (.tmp 67)), none⟩])
            (.cond (.tmp 66)
             (.seq
              (.seq
               (.region false [⟨(some 68), (.faddr S1 (.tmp 3) 1), none⟩,
                ⟨(some 69), (.load LI (.tmp 68)), none⟩,
                ⟨(some 70), (.mv (.tmp 0)), none⟩,
                ⟨(some 71), (.len (.tmp 70)), none⟩,
                ⟨(some 72), (.call 33 [(.tmp 69), (.const (it 1)), (.tmp 71)]), none⟩,
                ⟨(some 73), (.un .not (.tmp 72)), none⟩])
               (.cond (.tmp 73)
                (.seq
                 (.region false [⟨(some 74), (.mv (.tmp 0)), none⟩,
                  ⟨(some 4), (.mv (.tmp 74)), none⟩,
                  ⟨(some 5), (.mv (.const (.slice none 0 0))), none⟩,
                  ⟨(some 6), (.mv (.const (it 9))), none⟩])
                 .ret)
                .skip))
              (.seq
               (.region false [⟨(some 75), (.mv (.tmp 0)), none⟩,
                ⟨(some 76), (.bslice .ref 1 (.raw (.slice none 0 0)) [(0, (.tmp 75))]), none⟩,
                ⟨(some 77), (.call 35 [(.tmp 76)]), none⟩,
                ⟨(some 11), (.mv (.tmp 77)), none⟩])
               (.seq
                (.region true [⟨(some 78), (.mv (.tmp 11)), none⟩,
                 ⟨(some 79), (.faddr S1 (.tmp 3) 1), none⟩,
                 ⟨(some 80), (.load LI (.tmp 79)), none⟩,
                 ⟨(some 81), (.iaddrs L8 (.tmp 78) (.tmp 80)), none⟩,
                 ⟨(some 82), (.load L8 (.tmp 81)), none⟩,
                 ⟨(some 83), (.faddr S1 (.tmp 3) 2), none⟩,
                 ⟨(some 84), (.load LI (.tmp 83)), none⟩,
                 ⟨(some 85), (.conv .u8 (.tmp 84)), none⟩,
                 ⟨(some 86), (.bin .xor (.tmp 82) (.tmp 85)), none⟩,
                 ⟨(some 87), (.iaddrs L8 (.tmp 78) (.tmp 80)), none⟩,
                 ⟨none, (.store L8 (.tmp 87) (.tmp 86)), none⟩])
                (.seq
                 (.region false [⟨(some 88), (.mv (.tmp 11)), none⟩,
                  ⟨(some 4), (.mv (.tmp 88)), none⟩,
                  ⟨(some 5), (.mv (.const (.slice none 0 0))), none⟩,
                  ⟨(some 6), (.mv (.const (it 0))), none⟩])
                 .ret))))
             .skip))))))))
     (.seq
      (.seq
       (.region false [⟨(some 89), (.mv (.tmp 8)), none⟩,
        ⟨(some 90), (.un .not (.tmp 89)), none⟩])
       (.cond (.tmp 90)
        (.seq
         (.region false [⟨(some 91), (.mv (.tmp 0)), none⟩,
          ⟨(some 4), (.mv (.tmp 91)), none⟩,
          ⟨(some 5), (.mv (.const (.slice none 0 0))), none⟩,
          ⟨(some 6), (.mv (.const (it 9))), none⟩])
         .ret)
        .skip))
      (.seq
       (.region false [⟨(some 92), (.mv (.tmp 0)), none⟩,
        ⟨(some 93), (.faddr S1 (.tmp 3) 1), none⟩,
        ⟨(some 94), (.load LI (.tmp 93)), none⟩,
        ⟨(some 95), (.bin .mul (.const (it 256)) (.tmp 94)), none⟩,
        ⟨(some 96), (.slice L8 (.tmp 92) (some (.tmp 95)) none none), none⟩,
        ⟨(some 97), (.call 17 [(.tmp 96), (.const (it 256))]), none⟩,
        ⟨(some 12), (.mv (.tmp 97)), none⟩])
       (.seq
        (.seq
         (.region false [⟨(some 98), (.faddr S1 (.tmp 3) 0), none⟩,
          ⟨(some 99), (.load L8 (.tmp 98)), none⟩,
          ⟨(some 100), (.bin .rem (.tmp 99) (.const (u8 6#8))), none⟩])
         (.block 1
          (.seq
           (.region false [⟨(some 146), (.bin .eql (.tmp 100) (.const (u8 1#8))), none⟩,
            ⟨(some 145), (.mv (.tmp 146)), none⟩])
           (.cond (.tmp 145)
            (.region false [⟨(some 147), (.call 21 [(.const (it 1))]), none⟩,
             ⟨(some 12), (.mv (.tmp 147)), none⟩])
            (.seq
             (.region false [⟨(some 149), (.bin .eql (.tmp 100) (.const (u8 5#8))), none⟩,
              ⟨(some 148), (.mv (.tmp 149)), none⟩])
             (.cond (.tmp 148)
              (.seq
               (.seq
                (.region false [⟨(some 150), (.faddr S1 (.tmp 3) 3), none⟩,
                 ⟨(some 151), (.load .ref (.tmp 150)), none⟩,
                 ⟨(some 152), (.len (.tmp 151)), none⟩,
                 ⟨(some 153), (.bin .eql (.tmp 152) (.const (it 0))), none⟩])
                (.cond (.tmp 153)
                 (.seq
                  (.region false [⟨(some 154), (.mv (.tmp 0)), none⟩,
                   ⟨(some 155), (.call 21 [(.const (it 1))]), none⟩,
                   ⟨(some 4), (.mv (.tmp 154)), none⟩,
                   ⟨(some 5), (.mv (.tmp 155)), none⟩,
                   ⟨(some 6), (.mv (.const (it 0))), none⟩])
                  .ret)
                 .skip))
               (.seq
                (.region false [⟨(some 157), (.mv (.tmp 12)), none⟩,
                 ⟨(some 158), (.faddr S1 (.tmp 3) 2), none⟩,
                 ⟨(some 159), (.load LI (.tmp 158)), none⟩,
                 ⟨(some 160), (.faddr S1 (.tmp 3) 3), none⟩,
                 ⟨(some 161), (.load .ref (.tmp 160)), none⟩,
                 ⟨(some 162), (.call 34 [(.tmp 157), (.tmp 159), (.tmp 161)]), none⟩,
                 ⟨(some 156), (.mv (.tmp 162)), none⟩,
                 ⟨(some 163), (.ext (.tmp 156) 0), none⟩,
                 ⟨(some 164), (.ext (.tmp 156) 1), none⟩,
                 ⟨(some 13), (.mv (.tmp 163)), none⟩,
                 ⟨(some 14), (.mv (.tmp 164)), none⟩])
                (.seq
                 (.region false [⟨(some 165), (.mv (.tmp 0)), none⟩,
                  ⟨(some 166), (.mv (.tmp 13)), none⟩,
                  ⟨(some 167), (.mv (.tmp 14)), none⟩,
                  ⟨(some 4), (.mv (.tmp 165)), none⟩,
                  ⟨(some 5), (.mv (.tmp 166)), none⟩,
                  ⟨(some 6), (.mv (.tmp 167)), none⟩])
                 .ret)))
              (.seq
               (.region false [⟨(some 15), (.mv (.const (it 0))), none⟩])
               (.block 2
                (.loop
                 (.seq
                  (.seq
                   (.region false [⟨(some 101), (.mv (.tmp 15)), none⟩,
                    ⟨(some 102), (.bin .lss (.tmp 101) (.const (it 256))), none⟩,
                    ⟨(some 103), (.mv (.tmp 102)), none⟩,
                    ⟨(some 104), (.mv (.tmp 15)), some (103, true)⟩,
                    ⟨(some 105), (.faddr S1 (.tmp 3) 3), some (103, true)⟩,
                    ⟨(some 106), (.load .ref (.tmp 105)), some (103, true)⟩,
                    ⟨(some 107), (.len (.tmp 106)), some (103, true)⟩,
                    ⟨(some 108), (.bin .lss (.tmp 104) (.tmp 107)), some (103, true)⟩,
                    ⟨(some 109), (.pick (.tmp 103) (.tmp 108) (.const (.bool false))), none⟩,
                    ⟨(some 110), (.mv (.tmp 109)), none⟩,
                    ⟨(some 111), (.mv (.tmp 15)), some (110, true)⟩,
                    ⟨(some 112), (.faddr S1 (.tmp 3) 4), some (110, true)⟩,
                    ⟨(some 113), (.load .ref (.tmp 112)), some (110, true)⟩,
                    ⟨(some 114), (.len (.tmp 113)), some (110, true)⟩,
                    ⟨(some 115), (.bin .lss (.tmp 111) (.tmp 114)), some (110, true)⟩,
                    ⟨(some 116), (.pick (.tmp 110) (.tmp 115) (.const (.bool false))), none⟩])
                   (.cond (.tmp 116)
                    .skip
                    (.exit 2)))
                  (.seq
                   (.block 3
                    (.region true [⟨(some 119), (.mv (.tmp 12)), none⟩,
                     ⟨(some 120), (.mv (.tmp 15)), none⟩,
                     ⟨(some 121), (.faddr S1 (.tmp 3) 4), none⟩,
                     ⟨(some 122), (.load .ref (.tmp 121)), none⟩,
                     ⟨(some 123), (.mv (.tmp 15)), none⟩,
                     ⟨(some 124), (.iaddrs L8 (.tmp 122) (.tmp 123)), none⟩,
                     ⟨(some 125), (.load L8 (.tmp 124)), none⟩,
                     ⟨(some 126), (.faddr S1 (.tmp 3) 3), none⟩,
                     ⟨(some 127), (.load .ref (.tmp 126)), none⟩,
                     ⟨(some 128), (.mv (.tmp 15)), none⟩,
                     ⟨(some 129), (.iaddrs L8 (.tmp 127) (.tmp 128)), none⟩,
                     ⟨(some 130), (.load L8 (.tmp 129)), none⟩,
                     ⟨(some 131), (.bin .and (.tmp 125) (.tmp 130)), none⟩,
                     ⟨(some 132), (.faddr S1 (.tmp 3) 4), none⟩,
                     ⟨(some 133), (.load .ref (.tmp 132)), none⟩,
                     ⟨(some 134), (.mv (.tmp 15)), none⟩,
                     ⟨(some 135), (.iaddrs L8 (.tmp 133) (.tmp 134)), none⟩,
                     ⟨(some 136), (.load L8 (.tmp 135)), none⟩,
                     ⟨(some 137), (.bin .sub (.const (u8 255#8)) (.tmp 136)), none⟩,
                     ⟨(some 138), (.mv (.tmp 12)), none⟩,
                     ⟨(some 139), (.mv (.tmp 15)), none⟩,
                     ⟨(some 140), (.iaddrs L8 (.tmp 138) (.tmp 139)), none⟩,
                     ⟨(some 141), (.load L8 (.tmp 140)), none⟩,
                     ⟨(some 142), (.bin .and (.tmp 137) (.tmp 141)), none⟩,
                     ⟨(some 143), (.bin .or (.tmp 131) (.tmp 142)), none⟩,
                     ⟨(some 144), (.iaddrs L8 (.tmp 119) (.tmp 120)), none⟩,
                     ⟨none, (.store L8 (.tmp 144) (.tmp 143)), none⟩]))
                   (.region false [⟨(some 117), (.mv (.tmp 15)), none⟩,
                    ⟨(some 118), (.bin .add (.tmp 117) (.const (it 1))), none⟩,
                    ⟨(some 15), (.mv (.tmp 118)), none⟩]))))))))))))
        (.seq
         (.region true [⟨(some 168), (.mv (.tmp 0)), none⟩,
          ⟨(some 169), (.faddr S1 (.tmp 3) 1), none⟩,
          ⟨(some 170), (.load LI (.tmp 169)), none⟩,
          ⟨(some 171), (.bin .mul (.const (it 256)) (.tmp 170)), none⟩,
          ⟨(some 172), (.slice L8 (.tmp 168) none (some (.tmp 171)) none), none⟩,
          ⟨(some 173), (.mv (.tmp 12)), none⟩,
          ⟨(some 174), (.mv (.tmp 0)), none⟩,
          ⟨(some 175), (.faddr S1 (.tmp 3) 1), none⟩,
          ⟨(some 176), (.load LI (.tmp 175)), none⟩,
          ⟨(some 177), (.bin .mul (.const (it 256)) (.tmp 176)), none⟩,
          ⟨(some 178), (.bin .add (.tmp 177) (.const (it 256))), none⟩,
          ⟨(some 179), (.slice L8 (.tmp 174) (some (.tmp 178)) none none), none⟩,
          ⟨(some 180), (.bslice .ref 3 (.raw (.slice none 0 0)) [(0, (.tmp 172)), (1, (.tmp 173)), (2, (.tmp 179))]), none⟩,
          ⟨(some 181), (.call 35 [(.tmp 180)]), none⟩,
          ⟨(some 4), (.mv (.tmp 181)), none⟩,
          ⟨(some 5), (.mv (.const (.slice none 0 0))), none⟩,
          ⟨(some 6), (.mv (.const (it 0))), none⟩])
         .ret))))))))
def r_ref12_Do : List ARes := [(.tmp 4), (.tmp 5), (.tmp 6)]
theorem c_ref12_Do : o2 Go.Proofs.Try.f30.body (comp Go.Proofs.Try.prog Go.Proofs.Try.f30.ntmps) = some a_ref12_Do := by kernel_rfl
theorem s_ref12_Do : cRess Go.Proofs.Try.prog Go.Proofs.Try.f30.results.toList = some r_ref12_Do := by kernel_rfl
theorem m_ref12_Do (C : Ctx) (hC : CtxOK C Go.Proofs.Try.prog) : Meets C.glob Go.Proofs.Try.prog 30 (afun C 2 r_ref12_Do a_ref12_Do) :=
  fn_sound hC Go.Proofs.Try.func30 c_ref12_Do s_ref12_Do (Nat.le_of_ble_eq_true (by kernel_rfl))

/-- math/bits.Mul -/
def a_math_bits_Mul : ACode :=
 (.seq
  (.region false [⟨(some 4), (.mv (.const (u64 0#64))), none⟩,
   ⟨(some 5), (.mv (.const (u64 0#64))), none⟩])
  (.seq
   (.cond (.const (.bool false))
    (.seq
     (.region false [⟨(some 11), (.mv (.tmp 0)), none⟩,
      ⟨(some 12), (.conv .u32 (.tmp 11)), none⟩,
      ⟨(some 13), (.mv (.tmp 1)), none⟩,
      ⟨(some 14), (.conv .u32 (.tmp 13)), none⟩,
      ⟨(some 15), (.call 36 [(.tmp 12), (.tmp 14)]), none⟩,
      ⟨(some 10), (.mv (.tmp 15)), none⟩,
      ⟨(some 16), (.ext (.tmp 10) 0), none⟩,
      ⟨(some 17), (.ext (.tmp 10) 1), none⟩,
      ⟨(some 6), (.mv (.tmp 16)), none⟩,
      ⟨(some 7), (.mv (.tmp 17)), none⟩])
     (.seq
      (.region false [⟨(some 18), (.mv (.tmp 6)), none⟩,
       ⟨(some 19), (.conv .u64 (.tmp 18)), none⟩,
       ⟨(some 20), (.mv (.tmp 7)), none⟩,
       ⟨(some 21), (.conv .u64 (.tmp 20)), none⟩,
       ⟨(some 4), (.mv (.tmp 19)), none⟩,
       ⟨(some 5), (.mv (.tmp 21)), none⟩])
      .ret))
    .skip)
   (.seq
    (.region false [⟨(some 23), (.mv (.tmp 0)), none⟩,
     ⟨(some 24), (.mv (.tmp 1)), none⟩,
     ⟨(some 25), (.call 37 [(.tmp 23), (.tmp 24)]), none⟩,
     ⟨(some 22), (.mv (.tmp 25)), none⟩,
     ⟨(some 26), (.ext (.tmp 22) 0), none⟩,
     ⟨(some 27), (.ext (.tmp 22) 1), none⟩,
     ⟨(some 8), (.mv (.tmp 26)), none⟩,
     ⟨(some 9), (.mv (.tmp 27)), none⟩])
    (.seq
     (.region false [⟨(some 28), (.mv (.tmp 8)), none⟩,
      ⟨(some 29), (.mv (.tmp 9)), none⟩,
      ⟨(some 4), (.mv (.tmp 28)), none⟩,
      ⟨(some 5), (.mv (.tmp 29)), none⟩])
     .ret))))
def r_math_bits_Mul : List ARes := [(.tmp 4), (.tmp 5)]
theorem c_math_bits_Mul : o2 Go.Proofs.Try.f31.body (comp Go.Proofs.Try.prog Go.Proofs.Try.f31.ntmps) = some a_math_bits_Mul := by kernel_rfl
theorem s_math_bits_Mul : cRess Go.Proofs.Try.prog Go.Proofs.Try.f31.results.toList = some r_math_bits_Mul := by kernel_rfl
theorem m_math_bits_Mul (C : Ctx) (hC : CtxOK C Go.Proofs.Try.prog) : Meets C.glob Go.Proofs.Try.prog 31 (afun C 2 r_math_bits_Mul a_math_bits_Mul) :=
  fn_sound hC Go.Proofs.Try.func31 c_math_bits_Mul s_math_bits_Mul (Nat.le_of_ble_eq_true (by kernel_rfl))

/-- curtilage/curtilageref12.in -/
def a_ref12_in : ACode :=
 (.seq
  (.region false [⟨(some 6), (.mv (.const (.bool false))), none⟩])
  (.seq
   (.region false [⟨(some 7), (.mv (.tmp 0)), none⟩,
    ⟨(some 8), (.bin .geq (.tmp 7) (.const (it 0))), none⟩,
    ⟨(some 9), (.mv (.tmp 8)), none⟩,
    ⟨(some 10), (.mv (.tmp 1)), some (9, true)⟩,
    ⟨(some 11), (.bin .geq (.tmp 10) (.const (it 0))), some (9, true)⟩,
    ⟨(some 12), (.pick (.tmp 9) (.tmp 11) (.const (.bool false))), none⟩,
    ⟨(some 13), (.mv (.tmp 12)), none⟩,
    ⟨(some 14), (.mv (.tmp 0)), some (13, true)⟩,
    ⟨(some 15), (.mv (.tmp 2)), some (13, true)⟩,
    ⟨(some 16), (.bin .leq (.tmp 14) (.tmp 15)), some (13, true)⟩,
    ⟨(some 17), (.pick (.tmp 13) (.tmp 16) (.const (.bool false))), none⟩,
    ⟨(some 18), (.mv (.tmp 17)), none⟩,
    ⟨(some 19), (.mv (.tmp 1)), some (18, true)⟩,
    ⟨(some 20), (.mv (.tmp 2)), some (18, true)⟩,
    ⟨(some 21), (.mv (.tmp 0)), some (18, true)⟩,
    ⟨(some 22), (.bin .sub (.tmp 20) (.tmp 21)), some (18, true)⟩,
    ⟨(some 23), (.bin .leq (.tmp 19) (.tmp 22)), some (18, true)⟩,
    ⟨(some 24), (.pick (.tmp 18) (.tmp 23) (.const (.bool false))), none⟩,
    ⟨(some 6), (.mv (.tmp 24)), none⟩])
   .ret))
def r_ref12_in : List ARes := [(.tmp 6)]
theorem c_ref12_in : o2 Go.Proofs.Try.f33.body (comp Go.Proofs.Try.prog Go.Proofs.Try.f33.ntmps) = some a_ref12_in := by kernel_rfl
theorem s_ref12_in : cRess Go.Proofs.Try.prog Go.Proofs.Try.f33.results.toList = some r_ref12_in := by kernel_rfl
theorem m_ref12_in (C : Ctx) (hC : CtxOK C Go.Proofs.Try.prog) : Meets C.glob Go.Proofs.Try.prog 33 (afun C 3 r_ref12_in a_ref12_in) :=
  fn_sound hC Go.Proofs.Try.func33 c_ref12_in s_ref12_in (Nat.le_of_ble_eq_true (by kernel_rfl))

/-- curtilage/curtilageref12.lay -/
def a_ref12_lay : ACode :=
 (.seq
  (.region false [⟨(some 6), (.mv (.const (.slice none 0 0))), none⟩,
   ⟨(some 7), (.mv (.const (it 0))), none⟩])
  (.seq
   (.seq
    (.region false [⟨(some 11), (.mv (.tmp 1)), none⟩,
     ⟨(some 12), (.mv (.tmp 2)), none⟩,
     ⟨(some 13), (.len (.tmp 12)), none⟩,
     ⟨(some 14), (.mv (.tmp 0)), none⟩,
     ⟨(some 15), (.len (.tmp 14)), none⟩,
     ⟨(some 16), (.call 33 [(.tmp 11), (.tmp 13), (.tmp 15)]), none⟩,
     ⟨(some 17), (.un .not (.tmp 16)), none⟩])
    (.cond (.tmp 17)
     (.seq
      (.region false [⟨(some 6), (.mv (.const (.slice none 0 0))), none⟩,
       ⟨(some 7), (.mv (.const (it 9))), none⟩])
      .ret)
     .skip))
   (.seq
    (.region false [⟨(some 18), (.mv (.tmp 0)), none⟩,
     ⟨(some 19), (.bslice .ref 1 (.raw (.slice none 0 0)) [(0, (.tmp 18))]), none⟩,
     ⟨(some 20), (.call 35 [(.tmp 19)]), none⟩,
     ⟨(some 8), (.mv (.tmp 20)), none⟩])
    (.seq
     (.seq
      (.region false [⟨(some 21), (.mv (.tmp 2)), none⟩,
       ⟨(some 22), (.len (.tmp 21)), none⟩,
       ⟨(some 23), (.mv (.const (it 0))), none⟩])
      (.block 0
       (.loop
        (.seq
         (.region false [⟨(some 24), (.bin .lss (.tmp 23) (.tmp 22)), none⟩])
         (.seq
          (.cond (.tmp 24)
           .skip
           (.exit 0))
          (.seq
           (.block 1
            (.seq
             (.region false [⟨(some 25), (.mv (.tmp 23)), none⟩,
              ⟨(some 26), (.iaddrs L8 (.tmp 21) (.tmp 23)), none⟩,
              ⟨(some 27), (.load L8 (.tmp 26)), none⟩,
              ⟨(some 9), (.mv (.tmp 25)), none⟩,
              ⟨(some 10), (.mv (.tmp 27)), none⟩])
             (.seq
              (.seq
               (.region false [⟨(some 28), (.mv (.tmp 10)), none⟩,
                ⟨(some 29), (.mv (.tmp 0)), none⟩,
                ⟨(some 30), (.mv (.tmp 1)), none⟩,
                ⟨(some 31), (.mv (.tmp 9)), none⟩,
                ⟨(some 32), (.bin .add (.tmp 30) (.tmp 31)), none⟩,
                ⟨(some 33), (.iaddrs L8 (.tmp 29) (.tmp 32)), none⟩,
                ⟨(some 34), (.load L8 (.tmp 33)), none⟩,
                ⟨(some 35), (.bin .and (.tmp 28) (.tmp 34)), none⟩,
                ⟨(some 36), (.mv (.tmp 10)), none⟩,
                ⟨(some 37), (.bin .neq (.tmp 35) (.tmp 36)), none⟩])
               (.cond (.tmp 37)
                (.seq
                 (.region false [⟨(some 6), (.mv (.const (.slice none 0 0))), none⟩,
                  ⟨(some 7), (.mv (.const (it 14))), none⟩])
                 .ret)
                .skip))
              (.region false [⟨(some 38), (.mv (.tmp 8)), none⟩,
               ⟨(some 39), (.mv (.tmp 1)), none⟩,
               ⟨(some 40), (.mv (.tmp 9)), none⟩,
               ⟨(some 41), (.bin .add (.tmp 39) (.tmp 40)), none⟩,
               ⟨(some 42), (.mv (.tmp 10)), none⟩,
               ⟨(some 43), (.iaddrs L8 (.tmp 38) (.tmp 41)), none⟩,
               ⟨none, (.store L8 (.tmp 43) (.tmp 42)), none⟩]))))
           (.region false [⟨(some 44), (.bin .add (.tmp 23) (.const (it 1))), none⟩,
            ⟨(some 23), (.mv (.tmp 44)), none⟩])))))))
     (.seq
      (.region false [⟨(some 45), (.mv (.tmp 8)), none⟩,
       ⟨(some 6), (.mv (.tmp 45)), none⟩,
       ⟨(some 7), (.mv (.const (it 0))), none⟩])
      .ret)))))
def r_ref12_lay : List ARes := [(.tmp 6), (.tmp 7)]
theorem c_ref12_lay : o2 Go.Proofs.Try.f34.body (comp Go.Proofs.Try.prog Go.Proofs.Try.f34.ntmps) = some a_ref12_lay := by kernel_rfl
theorem s_ref12_lay : cRess Go.Proofs.Try.prog Go.Proofs.Try.f34.results.toList = some r_ref12_lay := by kernel_rfl
theorem m_ref12_lay (C : Ctx) (hC : CtxOK C Go.Proofs.Try.prog) : Meets C.glob Go.Proofs.Try.prog 34 (afun C 3 r_ref12_lay a_ref12_lay) :=
  fn_sound hC Go.Proofs.Try.func34 c_ref12_lay s_ref12_lay (Nat.le_of_ble_eq_true (by kernel_rfl))

/-- curtilage/curtilageref01.Join -/
def a_ref01_Join : ACode :=
 (.seq
  (.region false [⟨(some 2), (.mv (.const (.slice none 0 0))), none⟩])
  (.seq
   (.region false [⟨(some 3), (.mv (.const (.slice none 0 0))), none⟩])
   (.seq
    (.seq
     (.region false [⟨(some 6), (.mv (.tmp 0)), none⟩,
      ⟨(some 7), (.len (.tmp 6)), none⟩,
      ⟨(some 8), (.mv (.const (it 0))), none⟩])
     (.block 0
      (.loop
       (.seq
        (.region false [⟨(some 9), (.bin .lss (.tmp 8) (.tmp 7)), none⟩])
        (.seq
         (.cond (.tmp 9)
          .skip
          (.exit 0))
         (.seq
          (.block 1
           (.seq
            (.region false [⟨(some 10), (.iaddrs .ref (.tmp 6) (.tmp 8)), none⟩,
             ⟨(some 11), (.load .ref (.tmp 10)), none⟩,
             ⟨(some 5), (.mv (.tmp 11)), none⟩])
            (.region false [⟨(some 12), (.mv (.tmp 3)), none⟩,
             ⟨(some 13), (.mv (.tmp 5)), none⟩,
             ⟨(some 14), (.append L8 1 (.tmp 12) (.tmp 13)), none⟩,
             ⟨(some 3), (.mv (.tmp 14)), none⟩])))
          (.region false [⟨(some 15), (.bin .add (.tmp 8) (.const (it 1))), none⟩,
           ⟨(some 8), (.mv (.tmp 15)), none⟩])))))))
    (.seq
     (.region false [⟨(some 16), (.mv (.tmp 3)), none⟩,
      ⟨(some 2), (.mv (.tmp 16)), none⟩])
     .ret))))
def r_ref01_Join : List ARes := [(.tmp 2)]
theorem c_ref01_Join : o2 Go.Proofs.Try.f35.body (comp Go.Proofs.Try.prog Go.Proofs.Try.f35.ntmps) = some a_ref01_Join := by kernel_rfl
theorem s_ref01_Join : cRess Go.Proofs.Try.prog Go.Proofs.Try.f35.results.toList = some r_ref01_Join := by kernel_rfl
theorem m_ref01_Join (C : Ctx) (hC : CtxOK C Go.Proofs.Try.prog) : Meets C.glob Go.Proofs.Try.prog 35 (afun C 1 r_ref01_Join a_ref01_Join) :=
  fn_sound hC Go.Proofs.Try.func35 c_ref01_Join s_ref01_Join (Nat.le_of_ble_eq_true (by kernel_rfl))

/-- math/bits.Mul32 -/
def a_math_bits_Mul32 : ACode :=
 (.seq
  (.region false [⟨(some 4), (.mv (.const (u32 0#32))), none⟩,
   ⟨(some 5), (.mv (.const (u32 0#32))), none⟩])
  (.seq
   (.region false [⟨(some 7), (.mv (.tmp 0)), none⟩,
    ⟨(some 8), (.conv .u64 (.tmp 7)), none⟩,
    ⟨(some 9), (.mv (.tmp 1)), none⟩,
    ⟨(some 10), (.conv .u64 (.tmp 9)), none⟩,
    ⟨(some 11), (.bin .mul (.tmp 8) (.tmp 10)), none⟩,
    ⟨(some 6), (.mv (.tmp 11)), none⟩])
   (.seq
    (.region false [⟨(some 12), (.mv (.tmp 6)), none⟩,
     ⟨(some 13), (.bin .shr (.tmp 12) (.const (u64 32#64))), none⟩,
     ⟨(some 14), (.conv .u32 (.tmp 13)), none⟩,
     ⟨(some 15), (.mv (.tmp 6)), none⟩,
     ⟨(some 16), (.conv .u32 (.tmp 15)), none⟩,
     ⟨(some 4), (.mv (.tmp 14)), none⟩,
     ⟨(some 5), (.mv (.tmp 16)), none⟩])
    .ret)))
def r_math_bits_Mul32 : List ARes := [(.tmp 4), (.tmp 5)]
theorem c_math_bits_Mul32 : o2 Go.Proofs.Try.f36.body (comp Go.Proofs.Try.prog Go.Proofs.Try.f36.ntmps) = some a_math_bits_Mul32 := by kernel_rfl
theorem s_math_bits_Mul32 : cRess Go.Proofs.Try.prog Go.Proofs.Try.f36.results.toList = some r_math_bits_Mul32 := by kernel_rfl
theorem m_math_bits_Mul32 (C : Ctx) (hC : CtxOK C Go.Proofs.Try.prog) : Meets C.glob Go.Proofs.Try.prog 36 (afun C 2 r_math_bits_Mul32 a_math_bits_Mul32) :=
  fn_sound hC Go.Proofs.Try.func36 c_math_bits_Mul32 s_math_bits_Mul32 (Nat.le_of_ble_eq_true (by kernel_rfl))

/-- math/bits.Mul64 -/
def a_math_bits_Mul64 : ACode :=
 (.seq
  (.region false [⟨(some 4), (.mv (.const (u64 0#64))), none⟩,
   ⟨(some 5), (.mv (.const (u64 0#64))), none⟩])
  (.seq
   (.region false [⟨(some 14), (.mv (.tmp 0)), none⟩,
    ⟨(some 15), (.bin .and (.tmp 14) (.const (u64 4294967295#64))), none⟩,
    ⟨(some 6), (.mv (.tmp 15)), none⟩])
   (.seq
    (.region false [⟨(some 16), (.mv (.tmp 0)), none⟩,
     ⟨(some 17), (.bin .shr (.tmp 16) (.const (u64 32#64))), none⟩,
     ⟨(some 7), (.mv (.tmp 17)), none⟩])
    (.seq
     (.region false [⟨(some 18), (.mv (.tmp 1)), none⟩,
      ⟨(some 19), (.bin .and (.tmp 18) (.const (u64 4294967295#64))), none⟩,
      ⟨(some 8), (.mv (.tmp 19)), none⟩])
     (.seq
      (.region false [⟨(some 20), (.mv (.tmp 1)), none⟩,
       ⟨(some 21), (.bin .shr (.tmp 20) (.const (u64 32#64))), none⟩,
       ⟨(some 9), (.mv (.tmp 21)), none⟩])
      (.seq
       (.region false [⟨(some 22), (.mv (.tmp 6)), none⟩,
        ⟨(some 23), (.mv (.tmp 8)), none⟩,
        ⟨(some 24), (.bin .mul (.tmp 22) (.tmp 23)), none⟩,
        ⟨(some 10), (.mv (.tmp 24)), none⟩])
       (.seq
        (.region false [⟨(some 25), (.mv (.tmp 7)), none⟩,
         ⟨(some 26), (.mv (.tmp 8)), none⟩,
         ⟨(some 27), (.bin .mul (.tmp 25) (.tmp 26)), none⟩,
         ⟨(some 28), (.mv (.tmp 10)), none⟩,
         ⟨(some 29), (.bin .shr (.tmp 28) (.const (u64 32#64))), none⟩,
         ⟨(some 30), (.bin .add (.tmp 27) (.tmp 29)), none⟩,
         ⟨(some 11), (.mv (.tmp 30)), none⟩])
        (.seq
         (.region false [⟨(some 31), (.mv (.tmp 11)), none⟩,
          ⟨(some 32), (.bin .and (.tmp 31) (.const (u64 4294967295#64))), none⟩,
          ⟨(some 12), (.mv (.tmp 32)), none⟩])
         (.seq
          (.region false [⟨(some 33), (.mv (.tmp 11)), none⟩,
           ⟨(some 34), (.bin .shr (.tmp 33) (.const (u64 32#64))), none⟩,
           ⟨(some 13), (.mv (.tmp 34)), none⟩])
          (.seq
           (.region false [⟨(some 35), (.mv (.tmp 12)), none⟩,
            ⟨(some 36), (.mv (.tmp 6)), none⟩,
            ⟨(some 37), (.mv (.tmp 9)), none⟩,
            ⟨(some 38), (.bin .mul (.tmp 36) (.tmp 37)), none⟩,
            ⟨(some 39), (.bin .add (.tmp 35) (.tmp 38)), none⟩,
            ⟨(some 12), (.mv (.tmp 39)), none⟩])
           (.seq
            (.region false [⟨(some 40), (.mv (.tmp 7)), none⟩,
             ⟨(some 41), (.mv (.tmp 9)), none⟩,
             ⟨(some 42), (.bin .mul (.tmp 40) (.tmp 41)), none⟩,
             ⟨(some 43), (.mv (.tmp 13)), none⟩,
             ⟨(some 44), (.bin .add (.tmp 42) (.tmp 43)), none⟩,
             ⟨(some 45), (.mv (.tmp 12)), none⟩,
             ⟨(some 46), (.bin .shr (.tmp 45) (.const (u64 32#64))), none⟩,
             ⟨(some 47), (.bin .add (.tmp 44) (.tmp 46)), none⟩,
             ⟨(some 4), (.mv (.tmp 47)), none⟩])
            (.seq
             (.region false [⟨(some 48), (.mv (.tmp 0)), none⟩,
              ⟨(some 49), (.mv (.tmp 1)), none⟩,
              ⟨(some 50), (.bin .mul (.tmp 48) (.tmp 49)), none⟩,
              ⟨(some 5), (.mv (.tmp 50)), none⟩])
             .ret))))))))))))
def r_math_bits_Mul64 : List ARes := [(.tmp 4), (.tmp 5)]
theorem c_math_bits_Mul64 : o2 Go.Proofs.Try.f37.body (comp Go.Proofs.Try.prog Go.Proofs.Try.f37.ntmps) = some a_math_bits_Mul64 := by kernel_rfl
theorem s_math_bits_Mul64 : cRess Go.Proofs.Try.prog Go.Proofs.Try.f37.results.toList = some r_math_bits_Mul64 := by kernel_rfl
theorem m_math_bits_Mul64 (C : Ctx) (hC : CtxOK C Go.Proofs.Try.prog) : Meets C.glob Go.Proofs.Try.prog 37 (afun C 2 r_math_bits_Mul64 a_math_bits_Mul64) :=
  fn_sound hC Go.Proofs.Try.func37 c_math_bits_Mul64 s_math_bits_Mul64 (Nat.le_of_ble_eq_true (by kernel_rfl))

end Go.Am.F
