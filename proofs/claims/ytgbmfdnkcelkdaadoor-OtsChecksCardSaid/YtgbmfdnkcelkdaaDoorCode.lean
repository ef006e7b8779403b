/- The functions as the abstract machine has them: printed. -/
import Derived.Test.YtgbmfdnkcelkdaaDoorProg
import Derived.Test.YtgbmfdnkcelkdaaDoorAm24
namespace Go.Am.F
set_option linter.unusedVariables false
set_option linter.unusedSimpArgs false
abbrev S1 : Sh := .cons LI (.cons LI (.cons LI .nil))
abbrev S2 : Sh := .cons (.ar 16 L8) (.cons L32 .nil)
abbrev S3 : Sh := .cons (.ar 8 L32) (.cons (.ar 64 L8) (.cons L64 .nil))
/-- gosem.cut.init -/
def a_gosem_cut_init : ACode :=
 (.region false [⟨(some 0), .fail, none⟩])
def r_gosem_cut_init : List ARes := []
theorem c_gosem_cut_init : o2 Go.Proofs.Tryd.f2.body (comp Go.Proofs.Tryd.prog Go.Proofs.Tryd.f2.ntmps) = some a_gosem_cut_init := by kernel_rfl
theorem s_gosem_cut_init : cRess Go.Proofs.Tryd.prog Go.Proofs.Tryd.f2.results.toList = some r_gosem_cut_init := by kernel_rfl
theorem m_gosem_cut_init (C : Ctx) (hC : CtxOK C Go.Proofs.Tryd.prog) : Meets C.glob Go.Proofs.Tryd.prog 2 (afun C 0 r_gosem_cut_init a_gosem_cut_init) :=
  fn_sound hC Go.Proofs.Tryd.func2 c_gosem_cut_init s_gosem_cut_init (Nat.le_of_ble_eq_true (by kernel_rfl))

/-- curtilage/curtilagelaw05.OtsDigits -/
def a_law05_OtsDigits : ACode :=
 (.seq
  (.region false [⟨(some 6), (.box (.ar 32 L8) (.tmp 1)), none⟩,
   ⟨(some 10), (.mv (.const (.bool false))), none⟩])
  (.seq
   (.seq
    (.region false [⟨(some 20), (.call 9 []), none⟩,
     ⟨(some 21), (.un .not (.tmp 20)), none⟩])
    (.cond (.tmp 21)
     (.seq
      (.region false [⟨(some 10), (.mv (.const (.bool false))), none⟩])
      .ret)
     .skip))
   (.seq
    (.seq
     (.region false [⟨(some 22), (.mv (.tmp 0)), none⟩,
      ⟨(some 23), (.bin .gtr (.tmp 22) (.const (u32 9#32))), none⟩])
     (.cond (.tmp 23)
      (.region false [⟨(some 24), (.mv (.tmp 0)), none⟩,
       ⟨(some 25), (.bin .rem (.tmp 24) (.const (u32 9#32))), none⟩,
       ⟨(some 0), (.mv (.tmp 25)), none⟩])
      .skip))
    (.seq
     (.region false [⟨(some 27), (.mv (.tmp 0)), none⟩,
      ⟨(some 28), (.call 10 [(.tmp 27)]), none⟩,
      ⟨(some 26), (.mv (.tmp 28)), none⟩,
      ⟨(some 29), (.ext (.tmp 26) 0), none⟩,
      ⟨(some 30), (.ext (.tmp 26) 1), none⟩,
      ⟨(some 31), (.ext (.tmp 26) 2), none⟩,
      ⟨(some 11), (.mv (.tmp 29)), none⟩,
      ⟨(some 12), (.mv (.tmp 30)), none⟩,
      ⟨(some 13), (.mv (.tmp 31)), none⟩])
     (.seq
      (.region false [⟨(some 33), (.mv (.tmp 0)), none⟩,
       ⟨(some 34), (.call 11 [(.tmp 33)]), none⟩,
       ⟨(some 32), (.mv (.tmp 34)), none⟩,
       ⟨(some 35), (.ext (.tmp 32) 0), none⟩,
       ⟨(some 36), (.ext (.tmp 32) 1), none⟩,
       ⟨(some 14), (.alloc S1 (.agg S1 [(.raw (it 0)), (.raw (it 0)), (.raw (it 0))])), none⟩,
       ⟨none, (.store S1 (.tmp 14) (.tmp 35)), none⟩,
       ⟨(some 15), (.mv (.tmp 36)), none⟩])
      (.seq
       (.seq
        (.region false [⟨(some 37), (.mv (.tmp 15)), none⟩,
         ⟨(some 38), (.mv (.tmp 11)), none⟩,
         ⟨(some 39), (.bin .gtr (.tmp 38) (.const (it 0))), none⟩,
         ⟨(some 40), (.beq true (.tmp 37) (.tmp 39)), none⟩,
         ⟨(some 41), (.mv (.tmp 40)), none⟩,
         ⟨(some 42), (.load S1 (.tmp 14)), some (41, false)⟩,
         ⟨(some 43), (.mv (.tmp 11)), some (41, false)⟩,
         ⟨(some 44), (.mv (.tmp 12)), some (41, false)⟩,
         ⟨(some 45), (.mv (.tmp 13)), some (41, false)⟩,
         ⟨(some 46), (.build S1 [(.raw (it 0)), (.raw (it 0)), (.raw (it 0))] [(0, (.tmp 43)), (1, (.tmp 44)), (2, (.tmp 45))]), some (41, false)⟩,
         ⟨(some 47), (.eqa S1 true (.tmp 42) (.tmp 46)), some (41, false)⟩,
         ⟨(some 48), (.pick (.tmp 41) (.const (.bool true)) (.tmp 47)), none⟩])
        (.cond (.tmp 48)
         (.seq
          (.region false [⟨(some 10), (.mv (.const (.bool false))), none⟩])
          .ret)
         .skip))
       (.seq
        (.draw1 [⟨(some 49), (.mv (.tmp 0)), none⟩,
         ⟨(some 50), (.load (.ar 32 L8) (.tmp 6)), none⟩,
         ⟨(some 51), (.call 12 [(.tmp 49), (.tmp 50)]), none⟩,
         ⟨(some 52), (.mv (.tmp 0)), none⟩,
         ⟨(some 53), (.load (.ar 32 L8) (.tmp 6)), none⟩]
         [⟨(some 54), (.call 13 [(.tmp 52), (.tmp 53)]), none⟩,
         ⟨(some 16), (.mv (.tmp 51)), none⟩,
         ⟨(some 17), (.mv (.tmp 54)), none⟩])
        (.seq
         (.seq
          (.region false [⟨(some 55), (.mv (.tmp 16)), none⟩,
           ⟨(some 56), (.len (.tmp 55)), none⟩,
           ⟨(some 57), (.mv (.tmp 17)), none⟩,
           ⟨(some 58), (.len (.tmp 57)), none⟩,
           ⟨(some 59), (.bin .neq (.tmp 56) (.tmp 58)), none⟩])
          (.cond (.tmp 59)
           (.seq
            (.region false [⟨(some 10), (.mv (.const (.bool false))), none⟩])
            .ret)
           .skip))
         (.seq
          (.seq
           (.region false [⟨(some 60), (.mv (.tmp 16)), none⟩,
            ⟨(some 61), (.len (.tmp 60)), none⟩,
            ⟨(some 62), (.mv (.const (it 0))), none⟩])
           (.block 0
            (.loop
             (.seq
              (.region false [⟨(some 63), (.bin .lss (.tmp 62) (.tmp 61)), none⟩])
              (.seq
               (.cond (.tmp 63)
                .skip
                (.exit 0))
               (.seq
                (.block 1
                 (.seq
                  (.region false [⟨(some 64), (.mv (.tmp 62)), none⟩,
                   ⟨(some 18), (.mv (.tmp 64)), none⟩])
                  (.seq
                   (.region true [⟨(some 65), (.mv (.tmp 16)), none⟩,
                    ⟨(some 66), (.mv (.tmp 18)), none⟩,
                    ⟨(some 67), (.iaddrs LI (.tmp 65) (.tmp 66)), none⟩,
                    ⟨(some 68), (.load LI (.tmp 67)), none⟩,
                    ⟨(some 69), (.mv (.tmp 17)), none⟩,
                    ⟨(some 70), (.mv (.tmp 18)), none⟩,
                    ⟨(some 71), (.iaddrs LI (.tmp 69) (.tmp 70)), none⟩,
                    ⟨(some 72), (.load LI (.tmp 71)), none⟩,
                    ⟨(some 73), (.bin .neq (.tmp 68) (.tmp 72)), none⟩])
                   (.cond (.tmp 73)
                    (.seq
                     (.region false [⟨(some 10), (.mv (.const (.bool false))), none⟩])
                     .ret)
                    .skip))))
                (.region false [⟨(some 74), (.bin .add (.tmp 62) (.const (it 1))), none⟩,
                 ⟨(some 62), (.mv (.tmp 74)), none⟩])))))))
          (.seq
           (.region false [⟨(some 75), (.mv (.tmp 2)), none⟩,
            ⟨(some 76), (.call 14 [(.tmp 75), (.const (it 40))]), none⟩,
            ⟨(some 2), (.mv (.tmp 76)), none⟩])
           (.seq
            (.region false [⟨(some 19), (.mv (.const (it 0))), none⟩])
            (.seq
             (.seq
              (.region false [⟨(some 77), (.mv (.tmp 4)), none⟩,
               ⟨(some 78), (.bin .eql (.tmp 77) (.const (it 1))), none⟩,
               ⟨(some 79), (.mv (.tmp 78)), none⟩,
               ⟨(some 80), (.mv (.tmp 4)), some (79, false)⟩,
               ⟨(some 81), (.bin .eql (.tmp 80) (.const (it 2))), some (79, false)⟩,
               ⟨(some 82), (.pick (.tmp 79) (.const (.bool true)) (.tmp 81)), none⟩,
               ⟨(some 83), (.mv (.tmp 82)), none⟩,
               ⟨(some 84), (.mv (.tmp 4)), some (83, false)⟩,
               ⟨(some 85), (.bin .eql (.tmp 84) (.const (it 4))), some (83, false)⟩,
               ⟨(some 86), (.pick (.tmp 83) (.const (.bool true)) (.tmp 85)), none⟩,
               ⟨(some 87), (.mv (.tmp 86)), none⟩,
               ⟨(some 88), (.mv (.tmp 4)), some (87, false)⟩,
               ⟨(some 89), (.bin .eql (.tmp 88) (.const (it 8))), some (87, false)⟩,
               ⟨(some 90), (.pick (.tmp 87) (.const (.bool true)) (.tmp 89)), none⟩,
               ⟨(some 91), (.mv (.tmp 90)), none⟩,
               ⟨(some 92), (.mv (.tmp 3)), some (91, true)⟩,
               ⟨(some 93), (.bin .geq (.tmp 92) (.const (it 0))), some (91, true)⟩,
               ⟨(some 94), (.pick (.tmp 91) (.tmp 93) (.const (.bool false))), none⟩,
               ⟨(some 95), (.mv (.tmp 94)), none⟩,
               ⟨(some 96), (.mv (.tmp 3)), some (95, true)⟩,
               ⟨(some 97), (.mv (.tmp 2)), some (95, true)⟩,
               ⟨(some 98), (.len (.tmp 97)), some (95, true)⟩,
               ⟨(some 99), (.bin .mul (.tmp 98) (.const (it 8))), some (95, true)⟩,
               ⟨(some 100), (.mv (.tmp 4)), some (95, true)⟩,
               ⟨(some 101), (.bin .quo (.tmp 99) (.tmp 100)), some (95, true)⟩,
               ⟨(some 102), (.bin .lss (.tmp 96) (.tmp 101)), some (95, true)⟩,
               ⟨(some 103), (.pick (.tmp 95) (.tmp 102) (.const (.bool false))), none⟩])
              (.cond (.tmp 103)
               (.region false [⟨(some 104), (.mv (.tmp 2)), none⟩,
                ⟨(some 105), (.call 16 [(.tmp 104)]), none⟩,
                ⟨(some 106), (.mv (.tmp 4)), none⟩,
                ⟨(some 107), (.mv (.tmp 3)), none⟩,
                ⟨(some 108), (.bin .add (.tmp 107) (.const (it 1))), none⟩,
                ⟨(some 109), (.call 15 [(.tmp 105), (.tmp 106), (.tmp 108)]), none⟩,
                ⟨(some 110), (.mv (.tmp 3)), none⟩,
                ⟨(some 111), (.iaddrs LI (.tmp 109) (.tmp 110)), none⟩,
                ⟨(some 112), (.load LI (.tmp 111)), none⟩,
                ⟨(some 19), (.mv (.tmp 112)), none⟩])
               .skip))
             (.seq
              (.region false [⟨(some 113), (.mv (.tmp 2)), none⟩,
               ⟨(some 114), (.mv (.tmp 3)), none⟩,
               ⟨(some 115), (.mv (.tmp 4)), none⟩,
               ⟨(some 116), (.call 17 [(.tmp 113), (.tmp 114), (.tmp 115)]), none⟩,
               ⟨(some 117), (.mv (.tmp 19)), none⟩,
               ⟨(some 118), (.bin .eql (.tmp 116) (.tmp 117)), none⟩,
               ⟨(some 10), (.mv (.tmp 118)), none⟩])
              .ret)))))))))))))
def r_law05_OtsDigits : List ARes := [(.tmp 10)]
theorem c_law05_OtsDigits : o2 Go.Proofs.Tryd.f3.body (comp Go.Proofs.Tryd.prog Go.Proofs.Tryd.f3.ntmps) = some a_law05_OtsDigits := by kernel_rfl
theorem s_law05_OtsDigits : cRess Go.Proofs.Tryd.prog Go.Proofs.Tryd.f3.results.toList = some r_law05_OtsDigits := by kernel_rfl
theorem m_law05_OtsDigits (C : Ctx) (hC : CtxOK C Go.Proofs.Tryd.prog) : Meets C.glob Go.Proofs.Tryd.prog 3 (afun C 5 r_law05_OtsDigits a_law05_OtsDigits) :=
  fn_sound hC Go.Proofs.Tryd.func3 c_law05_OtsDigits s_law05_OtsDigits (Nat.le_of_ble_eq_true (by kernel_rfl))

/-- curtilage/curtilagelaw05.OtsChecks -/
def a_law05_OtsChecks : ACode :=
 (.seq
  (.region false [⟨(some 6), (.box (.ar 32 L8) (.tmp 1)), none⟩,
   ⟨(some 7), (.box (.ar 32 L8) (.tmp 2)), none⟩,
   ⟨(some 10), (.mv (.const (.bool false))), none⟩])
  (.seq
   (.seq
    (.region false [⟨(some 20), (.call 9 []), none⟩,
     ⟨(some 21), (.un .not (.tmp 20)), none⟩])
    (.cond (.tmp 21)
     (.seq
      (.region false [⟨(some 10), (.mv (.const (.bool false))), none⟩])
      .ret)
     .skip))
   (.seq
    (.region false [⟨(some 22), (.mv (.tmp 0)), none⟩,
     ⟨(some 23), (.bin .rem (.tmp 22) (.const (u8 4#8))), none⟩,
     ⟨(some 24), (.conv .u32 (.tmp 23)), none⟩,
     ⟨(some 25), (.bin .add (.const (u32 1#32)) (.tmp 24)), none⟩,
     ⟨(some 11), (.mv (.tmp 25)), none⟩])
    (.seq
     (.region false [⟨(some 26), (.load (.ar 32 L8) (.tmp 6)), none⟩,
      ⟨(some 12), (.alloc (.ar 32 L8) (.agg (.ar 32 L8) (List.replicate 32 (.raw (u8 0#8))))), none⟩,
      ⟨none, (.store (.ar 32 L8) (.tmp 12) (.tmp 26)), none⟩])
     (.seq
      (.region false [⟨(some 27), (.mv (.tmp 3)), none⟩,
       ⟨(some 28), (.bin .rem (.tmp 27) (.const (u8 32#8))), none⟩,
       ⟨(some 29), (.iaddra 32 L8 (.tmp 12) (.tmp 28)), none⟩,
       ⟨(some 30), (.load L8 (.tmp 29)), none⟩,
       ⟨(some 31), (.mv (.tmp 4)), none⟩,
       ⟨(some 32), (.bin .xor (.tmp 30) (.tmp 31)), none⟩,
       ⟨(some 33), (.iaddra 32 L8 (.tmp 12) (.tmp 28)), none⟩,
       ⟨none, (.store L8 (.tmp 33) (.tmp 32)), none⟩])
      (.seq
       (.seq
        (.region false [⟨(some 34), (.load (.ar 32 L8) (.tmp 7)), none⟩,
         ⟨(some 35), (.load (.ar 32 L8) (.tmp 12)), none⟩,
         ⟨(some 36), (.bslice (.ar 32 L8) 2 (.agg (.ar 32 L8) (List.replicate 32 (.raw (u8 0#8)))) [(0, (.tmp 34)), (1, (.tmp 35))]), none⟩,
         ⟨(some 37), (.len (.tmp 36)), none⟩,
         ⟨(some 38), (.mv (.const (it 0))), none⟩])
        (.block 0
         (.loop
          (.seq
           (.region false [⟨(some 39), (.bin .lss (.tmp 38) (.tmp 37)), none⟩])
           (.seq
            (.cond (.tmp 39)
             .skip
             (.exit 0))
            (.seq
             (.block 1
              (.seq
               (.region false [⟨(some 40), (.iaddrs (.ar 32 L8) (.tmp 36) (.tmp 38)), none⟩,
                ⟨(some 41), (.load (.ar 32 L8) (.tmp 40)), none⟩,
                ⟨(some 14), (.alloc (.ar 32 L8) (.agg (.ar 32 L8) (List.replicate 32 (.raw (u8 0#8))))), none⟩,
                ⟨none, (.store (.ar 32 L8) (.tmp 14) (.tmp 41)), none⟩])
               (.seq
                (.draw1 [⟨(some 42), (.mv (.tmp 11)), none⟩,
                 ⟨(some 43), (.load (.ar 32 L8) (.tmp 6)), none⟩,
                 ⟨(some 44), (.call 12 [(.tmp 42), (.tmp 43)]), none⟩,
                 ⟨(some 45), (.mv (.tmp 11)), none⟩,
                 ⟨(some 46), (.load (.ar 32 L8) (.tmp 14)), none⟩]
                 [⟨(some 47), (.call 12 [(.tmp 45), (.tmp 46)]), none⟩,
                 ⟨(some 15), (.mv (.tmp 44)), none⟩,
                 ⟨(some 16), (.mv (.tmp 47)), none⟩])
                (.seq
                 (.region false [⟨(some 17), (.mv (.const (.bool false))), none⟩,
                  ⟨(some 18), (.mv (.const (.bool false))), none⟩])
                 (.seq
                  (.seq
                   (.region false [⟨(some 48), (.mv (.tmp 15)), none⟩,
                    ⟨(some 49), (.len (.tmp 48)), none⟩,
                    ⟨(some 50), (.mv (.const (it 0))), none⟩])
                   (.block 2
                    (.loop
                     (.seq
                      (.region false [⟨(some 51), (.bin .lss (.tmp 50) (.tmp 49)), none⟩])
                      (.seq
                       (.cond (.tmp 51)
                        .skip
                        (.exit 2))
                       (.seq
                        (.block 3
                         (.seq
                          (.region false [⟨(some 52), (.mv (.tmp 50)), none⟩,
                           ⟨(some 19), (.mv (.tmp 52)), none⟩])
                          (.seq
                           (.region false [⟨(some 53), (.mv (.tmp 19)), none⟩,
                            ⟨(some 54), (.mv (.tmp 16)), none⟩,
                            ⟨(some 55), (.len (.tmp 54)), none⟩,
                            ⟨(some 56), (.bin .lss (.tmp 53) (.tmp 55)), none⟩])
                           (.cond (.tmp 56)
                            (.seq
                             (.region true [⟨(some 57), (.mv (.tmp 17)), none⟩,
                              ⟨(some 58), (.mv (.tmp 57)), none⟩,
                              ⟨(some 59), (.mv (.tmp 15)), some (58, false)⟩,
                              ⟨(some 60), (.mv (.tmp 19)), some (58, false)⟩,
                              ⟨(some 61), (.iaddrs LI (.tmp 59) (.tmp 60)), some (58, false)⟩,
                              ⟨(some 62), (.load LI (.tmp 61)), some (58, false)⟩,
                              ⟨(some 63), (.mv (.tmp 16)), some (58, false)⟩,
                              ⟨(some 64), (.mv (.tmp 19)), some (58, false)⟩,
                              ⟨(some 65), (.iaddrs LI (.tmp 63) (.tmp 64)), some (58, false)⟩,
                              ⟨(some 66), (.load LI (.tmp 65)), some (58, false)⟩,
                              ⟨(some 67), (.bin .lss (.tmp 62) (.tmp 66)), some (58, false)⟩,
                              ⟨(some 68), (.pick (.tmp 58) (.const (.bool true)) (.tmp 67)), none⟩,
                              ⟨(some 17), (.mv (.tmp 68)), none⟩])
                             (.region true [⟨(some 69), (.mv (.tmp 18)), none⟩,
                              ⟨(some 70), (.mv (.tmp 69)), none⟩,
                              ⟨(some 71), (.mv (.tmp 15)), some (70, false)⟩,
                              ⟨(some 72), (.mv (.tmp 19)), some (70, false)⟩,
                              ⟨(some 73), (.iaddrs LI (.tmp 71) (.tmp 72)), some (70, false)⟩,
                              ⟨(some 74), (.load LI (.tmp 73)), some (70, false)⟩,
                              ⟨(some 75), (.mv (.tmp 16)), some (70, false)⟩,
                              ⟨(some 76), (.mv (.tmp 19)), some (70, false)⟩,
                              ⟨(some 77), (.iaddrs LI (.tmp 75) (.tmp 76)), some (70, false)⟩,
                              ⟨(some 78), (.load LI (.tmp 77)), some (70, false)⟩,
                              ⟨(some 79), (.bin .gtr (.tmp 74) (.tmp 78)), some (70, false)⟩,
                              ⟨(some 80), (.pick (.tmp 70) (.const (.bool true)) (.tmp 79)), none⟩,
                              ⟨(some 18), (.mv (.tmp 80)), none⟩]))
                            .skip))))
                        (.region false [⟨(some 81), (.bin .add (.tmp 50) (.const (it 1))), none⟩,
                         ⟨(some 50), (.mv (.tmp 81)), none⟩])))))))
                  (.seq
                   (.region false [⟨(some 82), (.mv (.tmp 17)), none⟩,
                    ⟨(some 83), (.load (.ar 32 L8) (.tmp 6)), none⟩,
                    ⟨(some 84), (.load (.ar 32 L8) (.tmp 14)), none⟩,
                    ⟨(some 85), (.eqa (.ar 32 L8) true (.tmp 83) (.tmp 84)), none⟩,
                    ⟨(some 86), (.beq true (.tmp 82) (.tmp 85)), none⟩,
                    ⟨(some 87), (.mv (.tmp 86)), none⟩,
                    ⟨(some 88), (.mv (.tmp 18)), some (87, false)⟩,
                    ⟨(some 89), (.load (.ar 32 L8) (.tmp 6)), some (87, false)⟩,
                    ⟨(some 90), (.load (.ar 32 L8) (.tmp 14)), some (87, false)⟩,
                    ⟨(some 91), (.eqa (.ar 32 L8) true (.tmp 89) (.tmp 90)), some (87, false)⟩,
                    ⟨(some 92), (.beq true (.tmp 88) (.tmp 91)), some (87, false)⟩,
                    ⟨(some 93), (.pick (.tmp 87) (.const (.bool true)) (.tmp 92)), none⟩])
                   (.cond (.tmp 93)
                    (.seq
                     (.region false [⟨(some 10), (.mv (.const (.bool false))), none⟩])
                     .ret)
                    .skip)))))))
             (.region false [⟨(some 94), (.bin .add (.tmp 38) (.const (it 1))), none⟩,
              ⟨(some 38), (.mv (.tmp 94)), none⟩])))))))
       (.seq
        (.region false [⟨(some 10), (.mv (.const (.bool true))), none⟩])
        .ret)))))))
def r_law05_OtsChecks : List ARes := [(.tmp 10)]
theorem c_law05_OtsChecks : o2 Go.Proofs.Tryd.f4.body (comp Go.Proofs.Tryd.prog Go.Proofs.Tryd.f4.ntmps) = some a_law05_OtsChecks := by kernel_rfl
theorem s_law05_OtsChecks : cRess Go.Proofs.Tryd.prog Go.Proofs.Tryd.f4.results.toList = some r_law05_OtsChecks := by kernel_rfl
theorem m_law05_OtsChecks (C : Ctx) (hC : CtxOK C Go.Proofs.Tryd.prog) : Meets C.glob Go.Proofs.Tryd.prog 4 (afun C 5 r_law05_OtsChecks a_law05_OtsChecks) :=
  fn_sound hC Go.Proofs.Tryd.func4 c_law05_OtsChecks s_law05_OtsChecks (Nat.le_of_ble_eq_true (by kernel_rfl))

/-- curtilage/curtilagelaw05.OtsChains -/
def a_law05_OtsChains : ACode :=
 (.seq
  (.region false [⟨(some 7), (.box (.ar 16 L8) (.tmp 0)), none⟩,
   ⟨(some 13), (.box (.ar 32 L8) (.tmp 6)), none⟩,
   ⟨(some 14), (.mv (.const (.bool false))), none⟩])
  (.seq
   (.seq
    (.region false [⟨(some 22), (.call 9 []), none⟩,
     ⟨(some 23), (.un .not (.tmp 22)), none⟩])
    (.cond (.tmp 23)
     (.seq
      (.region false [⟨(some 14), (.mv (.const (.bool false))), none⟩])
      .ret)
     .skip))
   (.seq
    (.region false [⟨(some 24), (.load (.ar 16 L8) (.tmp 7)), none⟩,
     ⟨(some 25), (.mv (.tmp 1)), none⟩,
     ⟨(some 26), (.build S2 [(.agg (.ar 16 L8) (List.replicate 16 (.raw (u8 0#8)))), (.raw (u32 0#32))] [(0, (.tmp 24)), (1, (.tmp 25))]), none⟩,
     ⟨(some 15), (.alloc S2 (.agg S2 [(.agg (.ar 16 L8) (List.replicate 16 (.raw (u8 0#8)))), (.raw (u32 0#32))])), none⟩,
     ⟨none, (.store S2 (.tmp 15) (.tmp 26)), none⟩])
    (.seq
     (.region false [⟨(some 27), (.mv (.tmp 3)), none⟩,
      ⟨(some 28), (.bin .rem (.tmp 27) (.const (u8 16#8))), none⟩,
      ⟨(some 29), (.conv .i64 (.tmp 28)), none⟩,
      ⟨(some 30), (.mv (.tmp 3)), none⟩,
      ⟨(some 31), (.bin .rem (.tmp 30) (.const (u8 16#8))), none⟩,
      ⟨(some 32), (.conv .i64 (.tmp 31)), none⟩,
      ⟨(some 33), (.mv (.tmp 4)), none⟩,
      ⟨(some 34), (.bin .rem (.tmp 33) (.const (u8 8#8))), none⟩,
      ⟨(some 35), (.conv .i64 (.tmp 34)), none⟩,
      ⟨(some 36), (.bin .add (.tmp 32) (.tmp 35)), none⟩,
      ⟨(some 16), (.mv (.tmp 29)), none⟩,
      ⟨(some 17), (.mv (.tmp 36)), none⟩])
     (.seq
      (.region false [⟨(some 37), (.mv (.tmp 17)), none⟩,
       ⟨(some 38), (.mv (.tmp 5)), none⟩,
       ⟨(some 39), (.bin .rem (.tmp 38) (.const (u8 8#8))), none⟩,
       ⟨(some 40), (.conv .i64 (.tmp 39)), none⟩,
       ⟨(some 41), (.bin .add (.tmp 37) (.tmp 40)), none⟩,
       ⟨(some 18), (.mv (.tmp 41)), none⟩])
      (.seq
       (.region false [⟨(some 42), (.load (.ar 32 L8) (.tmp 13)), none⟩,
        ⟨(some 19), (.alloc (.ar 32 L8) (.agg (.ar 32 L8) (List.replicate 32 (.raw (u8 0#8))))), none⟩,
        ⟨none, (.store (.ar 32 L8) (.tmp 19) (.tmp 42)), none⟩])
       (.seq
        (.seq
         (.region false [⟨(some 43), (.mv (.tmp 16)), none⟩,
          ⟨(some 20), (.mv (.tmp 43)), none⟩])
         (.block 0
          (.loop
           (.seq
            (.seq
             (.region false [⟨(some 44), (.mv (.tmp 20)), none⟩,
              ⟨(some 45), (.mv (.tmp 18)), none⟩,
              ⟨(some 46), (.bin .lss (.tmp 44) (.tmp 45)), none⟩])
             (.cond (.tmp 46)
              .skip
              (.exit 0)))
            (.seq
             (.block 1
              (.region false [⟨(some 49), (.load (.ar 16 L8) (.tmp 7)), none⟩,
               ⟨(some 50), (.mv (.tmp 1)), none⟩,
               ⟨(some 51), (.mv (.tmp 2)), none⟩,
               ⟨(some 52), (.conv .i64 (.tmp 51)), none⟩,
               ⟨(some 53), (.mv (.tmp 20)), none⟩,
               ⟨(some 54), (.load (.ar 32 L8) (.tmp 19)), none⟩,
               ⟨(some 55), (.call 18 [(.tmp 49), (.tmp 50), (.tmp 52), (.tmp 53), (.tmp 54)]), none⟩,
               ⟨none, (.store (.ar 32 L8) (.tmp 19) (.tmp 55)), none⟩]))
             (.region false [⟨(some 47), (.mv (.tmp 20)), none⟩,
              ⟨(some 48), (.bin .add (.tmp 47) (.const (it 1))), none⟩,
              ⟨(some 20), (.mv (.tmp 48)), none⟩]))))))
        (.seq
         (.region false [⟨(some 56), (.load S2 (.tmp 15)), none⟩,
          ⟨(some 57), (.mv (.tmp 2)), none⟩,
          ⟨(some 58), (.conv .i64 (.tmp 57)), none⟩,
          ⟨(some 59), (.mv (.tmp 16)), none⟩,
          ⟨(some 60), (.mv (.tmp 17)), none⟩,
          ⟨(some 61), (.load (.ar 32 L8) (.tmp 13)), none⟩,
          ⟨(some 62), (.call 19 [(.tmp 56), (.tmp 58), (.tmp 59), (.tmp 60), (.tmp 61)]), none⟩,
          ⟨(some 21), (.alloc (.ar 32 L8) (.agg (.ar 32 L8) (List.replicate 32 (.raw (u8 0#8))))), none⟩,
          ⟨none, (.store (.ar 32 L8) (.tmp 21) (.tmp 62)), none⟩])
         (.seq
          (.draw1 [⟨(some 63), (.load S2 (.tmp 15)), none⟩,
           ⟨(some 64), (.mv (.tmp 2)), none⟩,
           ⟨(some 65), (.conv .i64 (.tmp 64)), none⟩,
           ⟨(some 66), (.mv (.tmp 16)), none⟩,
           ⟨(some 67), (.mv (.tmp 18)), none⟩,
           ⟨(some 68), (.load (.ar 32 L8) (.tmp 13)), none⟩,
           ⟨(some 69), (.call 19 [(.tmp 63), (.tmp 65), (.tmp 66), (.tmp 67), (.tmp 68)]), none⟩,
           ⟨(some 70), (.load (.ar 32 L8) (.tmp 19)), none⟩,
           ⟨(some 71), (.eqa (.ar 32 L8) false (.tmp 69) (.tmp 70)), none⟩,
           ⟨(some 72), (.mv (.tmp 71)), none⟩,
           ⟨(some 73), (.load S2 (.tmp 15)), some (72, true)⟩,
           ⟨(some 74), (.mv (.tmp 2)), some (72, true)⟩,
           ⟨(some 75), (.conv .i64 (.tmp 74)), some (72, true)⟩,
           ⟨(some 76), (.mv (.tmp 17)), some (72, true)⟩,
           ⟨(some 77), (.mv (.tmp 18)), some (72, true)⟩,
           ⟨(some 78), (.load (.ar 32 L8) (.tmp 21)), some (72, true)⟩,
           ⟨(some 79), (.call 19 [(.tmp 73), (.tmp 75), (.tmp 76), (.tmp 77), (.tmp 78)]), some (72, true)⟩,
           ⟨(some 80), (.load (.ar 32 L8) (.tmp 19)), some (72, true)⟩,
           ⟨(some 81), (.eqa (.ar 32 L8) false (.tmp 79) (.tmp 80)), some (72, true)⟩,
           ⟨(some 82), (.pick (.tmp 72) (.tmp 81) (.const (.bool false))), none⟩,
           ⟨(some 83), (.mv (.tmp 82)), none⟩,
           ⟨(some 84), (.load S2 (.tmp 15)), some (83, true)⟩,
           ⟨(some 85), (.mv (.tmp 2)), some (83, true)⟩,
           ⟨(some 86), (.conv .i64 (.tmp 85)), some (83, true)⟩,
           ⟨(some 87), (.mv (.tmp 16)), some (83, true)⟩,
           ⟨(some 88), (.load (.ar 32 L8) (.tmp 13)), some (83, true)⟩,
           ⟨(some 89), (.call 20 [(.tmp 84), (.tmp 86), (.tmp 87), (.tmp 88)]), some (83, true)⟩,
           ⟨(some 90), (.load (.ar 16 L8) (.tmp 7)), some (83, true)⟩,
           ⟨(some 91), (.mv (.tmp 1)), some (83, true)⟩,
           ⟨(some 92), (.mv (.tmp 2)), some (83, true)⟩,
           ⟨(some 93), (.conv .i64 (.tmp 92)), some (83, true)⟩,
           ⟨(some 94), (.mv (.tmp 16)), some (83, true)⟩,
           ⟨(some 95), (.load (.ar 32 L8) (.tmp 13)), some (83, true)⟩,
           ⟨(some 96), (.call 18 [(.tmp 90), (.tmp 91), (.tmp 93), (.tmp 94), (.tmp 95)]), some (83, true)⟩,
           ⟨(some 97), (.eqa (.ar 32 L8) false (.tmp 89) (.tmp 96)), some (83, true)⟩,
           ⟨(some 98), (.pick (.tmp 83) (.tmp 97) (.const (.bool false))), none⟩,
           ⟨(some 99), (.mv (.tmp 98)), none⟩,
           ⟨(some 100), (.mv (.tmp 16)), some (99, true)⟩,
           ⟨(some 101), (.mv (.tmp 18)), some (99, true)⟩,
           ⟨(some 102), (.bin .eql (.tmp 100) (.tmp 101)), some (99, true)⟩,
           ⟨(some 103), (.mv (.tmp 102)), some (99, true)⟩,
           ⟨(some 104), (.load S2 (.tmp 15)), some (103, false)⟩,
           ⟨(some 105), (.mv (.tmp 2)), some (103, false)⟩,
           ⟨(some 106), (.conv .i64 (.tmp 105)), some (103, false)⟩,
           ⟨(some 107), (.mv (.tmp 18)), some (103, false)⟩,
           ⟨(some 108), (.mv (.tmp 16)), some (103, false)⟩,
           ⟨(some 109), (.load (.ar 32 L8) (.tmp 13)), some (103, false)⟩,
           ⟨(some 110), (.call 19 [(.tmp 104), (.tmp 106), (.tmp 107), (.tmp 108), (.tmp 109)]), some (103, false)⟩,
           ⟨(some 111), (.load (.ar 32 L8) (.tmp 13)), some (103, false)⟩,
           ⟨(some 112), (.eqa (.ar 32 L8) false (.tmp 110) (.tmp 111)), some (103, false)⟩,
           ⟨(some 113), (.pick (.tmp 103) (.const (.bool true)) (.tmp 112)), some (99, true)⟩,
           ⟨(some 114), (.pick (.tmp 99) (.tmp 113) (.const (.bool false))), none⟩,
           ⟨(some 115), (.mv (.tmp 114)), none⟩,
           ⟨(some 116), (.load S2 (.tmp 15)), some (115, true)⟩,
           ⟨(some 117), (.mv (.tmp 2)), some (115, true)⟩,
           ⟨(some 118), (.conv .i64 (.tmp 117)), some (115, true)⟩,
           ⟨(some 119), (.load (.ar 32 L8) (.tmp 13)), some (115, true)⟩,
           ⟨(some 120), (.call 21 [(.tmp 116), (.tmp 118), (.tmp 119)]), some (115, true)⟩,
           ⟨(some 121), (.load (.ar 16 L8) (.tmp 7)), some (115, true)⟩,
           ⟨(some 122), (.mv (.tmp 1)), some (115, true)⟩,
           ⟨(some 123), (.mv (.tmp 2)), some (115, true)⟩,
           ⟨(some 124), (.conv .i64 (.tmp 123)), some (115, true)⟩,
           ⟨(some 125), (.load (.ar 32 L8) (.tmp 13)), some (115, true)⟩]
           [⟨(some 126), (.call 18 [(.tmp 121), (.tmp 122), (.tmp 124), (.const (it 255)), (.tmp 125)]), some (115, true)⟩,
           ⟨(some 127), (.eqa (.ar 32 L8) false (.tmp 120) (.tmp 126)), some (115, true)⟩,
           ⟨(some 128), (.pick (.tmp 115) (.tmp 127) (.const (.bool false))), none⟩,
           ⟨(some 14), (.mv (.tmp 128)), none⟩])
          .ret)))))))))
def r_law05_OtsChains : List ARes := [(.tmp 14)]
theorem c_law05_OtsChains : o2 Go.Proofs.Tryd.f5.body (comp Go.Proofs.Tryd.prog Go.Proofs.Tryd.f5.ntmps) = some a_law05_OtsChains := by kernel_rfl
theorem s_law05_OtsChains : cRess Go.Proofs.Tryd.prog Go.Proofs.Tryd.f5.results.toList = some r_law05_OtsChains := by kernel_rfl
theorem m_law05_OtsChains (C : Ctx) (hC : CtxOK C Go.Proofs.Tryd.prog) : Meets C.glob Go.Proofs.Tryd.prog 5 (afun C 7 r_law05_OtsChains a_law05_OtsChains) :=
  fn_sound hC Go.Proofs.Tryd.func5 c_law05_OtsChains s_law05_OtsChains (Nat.le_of_ble_eq_true (by kernel_rfl))

/-- curtilage/curtilagelaw05.OtsFolds -/
def a_law05_OtsFolds : ACode :=
 (.seq
  (.region false [⟨(some 5), (.box (.ar 16 L8) (.tmp 0)), none⟩,
   ⟨(some 7), (.box (.ar 32 L8) (.tmp 2)), none⟩,
   ⟨(some 10), (.mv (.const (.bool false))), none⟩])
  (.seq
   (.seq
    (.region false [⟨(some 12), (.call 9 []), none⟩,
     ⟨(some 13), (.un .not (.tmp 12)), none⟩])
    (.cond (.tmp 13)
     (.seq
      (.region false [⟨(some 10), (.mv (.const (.bool false))), none⟩])
      .ret)
     .skip))
   (.seq
    (.draw [⟨(some 14), (.mv (.tmp 3)), none⟩,
     ⟨(some 15), (.call 14 [(.tmp 14), (.const (it 200))]), none⟩,
     ⟨(some 16), (.mv (.tmp 4)), none⟩,
     ⟨(some 17), (.mv (.tmp 4)), none⟩,
     ⟨(some 18), (.len (.tmp 17)), none⟩,
     ⟨(some 19), (.minmax false [(.tmp 18), (.const (it 10))]), none⟩,
     ⟨(some 20), (.slice (.ar 32 L8) (.tmp 16) none (some (.tmp 19)) none), none⟩]
     [⟨(some 16), (.mv (.tmp 4)), none⟩,
     ⟨(some 17), (.mv (.tmp 4)), none⟩,
     ⟨(some 18), (.len (.tmp 17)), none⟩,
     ⟨(some 19), (.minmax false [(.tmp 18), (.const (it 10))]), none⟩,
     ⟨(some 20), (.slice (.ar 32 L8) (.tmp 16) none (some (.tmp 19)) none), none⟩]
     [(⟨(some 3), (.mv (.tmp 15)), none⟩, [⟨(some 16), (.mv (.tmp 4)), none⟩, ⟨(some 17), (.mv (.tmp 4)), none⟩, ⟨(some 18), (.len (.tmp 17)), none⟩, ⟨(some 19), (.minmax false [(.tmp 18), (.const (it 10))]), none⟩, ⟨(some 20), (.slice (.ar 32 L8) (.tmp 16) none (some (.tmp 19)) none), none⟩]),
     (⟨(some 4), (.mv (.tmp 20)), none⟩, [])])
    (.seq
     (.region false [⟨(some 21), (.load (.ar 16 L8) (.tmp 5)), none⟩,
      ⟨(some 22), (.mv (.tmp 1)), none⟩,
      ⟨(some 23), (.build S2 [(.agg (.ar 16 L8) (List.replicate 16 (.raw (u8 0#8)))), (.raw (u32 0#32))] [(0, (.tmp 21)), (1, (.tmp 22))]), none⟩,
      ⟨(some 11), (.alloc S2 (.agg S2 [(.agg (.ar 16 L8) (List.replicate 16 (.raw (u8 0#8)))), (.raw (u32 0#32))])), none⟩,
      ⟨none, (.store S2 (.tmp 11) (.tmp 23)), none⟩])
     (.seq
      (.draw1 [⟨(some 24), (.load S2 (.tmp 11)), none⟩,
       ⟨(some 25), (.load (.ar 32 L8) (.tmp 7)), none⟩,
       ⟨(some 26), (.mv (.tmp 3)), none⟩,
       ⟨(some 27), (.call 22 [(.tmp 24), (.tmp 25), (.tmp 26)]), none⟩,
       ⟨(some 28), (.load (.ar 16 L8) (.tmp 5)), none⟩,
       ⟨(some 29), (.mv (.tmp 1)), none⟩,
       ⟨(some 30), (.load (.ar 32 L8) (.tmp 7)), none⟩,
       ⟨(some 31), (.mv (.tmp 3)), none⟩,
       ⟨(some 32), (.call 23 [(.tmp 28), (.tmp 29), (.tmp 30), (.tmp 31)]), none⟩,
       ⟨(some 33), (.eqa (.ar 32 L8) false (.tmp 27) (.tmp 32)), none⟩,
       ⟨(some 34), (.mv (.tmp 33)), none⟩,
       ⟨(some 35), (.load S2 (.tmp 11)), some (34, true)⟩,
       ⟨(some 36), (.mv (.tmp 4)), some (34, true)⟩,
       ⟨(some 37), (.call 24 [(.tmp 35), (.tmp 36)]), some (34, true)⟩,
       ⟨(some 38), (.load (.ar 16 L8) (.tmp 5)), some (34, true)⟩,
       ⟨(some 39), (.mv (.tmp 1)), some (34, true)⟩,
       ⟨(some 40), (.mv (.tmp 4)), some (34, true)⟩]
       [⟨(some 41), (.call 25 [(.tmp 38), (.tmp 39), (.tmp 40)]), some (34, true)⟩,
       ⟨(some 42), (.eqa (.ar 32 L8) false (.tmp 37) (.tmp 41)), some (34, true)⟩,
       ⟨(some 43), (.pick (.tmp 34) (.tmp 42) (.const (.bool false))), none⟩,
       ⟨(some 10), (.mv (.tmp 43)), none⟩])
      .ret)))))
def r_law05_OtsFolds : List ARes := [(.tmp 10)]
theorem c_law05_OtsFolds : o2 Go.Proofs.Tryd.f6.body (comp Go.Proofs.Tryd.prog Go.Proofs.Tryd.f6.ntmps) = some a_law05_OtsFolds := by kernel_rfl
theorem s_law05_OtsFolds : cRess Go.Proofs.Tryd.prog Go.Proofs.Tryd.f6.results.toList = some r_law05_OtsFolds := by kernel_rfl
theorem m_law05_OtsFolds (C : Ctx) (hC : CtxOK C Go.Proofs.Tryd.prog) : Meets C.glob Go.Proofs.Tryd.prog 6 (afun C 5 r_law05_OtsFolds a_law05_OtsFolds) :=
  fn_sound hC Go.Proofs.Tryd.func6 c_law05_OtsFolds s_law05_OtsFolds (Nat.le_of_ble_eq_true (by kernel_rfl))

/-- curtilage/curtilagelaw05.OtsSigns -/
def a_law05_OtsSigns : ACode :=
 (.seq
  (.region false [⟨(some 7), (.box (.ar 16 L8) (.tmp 1)), none⟩,
   ⟨(some 9), (.box (.ar 32 L8) (.tmp 3)), none⟩,
   ⟨(some 10), (.box (.ar 32 L8) (.tmp 4)), none⟩,
   ⟨(some 12), (.mv (.const (.bool false))), none⟩])
  (.seq
   (.seq
    (.region false [⟨(some 32), (.call 9 []), none⟩,
     ⟨(some 33), (.un .not (.tmp 32)), none⟩])
    (.cond (.tmp 33)
     (.seq
      (.region false [⟨(some 12), (.mv (.const (.bool false))), none⟩])
      .ret)
     .skip))
   (.seq
    (.region false [⟨(some 34), (.mv (.tmp 0)), none⟩,
     ⟨(some 35), (.call 26 [(.tmp 34)]), none⟩,
     ⟨(some 13), (.mv (.tmp 35)), none⟩])
    (.seq
     (.region false [⟨(some 36), (.load (.ar 16 L8) (.tmp 7)), none⟩,
      ⟨(some 37), (.mv (.tmp 2)), none⟩,
      ⟨(some 38), (.build S2 [(.agg (.ar 16 L8) (List.replicate 16 (.raw (u8 0#8)))), (.raw (u32 0#32))] [(0, (.tmp 36)), (1, (.tmp 37))]), none⟩,
      ⟨(some 14), (.alloc S2 (.agg S2 [(.agg (.ar 16 L8) (List.replicate 16 (.raw (u8 0#8)))), (.raw (u32 0#32))])), none⟩,
      ⟨none, (.store S2 (.tmp 14) (.tmp 38)), none⟩])
     (.seq
      (.region false [⟨(some 39), (.mv (.tmp 5)), none⟩,
       ⟨(some 40), (.call 14 [(.tmp 39), (.const (it 100))]), none⟩,
       ⟨(some 5), (.mv (.tmp 40)), none⟩])
      (.seq
       (.region false [⟨(some 42), (.mv (.tmp 13)), none⟩,
        ⟨(some 43), (.load S2 (.tmp 14)), none⟩,
        ⟨(some 44), (.load (.ar 32 L8) (.tmp 9)), none⟩,
        ⟨(some 45), (.call 27 [(.tmp 42), (.tmp 43), (.tmp 44)]), none⟩,
        ⟨(some 41), (.mv (.tmp 45)), none⟩,
        ⟨(some 46), (.ext (.tmp 41) 0), none⟩,
        ⟨(some 47), (.ext (.tmp 41) 1), none⟩,
        ⟨(some 15), (.alloc (.ar 32 L8) (.agg (.ar 32 L8) (List.replicate 32 (.raw (u8 0#8))))), none⟩,
        ⟨none, (.store (.ar 32 L8) (.tmp 15) (.tmp 46)), none⟩,
        ⟨(some 16), (.mv (.tmp 47)), none⟩])
       (.seq
        (.region false [⟨(some 49), (.mv (.tmp 13)), none⟩,
         ⟨(some 50), (.load S2 (.tmp 14)), none⟩,
         ⟨(some 51), (.load (.ar 32 L8) (.tmp 9)), none⟩,
         ⟨(some 52), (.load (.ar 32 L8) (.tmp 10)), none⟩,
         ⟨(some 53), (.mv (.tmp 5)), none⟩,
         ⟨(some 54), (.call 28 [(.tmp 49), (.tmp 50), (.tmp 51), (.tmp 52), (.tmp 53)]), none⟩,
         ⟨(some 48), (.mv (.tmp 54)), none⟩,
         ⟨(some 55), (.ext (.tmp 48) 0), none⟩,
         ⟨(some 56), (.ext (.tmp 48) 1), none⟩,
         ⟨(some 17), (.mv (.tmp 55)), none⟩,
         ⟨(some 18), (.mv (.tmp 56)), none⟩])
        (.seq
         (.region false [⟨(some 58), (.load S2 (.tmp 14)), none⟩,
          ⟨(some 59), (.mv (.tmp 17)), none⟩,
          ⟨(some 60), (.mv (.tmp 5)), none⟩,
          ⟨(some 61), (.call 29 [(.tmp 58), (.tmp 59), (.tmp 60)]), none⟩,
          ⟨(some 57), (.mv (.tmp 61)), none⟩,
          ⟨(some 62), (.ext (.tmp 57) 0), none⟩,
          ⟨(some 63), (.ext (.tmp 57) 1), none⟩,
          ⟨(some 19), (.alloc (.ar 32 L8) (.agg (.ar 32 L8) (List.replicate 32 (.raw (u8 0#8))))), none⟩,
          ⟨none, (.store (.ar 32 L8) (.tmp 19) (.tmp 62)), none⟩,
          ⟨(some 20), (.mv (.tmp 63)), none⟩])
         (.seq
          (.region false [⟨(some 65), (.mv (.tmp 17)), none⟩,
           ⟨(some 66), (.call 30 [(.tmp 65)]), none⟩,
           ⟨(some 64), (.mv (.tmp 66)), none⟩,
           ⟨(some 67), (.ext (.tmp 64) 0), none⟩,
           ⟨(some 68), (.ext (.tmp 64) 1), none⟩,
           ⟨(some 69), (.ext (.tmp 64) 2), none⟩,
           ⟨(some 70), (.ext (.tmp 64) 3), none⟩,
           ⟨(some 22), (.alloc (.ar 32 L8) (.agg (.ar 32 L8) (List.replicate 32 (.raw (u8 0#8))))), none⟩,
           ⟨(some 21), (.mv (.tmp 67)), none⟩,
           ⟨none, (.store (.ar 32 L8) (.tmp 22) (.tmp 68)), none⟩,
           ⟨(some 23), (.mv (.tmp 69)), none⟩,
           ⟨(some 24), (.mv (.tmp 70)), none⟩])
          (.seq
           (.region false [⟨(some 72), (.mv (.tmp 13)), none⟩,
            ⟨(some 73), (.call 10 [(.tmp 72)]), none⟩,
            ⟨(some 71), (.mv (.tmp 73)), none⟩,
            ⟨(some 74), (.ext (.tmp 71) 0), none⟩,
            ⟨(some 75), (.ext (.tmp 71) 1), none⟩,
            ⟨(some 76), (.ext (.tmp 71) 2), none⟩,
            ⟨(some 25), (.mv (.tmp 74)), none⟩,
            ⟨(some 26), (.mv (.tmp 75)), none⟩,
            ⟨(some 27), (.mv (.tmp 76)), none⟩])
           (.seq
            (.seq
             (.region false [⟨(some 77), (.mv (.tmp 16)), none⟩,
              ⟨(some 78), (.bin .neq (.tmp 77) (.const (it 0))), none⟩,
              ⟨(some 79), (.mv (.tmp 78)), none⟩,
              ⟨(some 80), (.mv (.tmp 18)), some (79, false)⟩,
              ⟨(some 81), (.bin .neq (.tmp 80) (.const (it 0))), some (79, false)⟩,
              ⟨(some 82), (.pick (.tmp 79) (.const (.bool true)) (.tmp 81)), none⟩,
              ⟨(some 83), (.mv (.tmp 82)), none⟩,
              ⟨(some 84), (.mv (.tmp 20)), some (83, false)⟩,
              ⟨(some 85), (.bin .neq (.tmp 84) (.const (it 0))), some (83, false)⟩,
              ⟨(some 86), (.pick (.tmp 83) (.const (.bool true)) (.tmp 85)), none⟩,
              ⟨(some 87), (.mv (.tmp 86)), none⟩,
              ⟨(some 88), (.mv (.tmp 24)), some (87, false)⟩,
              ⟨(some 89), (.bin .neq (.tmp 88) (.const (it 0))), some (87, false)⟩,
              ⟨(some 90), (.pick (.tmp 87) (.const (.bool true)) (.tmp 89)), none⟩,
              ⟨(some 91), (.mv (.tmp 90)), none⟩,
              ⟨(some 92), (.load (.ar 32 L8) (.tmp 19)), some (91, false)⟩,
              ⟨(some 93), (.load (.ar 32 L8) (.tmp 15)), some (91, false)⟩,
              ⟨(some 94), (.eqa (.ar 32 L8) true (.tmp 92) (.tmp 93)), some (91, false)⟩,
              ⟨(some 95), (.pick (.tmp 91) (.const (.bool true)) (.tmp 94)), none⟩,
              ⟨(some 96), (.mv (.tmp 95)), none⟩,
              ⟨(some 97), (.mv (.tmp 21)), some (96, false)⟩,
              ⟨(some 98), (.mv (.tmp 13)), some (96, false)⟩,
              ⟨(some 99), (.bin .neq (.tmp 97) (.tmp 98)), some (96, false)⟩,
              ⟨(some 100), (.pick (.tmp 96) (.const (.bool true)) (.tmp 99)), none⟩,
              ⟨(some 101), (.mv (.tmp 100)), none⟩,
              ⟨(some 102), (.load (.ar 32 L8) (.tmp 22)), some (101, false)⟩,
              ⟨(some 103), (.load (.ar 32 L8) (.tmp 10)), some (101, false)⟩,
              ⟨(some 104), (.eqa (.ar 32 L8) true (.tmp 102) (.tmp 103)), some (101, false)⟩,
              ⟨(some 105), (.pick (.tmp 101) (.const (.bool true)) (.tmp 104)), none⟩,
              ⟨(some 106), (.mv (.tmp 105)), none⟩,
              ⟨(some 107), (.mv (.tmp 23)), some (106, false)⟩,
              ⟨(some 108), (.len (.tmp 107)), some (106, false)⟩,
              ⟨(some 109), (.mv (.tmp 26)), some (106, false)⟩,
              ⟨(some 110), (.bin .neq (.tmp 108) (.tmp 109)), some (106, false)⟩,
              ⟨(some 111), (.pick (.tmp 106) (.const (.bool true)) (.tmp 110)), none⟩,
              ⟨(some 112), (.mv (.tmp 111)), none⟩,
              ⟨(some 113), (.mv (.tmp 17)), some (112, false)⟩,
              ⟨(some 114), (.len (.tmp 113)), some (112, false)⟩,
              ⟨(some 115), (.mv (.tmp 26)), some (112, false)⟩,
              ⟨(some 116), (.bin .mul (.const (it 32)) (.tmp 115)), some (112, false)⟩,
              ⟨(some 117), (.bin .add (.const (it 36)) (.tmp 116)), some (112, false)⟩,
              ⟨(some 118), (.bin .neq (.tmp 114) (.tmp 117)), some (112, false)⟩,
              ⟨(some 119), (.pick (.tmp 112) (.const (.bool true)) (.tmp 118)), none⟩])
             (.cond (.tmp 119)
              (.seq
               (.region false [⟨(some 12), (.mv (.const (.bool false))), none⟩])
               .ret)
              .skip))
            (.seq
             (.seq
              (.region false [⟨(some 120), (.mv (.tmp 13)), none⟩,
               ⟨(some 121), (.load (.ar 16 L8) (.tmp 7)), none⟩,
               ⟨(some 122), (.mv (.tmp 2)), none⟩,
               ⟨(some 123), (.load (.ar 32 L8) (.tmp 10)), none⟩,
               ⟨(some 124), (.mv (.tmp 5)), none⟩,
               ⟨(some 125), (.call 23 [(.tmp 121), (.tmp 122), (.tmp 123), (.tmp 124)]), none⟩,
               ⟨(some 126), (.call 13 [(.tmp 120), (.tmp 125)]), none⟩,
               ⟨(some 127), (.len (.tmp 126)), none⟩,
               ⟨(some 128), (.mv (.const (it 0))), none⟩])
              (.block 0
               (.loop
                (.seq
                 (.region false [⟨(some 129), (.bin .lss (.tmp 128) (.tmp 127)), none⟩])
                 (.seq
                  (.cond (.tmp 129)
                   .skip
                   (.exit 0))
                  (.seq
                   (.block 1
                    (.seq
                     (.region false [⟨(some 130), (.mv (.tmp 128)), none⟩,
                      ⟨(some 131), (.iaddrs LI (.tmp 126) (.tmp 128)), none⟩,
                      ⟨(some 132), (.load LI (.tmp 131)), none⟩,
                      ⟨(some 28), (.mv (.tmp 130)), none⟩,
                      ⟨(some 29), (.mv (.tmp 132)), none⟩])
                     (.seq
                      (.region false [⟨(some 133), (.mv (.tmp 28)), none⟩,
                       ⟨(some 134), (.bin .rem (.tmp 133) (.const (it 20))), none⟩,
                       ⟨(some 135), (.bin .eql (.tmp 134) (.const (it 0))), none⟩,
                       ⟨(some 136), (.mv (.tmp 135)), none⟩,
                       ⟨(some 137), (.mv (.tmp 29)), some (136, true)⟩,
                       ⟨(some 138), (.bin .lss (.tmp 137) (.const (it 20))), some (136, true)⟩,
                       ⟨(some 139), (.pick (.tmp 136) (.tmp 138) (.const (.bool false))), none⟩])
                      (.cond (.tmp 139)
                       (.seq
                        (.region false [⟨(some 140), (.load (.ar 16 L8) (.tmp 7)), none⟩,
                         ⟨(some 141), (.mv (.tmp 2)), none⟩,
                         ⟨(some 142), (.mv (.tmp 28)), none⟩,
                         ⟨(some 143), (.load (.ar 32 L8) (.tmp 9)), none⟩,
                         ⟨(some 144), (.call 18 [(.tmp 140), (.tmp 141), (.tmp 142), (.const (it 255)), (.tmp 143)]), none⟩,
                         ⟨(some 30), (.alloc (.ar 32 L8) (.agg (.ar 32 L8) (List.replicate 32 (.raw (u8 0#8))))), none⟩,
                         ⟨none, (.store (.ar 32 L8) (.tmp 30) (.tmp 144)), none⟩])
                        (.seq
                         (.seq
                          (.region false [⟨(some 31), (.mv (.const (it 0))), none⟩])
                          (.block 2
                           (.loop
                            (.seq
                             (.seq
                              (.region false [⟨(some 145), (.mv (.tmp 31)), none⟩,
                               ⟨(some 146), (.mv (.tmp 29)), none⟩,
                               ⟨(some 147), (.bin .lss (.tmp 145) (.tmp 146)), none⟩])
                              (.cond (.tmp 147)
                               .skip
                               (.exit 2)))
                             (.seq
                              (.block 3
                               (.region false [⟨(some 150), (.load (.ar 16 L8) (.tmp 7)), none⟩,
                                ⟨(some 151), (.mv (.tmp 2)), none⟩,
                                ⟨(some 152), (.mv (.tmp 28)), none⟩,
                                ⟨(some 153), (.mv (.tmp 31)), none⟩,
                                ⟨(some 154), (.load (.ar 32 L8) (.tmp 30)), none⟩,
                                ⟨(some 155), (.call 18 [(.tmp 150), (.tmp 151), (.tmp 152), (.tmp 153), (.tmp 154)]), none⟩,
                                ⟨none, (.store (.ar 32 L8) (.tmp 30) (.tmp 155)), none⟩]))
                              (.region false [⟨(some 148), (.mv (.tmp 31)), none⟩,
                               ⟨(some 149), (.bin .add (.tmp 148) (.const (it 1))), none⟩,
                               ⟨(some 31), (.mv (.tmp 149)), none⟩]))))))
                         (.seq
                          (.region true [⟨(some 156), (.mv (.tmp 23)), none⟩,
                           ⟨(some 157), (.mv (.tmp 28)), none⟩,
                           ⟨(some 158), (.iaddrs (.ar 32 L8) (.tmp 156) (.tmp 157)), none⟩,
                           ⟨(some 159), (.load (.ar 32 L8) (.tmp 158)), none⟩,
                           ⟨(some 160), (.load (.ar 32 L8) (.tmp 30)), none⟩,
                           ⟨(some 161), (.eqa (.ar 32 L8) true (.tmp 159) (.tmp 160)), none⟩])
                          (.cond (.tmp 161)
                           (.seq
                            (.region false [⟨(some 12), (.mv (.const (.bool false))), none⟩])
                            .ret)
                           .skip))))
                       .skip))))
                   (.region false [⟨(some 162), (.bin .add (.tmp 128) (.const (it 1))), none⟩,
                    ⟨(some 128), (.mv (.tmp 162)), none⟩])))))))
             (.seq
              (.region false [⟨(some 12), (.mv (.const (.bool true))), none⟩])
              .ret)))))))))))))
def r_law05_OtsSigns : List ARes := [(.tmp 12)]
theorem c_law05_OtsSigns : o2 Go.Proofs.Tryd.f7.body (comp Go.Proofs.Tryd.prog Go.Proofs.Tryd.f7.ntmps) = some a_law05_OtsSigns := by kernel_rfl
theorem s_law05_OtsSigns : cRess Go.Proofs.Tryd.prog Go.Proofs.Tryd.f7.results.toList = some r_law05_OtsSigns := by kernel_rfl
theorem m_law05_OtsSigns (C : Ctx) (hC : CtxOK C Go.Proofs.Tryd.prog) : Meets C.glob Go.Proofs.Tryd.prog 7 (afun C 6 r_law05_OtsSigns a_law05_OtsSigns) :=
  fn_sound hC Go.Proofs.Tryd.func7 c_law05_OtsSigns s_law05_OtsSigns (Nat.le_of_ble_eq_true (by kernel_rfl))

/-- curtilage/curtilagelaw05.OtsSplits -/
def a_law05_OtsSplits : ACode :=
 (.seq
  (.region false [⟨(some 6), (.mv (.const (.bool false))), none⟩])
  (.seq
   (.seq
    (.region false [⟨(some 28), (.call 9 []), none⟩,
     ⟨(some 29), (.un .not (.tmp 28)), none⟩])
    (.cond (.tmp 29)
     (.seq
      (.region false [⟨(some 6), (.mv (.const (.bool false))), none⟩])
      .ret)
     .skip))
   (.seq
    (.region false [⟨(some 30), (.mv (.tmp 0)), none⟩,
     ⟨(some 31), (.call 14 [(.tmp 30), (.const (it 100))]), none⟩,
     ⟨(some 0), (.mv (.tmp 31)), none⟩])
    (.seq
     (.region false [⟨(some 33), (.mv (.tmp 1)), none⟩,
      ⟨(some 34), (.call 26 [(.tmp 33)]), none⟩,
      ⟨(some 35), (.call 10 [(.tmp 34)]), none⟩,
      ⟨(some 32), (.mv (.tmp 35)), none⟩,
      ⟨(some 36), (.ext (.tmp 32) 0), none⟩,
      ⟨(some 37), (.ext (.tmp 32) 1), none⟩,
      ⟨(some 38), (.ext (.tmp 32) 2), none⟩,
      ⟨(some 7), (.mv (.tmp 36)), none⟩,
      ⟨(some 8), (.mv (.tmp 37)), none⟩,
      ⟨(some 9), (.mv (.tmp 38)), none⟩])
     (.seq
      (.region false [⟨(some 39), (.mv (.tmp 1)), none⟩,
       ⟨(some 40), (.call 26 [(.tmp 39)]), none⟩,
       ⟨(some 41), (.conv .u64 (.tmp 40)), none⟩,
       ⟨(some 42), (.call 31 [(.tmp 41), (.const (it 4))]), none⟩,
       ⟨(some 43), (.mv (.tmp 8)), none⟩,
       ⟨(some 44), (.bin .add (.tmp 43) (.const (it 1))), none⟩,
       ⟨(some 45), (.bin .mul (.const (it 32)) (.tmp 44)), none⟩,
       ⟨(some 46), (.mv (.tmp 2)), none⟩,
       ⟨(some 47), (.conv .i64 (.tmp 46)), none⟩,
       ⟨(some 48), (.bin .add (.tmp 45) (.tmp 47)), none⟩,
       ⟨(some 49), (.minmax true [(.tmp 48), (.const (it 0))]), none⟩,
       ⟨(some 50), (.appendz L8 1 (.raw (u8 0#8)) (.tmp 42) (.tmp 49)), none⟩,
       ⟨(some 10), (.mv (.tmp 50)), none⟩])
      (.seq
       (.seq
        (.region false [⟨(some 51), (.mv (.tmp 0)), none⟩,
         ⟨(some 52), (.mv (.tmp 10)), none⟩,
         ⟨(some 53), (.bslice .ref 2 (.raw (.slice none 0 0)) [(0, (.tmp 51)), (1, (.tmp 52))]), none⟩,
         ⟨(some 54), (.len (.tmp 53)), none⟩,
         ⟨(some 55), (.mv (.const (it 0))), none⟩])
        (.block 0
         (.loop
          (.seq
           (.region false [⟨(some 56), (.bin .lss (.tmp 55) (.tmp 54)), none⟩])
           (.seq
            (.cond (.tmp 56)
             .skip
             (.exit 0))
            (.seq
             (.block 1
              (.seq
               (.region false [⟨(some 57), (.iaddrs .ref (.tmp 53) (.tmp 55)), none⟩,
                ⟨(some 58), (.load .ref (.tmp 57)), none⟩,
                ⟨(some 12), (.mv (.tmp 58)), none⟩])
               (.seq
                (.region false [⟨(some 13), (.mv (.const (it 0))), none⟩])
                (.seq
                 (.region false [⟨(some 14), (.mv (.const (u32 0#32))), none⟩])
                 (.seq
                  (.seq
                   (.region false [⟨(some 59), (.mv (.tmp 12)), none⟩,
                    ⟨(some 60), (.len (.tmp 59)), none⟩,
                    ⟨(some 61), (.bin .geq (.tmp 60) (.const (it 4))), none⟩])
                   (.cond (.tmp 61)
                    (.region false [⟨(some 62), (.mv (.tmp 12)), none⟩,
                     ⟨(some 63), (.slice L8 (.tmp 62) none (some (.const (it 4))) none), none⟩,
                     ⟨(some 64), (.call 32 [(.tmp 63)]), none⟩,
                     ⟨(some 65), (.conv .u32 (.tmp 64)), none⟩,
                     ⟨(some 14), (.mv (.tmp 65)), none⟩])
                    .skip))
                  (.seq
                   (.region false [⟨(some 67), (.mv (.tmp 14)), none⟩,
                    ⟨(some 68), (.call 10 [(.tmp 67)]), none⟩,
                    ⟨(some 66), (.mv (.tmp 68)), none⟩,
                    ⟨(some 69), (.ext (.tmp 66) 0), none⟩,
                    ⟨(some 70), (.ext (.tmp 66) 1), none⟩,
                    ⟨(some 71), (.ext (.tmp 66) 2), none⟩,
                    ⟨(some 15), (.mv (.tmp 69)), none⟩,
                    ⟨(some 16), (.mv (.tmp 70)), none⟩,
                    ⟨(some 17), (.mv (.tmp 71)), none⟩])
                   (.seq
                    (.block 2
                     (.seq
                      (.region false [⟨(some 73), (.mv (.tmp 12)), none⟩,
                       ⟨(some 74), (.len (.tmp 73)), none⟩,
                       ⟨(some 75), (.bin .lss (.tmp 74) (.const (it 4))), none⟩,
                       ⟨(some 72), (.mv (.tmp 75)), none⟩])
                      (.cond (.tmp 72)
                       (.region false [⟨(some 13), (.mv (.const (it 2))), none⟩])
                       (.seq
                        (.region false [⟨(some 77), (.mv (.tmp 15)), none⟩,
                         ⟨(some 78), (.bin .eql (.tmp 77) (.const (it 0))), none⟩,
                         ⟨(some 76), (.mv (.tmp 78)), none⟩])
                        (.cond (.tmp 76)
                         (.region false [⟨(some 13), (.mv (.const (it 6))), none⟩])
                         (.seq
                          (.region false [⟨(some 80), (.mv (.tmp 12)), none⟩,
                           ⟨(some 81), (.len (.tmp 80)), none⟩,
                           ⟨(some 82), (.mv (.tmp 16)), none⟩,
                           ⟨(some 83), (.bin .mul (.const (it 32)) (.tmp 82)), none⟩,
                           ⟨(some 84), (.bin .add (.const (it 36)) (.tmp 83)), none⟩,
                           ⟨(some 85), (.bin .neq (.tmp 81) (.tmp 84)), none⟩,
                           ⟨(some 79), (.mv (.tmp 85)), none⟩])
                          (.cond (.tmp 79)
                           (.region false [⟨(some 13), (.mv (.const (it 2))), none⟩])
                           .skip)))))))
                    (.seq
                     (.region false [⟨(some 87), (.mv (.tmp 12)), none⟩,
                      ⟨(some 88), (.call 30 [(.tmp 87)]), none⟩,
                      ⟨(some 86), (.mv (.tmp 88)), none⟩,
                      ⟨(some 89), (.ext (.tmp 86) 0), none⟩,
                      ⟨(some 90), (.ext (.tmp 86) 1), none⟩,
                      ⟨(some 91), (.ext (.tmp 86) 2), none⟩,
                      ⟨(some 92), (.ext (.tmp 86) 3), none⟩,
                      ⟨(some 19), (.alloc (.ar 32 L8) (.agg (.ar 32 L8) (List.replicate 32 (.raw (u8 0#8))))), none⟩,
                      ⟨(some 18), (.mv (.tmp 89)), none⟩,
                      ⟨none, (.store (.ar 32 L8) (.tmp 19) (.tmp 90)), none⟩,
                      ⟨(some 20), (.mv (.tmp 91)), none⟩,
                      ⟨(some 21), (.mv (.tmp 92)), none⟩])
                     (.seq
                      (.region false [⟨(some 94), (.build S2 [(.agg (.ar 16 L8) (List.replicate 16 (.raw (u8 0#8)))), (.raw (u32 0#32))] []), none⟩,
                       ⟨(some 95), (.mv (.tmp 12)), none⟩,
                       ⟨(some 96), (.call 29 [(.tmp 94), (.tmp 95), (.const (.slice none 0 0))]), none⟩,
                       ⟨(some 93), (.mv (.tmp 96)), none⟩,
                       ⟨(some 97), (.ext (.tmp 93) 0), none⟩,
                       ⟨(some 98), (.ext (.tmp 93) 1), none⟩,
                       ⟨(some 22), (.alloc (.ar 32 L8) (.agg (.ar 32 L8) (List.replicate 32 (.raw (u8 0#8))))), none⟩,
                       ⟨none, (.store (.ar 32 L8) (.tmp 22) (.tmp 97)), none⟩,
                       ⟨(some 23), (.mv (.tmp 98)), none⟩])
                      (.seq
                       (.region false [⟨(some 99), (.mv (.tmp 21)), none⟩,
                        ⟨(some 100), (.mv (.tmp 13)), none⟩,
                        ⟨(some 101), (.bin .neq (.tmp 99) (.tmp 100)), none⟩,
                        ⟨(some 102), (.mv (.tmp 101)), none⟩,
                        ⟨(some 103), (.mv (.tmp 23)), some (102, false)⟩,
                        ⟨(some 104), (.mv (.tmp 21)), some (102, false)⟩,
                        ⟨(some 105), (.bin .neq (.tmp 103) (.tmp 104)), some (102, false)⟩,
                        ⟨(some 106), (.pick (.tmp 102) (.const (.bool true)) (.tmp 105)), none⟩,
                        ⟨(some 107), (.mv (.tmp 106)), none⟩,
                        ⟨(some 108), (.mv (.tmp 21)), some (107, false)⟩,
                        ⟨(some 109), (.bin .neq (.tmp 108) (.const (it 0))), some (107, false)⟩,
                        ⟨(some 110), (.mv (.tmp 109)), some (107, false)⟩,
                        ⟨(some 111), (.mv (.tmp 18)), some (110, true)⟩,
                        ⟨(some 112), (.bin .neq (.tmp 111) (.const (u32 0#32))), some (110, true)⟩,
                        ⟨(some 113), (.mv (.tmp 112)), some (110, true)⟩,
                        ⟨(some 114), (.load (.ar 32 L8) (.tmp 19)), some (113, false)⟩,
                        ⟨(some 115), (.build (.ar 32 L8) (List.replicate 32 (.raw (u8 0#8))) []), some (113, false)⟩,
                        ⟨(some 116), (.eqa (.ar 32 L8) true (.tmp 114) (.tmp 115)), some (113, false)⟩,
                        ⟨(some 117), (.pick (.tmp 113) (.const (.bool true)) (.tmp 116)), some (110, true)⟩,
                        ⟨(some 118), (.mv (.tmp 117)), some (110, true)⟩,
                        ⟨(some 119), (.mv (.tmp 20)), some (118, false)⟩,
                        ⟨(some 120), (.len (.tmp 119)), some (118, false)⟩,
                        ⟨(some 121), (.bin .neq (.tmp 120) (.const (it 0))), some (118, false)⟩,
                        ⟨(some 122), (.pick (.tmp 118) (.const (.bool true)) (.tmp 121)), some (110, true)⟩,
                        ⟨(some 123), (.mv (.tmp 122)), some (110, true)⟩,
                        ⟨(some 124), (.load (.ar 32 L8) (.tmp 22)), some (123, false)⟩,
                        ⟨(some 125), (.build (.ar 32 L8) (List.replicate 32 (.raw (u8 0#8))) []), some (123, false)⟩,
                        ⟨(some 126), (.eqa (.ar 32 L8) true (.tmp 124) (.tmp 125)), some (123, false)⟩,
                        ⟨(some 127), (.pick (.tmp 123) (.const (.bool true)) (.tmp 126)), some (110, true)⟩,
                        ⟨(some 128), (.pick (.tmp 110) (.tmp 127) (.const (.bool false))), some (107, false)⟩,
                        ⟨(some 129), (.pick (.tmp 107) (.const (.bool true)) (.tmp 128)), none⟩,
                        ⟨(some 130), (.mv (.tmp 129)), none⟩,
                        ⟨(some 131), (.mv (.tmp 21)), some (130, false)⟩,
                        ⟨(some 132), (.bin .eql (.tmp 131) (.const (it 0))), some (130, false)⟩,
                        ⟨(some 133), (.mv (.tmp 132)), some (130, false)⟩,
                        ⟨(some 134), (.mv (.tmp 18)), some (133, true)⟩,
                        ⟨(some 135), (.mv (.tmp 14)), some (133, true)⟩,
                        ⟨(some 136), (.bin .neq (.tmp 134) (.tmp 135)), some (133, true)⟩,
                        ⟨(some 137), (.mv (.tmp 136)), some (133, true)⟩,
                        ⟨(some 138), (.mv (.tmp 20)), some (137, false)⟩,
                        ⟨(some 139), (.len (.tmp 138)), some (137, false)⟩,
                        ⟨(some 140), (.mv (.tmp 16)), some (137, false)⟩,
                        ⟨(some 141), (.bin .neq (.tmp 139) (.tmp 140)), some (137, false)⟩,
                        ⟨(some 142), (.pick (.tmp 137) (.const (.bool true)) (.tmp 141)), some (133, true)⟩,
                        ⟨(some 143), (.pick (.tmp 133) (.tmp 142) (.const (.bool false))), some (130, false)⟩,
                        ⟨(some 144), (.pick (.tmp 130) (.const (.bool true)) (.tmp 143)), none⟩])
                       (.cond (.tmp 144)
                        (.seq
                         (.region false [⟨(some 6), (.mv (.const (.bool false))), none⟩])
                         .ret)
                        .skip)))))))))))
             (.region false [⟨(some 145), (.bin .add (.tmp 55) (.const (it 1))), none⟩,
              ⟨(some 55), (.mv (.tmp 145)), none⟩])))))))
       (.seq
        (.region false [⟨(some 147), (.build S2 [(.agg (.ar 16 L8) (List.replicate 16 (.raw (u8 0#8)))), (.raw (u32 0#32))] []), none⟩,
         ⟨(some 148), (.build (.ar 32 L8) (List.replicate 32 (.raw (u8 0#8))) []), none⟩,
         ⟨(some 149), (.call 27 [(.const (u32 5#32)), (.tmp 147), (.tmp 148)]), none⟩,
         ⟨(some 146), (.mv (.tmp 149)), none⟩,
         ⟨(some 150), (.ext (.tmp 146) 0), none⟩,
         ⟨(some 151), (.ext (.tmp 146) 1), none⟩,
         ⟨(some 24), (.alloc (.ar 32 L8) (.agg (.ar 32 L8) (List.replicate 32 (.raw (u8 0#8))))), none⟩,
         ⟨none, (.store (.ar 32 L8) (.tmp 24) (.tmp 150)), none⟩,
         ⟨(some 25), (.mv (.tmp 151)), none⟩])
        (.seq
         (.region false [⟨(some 153), (.build S2 [(.agg (.ar 16 L8) (List.replicate 16 (.raw (u8 0#8)))), (.raw (u32 0#32))] []), none⟩,
          ⟨(some 154), (.build (.ar 32 L8) (List.replicate 32 (.raw (u8 0#8))) []), none⟩,
          ⟨(some 155), (.build (.ar 32 L8) (List.replicate 32 (.raw (u8 0#8))) []), none⟩,
          ⟨(some 156), (.call 28 [(.const (u32 0#32)), (.tmp 153), (.tmp 154), (.tmp 155), (.const (.slice none 0 0))]), none⟩,
          ⟨(some 152), (.mv (.tmp 156)), none⟩,
          ⟨(some 157), (.ext (.tmp 152) 0), none⟩,
          ⟨(some 158), (.ext (.tmp 152) 1), none⟩,
          ⟨(some 26), (.mv (.tmp 157)), none⟩,
          ⟨(some 27), (.mv (.tmp 158)), none⟩])
         (.seq
          (.region false [⟨(some 159), (.mv (.tmp 25)), none⟩,
           ⟨(some 160), (.bin .eql (.tmp 159) (.const (it 6))), none⟩,
           ⟨(some 161), (.mv (.tmp 160)), none⟩,
           ⟨(some 162), (.mv (.tmp 27)), some (161, true)⟩,
           ⟨(some 163), (.bin .eql (.tmp 162) (.const (it 6))), some (161, true)⟩,
           ⟨(some 164), (.pick (.tmp 161) (.tmp 163) (.const (.bool false))), none⟩,
           ⟨(some 6), (.mv (.tmp 164)), none⟩])
          .ret)))))))))
def r_law05_OtsSplits : List ARes := [(.tmp 6)]
theorem c_law05_OtsSplits : o2 Go.Proofs.Tryd.f8.body (comp Go.Proofs.Tryd.prog Go.Proofs.Tryd.f8.ntmps) = some a_law05_OtsSplits := by kernel_rfl
theorem s_law05_OtsSplits : cRess Go.Proofs.Tryd.prog Go.Proofs.Tryd.f8.results.toList = some r_law05_OtsSplits := by kernel_rfl
theorem m_law05_OtsSplits (C : Ctx) (hC : CtxOK C Go.Proofs.Tryd.prog) : Meets C.glob Go.Proofs.Tryd.prog 8 (afun C 3 r_law05_OtsSplits a_law05_OtsSplits) :=
  fn_sound hC Go.Proofs.Tryd.func8 c_law05_OtsSplits s_law05_OtsSplits (Nat.le_of_ble_eq_true (by kernel_rfl))

/-- curtilage/curtilagelaw05.awake -/
def a_law05_awake : ACode :=
 (.seq
  (.region false [⟨(some 0), (.mv (.const (.bool false))), none⟩])
  (.seq
   (.region false [⟨(some 8), (.build S2 [(.agg (.ar 16 L8) (List.replicate 16 (.raw (u8 0#8)))), (.raw (u32 0#32))] [(1, (.const (u32 3#32)))]), none⟩,
    ⟨(some 1), (.alloc S2 (.agg S2 [(.agg (.ar 16 L8) (List.replicate 16 (.raw (u8 0#8)))), (.raw (u32 0#32))])), none⟩,
    ⟨none, (.store S2 (.tmp 1) (.tmp 8)), none⟩])
   (.seq
    (.region false [⟨(some 10), (.load S2 (.tmp 1)), none⟩,
     ⟨(some 11), (.build (.ar 32 L8) (List.replicate 32 (.raw (u8 0#8))) [(0, (.const (u8 1#8)))]), none⟩,
     ⟨(some 12), (.call 27 [(.const (u32 3#32)), (.tmp 10), (.tmp 11)]), none⟩,
     ⟨(some 9), (.mv (.tmp 12)), none⟩,
     ⟨(some 13), (.ext (.tmp 9) 0), none⟩,
     ⟨(some 14), (.ext (.tmp 9) 1), none⟩,
     ⟨(some 2), (.alloc (.ar 32 L8) (.agg (.ar 32 L8) (List.replicate 32 (.raw (u8 0#8))))), none⟩,
     ⟨none, (.store (.ar 32 L8) (.tmp 2) (.tmp 13)), none⟩,
     ⟨(some 3), (.mv (.tmp 14)), none⟩])
    (.seq
     (.region false [⟨(some 16), (.load S2 (.tmp 1)), none⟩,
      ⟨(some 17), (.build (.ar 32 L8) (List.replicate 32 (.raw (u8 0#8))) [(0, (.const (u8 1#8)))]), none⟩,
      ⟨(some 18), (.build (.ar 32 L8) (List.replicate 32 (.raw (u8 0#8))) [(0, (.const (u8 2#8)))]), none⟩,
      ⟨(some 19), (.bslice L8 2 (.raw (u8 0#8)) [(0, (.const (u8 104#8))), (1, (.const (u8 105#8)))]), none⟩,
      ⟨(some 20), (.frzb L8 (.tmp 19)), none⟩,
      ⟨(some 21), (.call 28 [(.const (u32 3#32)), (.tmp 16), (.tmp 17), (.tmp 18), (.tmp 20)]), none⟩,
      ⟨(some 15), (.mv (.tmp 21)), none⟩,
      ⟨(some 22), (.ext (.tmp 15) 0), none⟩,
      ⟨(some 23), (.ext (.tmp 15) 1), none⟩,
      ⟨(some 4), (.mv (.tmp 22)), none⟩,
      ⟨(some 5), (.mv (.tmp 23)), none⟩])
     (.seq
      (.region false [⟨(some 25), (.load S2 (.tmp 1)), none⟩,
       ⟨(some 26), (.mv (.tmp 4)), none⟩,
       ⟨(some 27), (.bslice L8 2 (.raw (u8 0#8)) [(0, (.const (u8 104#8))), (1, (.const (u8 105#8)))]), none⟩,
       ⟨(some 28), (.frzb L8 (.tmp 27)), none⟩,
       ⟨(some 29), (.call 29 [(.tmp 25), (.tmp 26), (.tmp 28)]), none⟩,
       ⟨(some 24), (.mv (.tmp 29)), none⟩,
       ⟨(some 30), (.ext (.tmp 24) 0), none⟩,
       ⟨(some 31), (.ext (.tmp 24) 1), none⟩,
       ⟨(some 6), (.alloc (.ar 32 L8) (.agg (.ar 32 L8) (List.replicate 32 (.raw (u8 0#8))))), none⟩,
       ⟨none, (.store (.ar 32 L8) (.tmp 6) (.tmp 30)), none⟩,
       ⟨(some 7), (.mv (.tmp 31)), none⟩])
      (.seq
       (.region false [⟨(some 32), (.mv (.tmp 3)), none⟩,
        ⟨(some 33), (.bin .eql (.tmp 32) (.const (it 0))), none⟩,
        ⟨(some 34), (.mv (.tmp 33)), none⟩,
        ⟨(some 35), (.mv (.tmp 5)), some (34, true)⟩,
        ⟨(some 36), (.bin .eql (.tmp 35) (.const (it 0))), some (34, true)⟩,
        ⟨(some 37), (.pick (.tmp 34) (.tmp 36) (.const (.bool false))), none⟩,
        ⟨(some 38), (.mv (.tmp 37)), none⟩,
        ⟨(some 39), (.mv (.tmp 7)), some (38, true)⟩,
        ⟨(some 40), (.bin .eql (.tmp 39) (.const (it 0))), some (38, true)⟩,
        ⟨(some 41), (.pick (.tmp 38) (.tmp 40) (.const (.bool false))), none⟩,
        ⟨(some 42), (.mv (.tmp 41)), none⟩,
        ⟨(some 43), (.load (.ar 32 L8) (.tmp 6)), some (42, true)⟩,
        ⟨(some 44), (.load (.ar 32 L8) (.tmp 2)), some (42, true)⟩,
        ⟨(some 45), (.eqa (.ar 32 L8) false (.tmp 43) (.tmp 44)), some (42, true)⟩,
        ⟨(some 46), (.pick (.tmp 42) (.tmp 45) (.const (.bool false))), none⟩,
        ⟨(some 47), (.mv (.tmp 46)), none⟩,
        ⟨(some 48), (.load (.ar 32 L8) (.tmp 2)), some (47, true)⟩,
        ⟨(some 49), (.build (.ar 32 L8) (List.replicate 32 (.raw (u8 0#8))) []), some (47, true)⟩,
        ⟨(some 50), (.eqa (.ar 32 L8) true (.tmp 48) (.tmp 49)), some (47, true)⟩,
        ⟨(some 51), (.pick (.tmp 47) (.tmp 50) (.const (.bool false))), none⟩,
        ⟨(some 52), (.mv (.tmp 51)), none⟩,
        ⟨(some 53), (.mv (.tmp 4)), some (52, true)⟩,
        ⟨(some 54), (.len (.tmp 53)), some (52, true)⟩,
        ⟨(some 55), (.bin .eql (.tmp 54) (.const (it 2180))), some (52, true)⟩,
        ⟨(some 56), (.pick (.tmp 52) (.tmp 55) (.const (.bool false))), none⟩,
        ⟨(some 0), (.mv (.tmp 56)), none⟩])
       .ret))))))
def r_law05_awake : List ARes := [(.tmp 0)]
theorem c_law05_awake : o2 Go.Proofs.Tryd.f9.body (comp Go.Proofs.Tryd.prog Go.Proofs.Tryd.f9.ntmps) = some a_law05_awake := by kernel_rfl
theorem s_law05_awake : cRess Go.Proofs.Tryd.prog Go.Proofs.Tryd.f9.results.toList = some r_law05_awake := by kernel_rfl
theorem m_law05_awake (C : Ctx) (hC : CtxOK C Go.Proofs.Tryd.prog) : Meets C.glob Go.Proofs.Tryd.prog 9 (afun C 0 r_law05_awake a_law05_awake) :=
  fn_sound hC Go.Proofs.Tryd.func9 c_law05_awake s_law05_awake (Nat.le_of_ble_eq_true (by kernel_rfl))

/-- curtilage/curtilageref05.Table -/
def a_ref05_Table : ACode :=
 (.seq
  (.region false [⟨(some 2), (.mv (.const (it 0))), none⟩,
   ⟨(some 3), (.mv (.const (it 0))), none⟩,
   ⟨(some 4), (.mv (.const (it 0))), none⟩])
  (.seq
   (.seq
    (.region false [⟨(some 5), (.mv (.tmp 0)), none⟩])
    (.block 0
     (.seq
      (.region false [⟨(some 7), (.bin .eql (.tmp 5) (.const (u32 1#32))), none⟩,
       ⟨(some 6), (.mv (.tmp 7)), none⟩])
      (.cond (.tmp 6)
       (.seq
        (.region false [⟨(some 2), (.mv (.const (it 1))), none⟩,
         ⟨(some 3), (.mv (.const (it 265))), none⟩,
         ⟨(some 4), (.mv (.const (it 7))), none⟩])
        .ret)
       (.seq
        (.region false [⟨(some 9), (.bin .eql (.tmp 5) (.const (u32 2#32))), none⟩,
         ⟨(some 8), (.mv (.tmp 9)), none⟩])
        (.cond (.tmp 8)
         (.seq
          (.region false [⟨(some 2), (.mv (.const (it 2))), none⟩,
           ⟨(some 3), (.mv (.const (it 133))), none⟩,
           ⟨(some 4), (.mv (.const (it 6))), none⟩])
          .ret)
         (.seq
          (.region false [⟨(some 11), (.bin .eql (.tmp 5) (.const (u32 3#32))), none⟩,
           ⟨(some 10), (.mv (.tmp 11)), none⟩])
          (.cond (.tmp 10)
           (.seq
            (.region false [⟨(some 2), (.mv (.const (it 4))), none⟩,
             ⟨(some 3), (.mv (.const (it 67))), none⟩,
             ⟨(some 4), (.mv (.const (it 4))), none⟩])
            .ret)
           (.seq
            (.region false [⟨(some 13), (.bin .eql (.tmp 5) (.const (u32 4#32))), none⟩,
             ⟨(some 12), (.mv (.tmp 13)), none⟩])
            (.cond (.tmp 12)
             (.seq
              (.region false [⟨(some 2), (.mv (.const (it 8))), none⟩,
               ⟨(some 3), (.mv (.const (it 34))), none⟩,
               ⟨(some 4), (.mv (.const (it 0))), none⟩])
              .ret)
             .skip))))))))))
   (.seq
    (.region false [⟨(some 2), (.mv (.const (it 0))), none⟩,
     ⟨(some 3), (.mv (.const (it 0))), none⟩,
     ⟨(some 4), (.mv (.const (it 0))), none⟩])
    .ret)))
def r_ref05_Table : List ARes := [(.tmp 2), (.tmp 3), (.tmp 4)]
theorem c_ref05_Table : o2 Go.Proofs.Tryd.f10.body (comp Go.Proofs.Tryd.prog Go.Proofs.Tryd.f10.ntmps) = some a_ref05_Table := by kernel_rfl
theorem s_ref05_Table : cRess Go.Proofs.Tryd.prog Go.Proofs.Tryd.f10.results.toList = some r_ref05_Table := by kernel_rfl
theorem m_ref05_Table (C : Ctx) (hC : CtxOK C Go.Proofs.Tryd.prog) : Meets C.glob Go.Proofs.Tryd.prog 10 (afun C 1 r_ref05_Table a_ref05_Table) :=
  fn_sound hC Go.Proofs.Tryd.func10 c_ref05_Table s_ref05_Table (Nat.le_of_ble_eq_true (by kernel_rfl))

/-- curtilage/ots.Params -/
def a_ots_Params : ACode :=
 (.seq
  (.region false [⟨(some 2), (.alloc S1 (.agg S1 [(.raw (it 0)), (.raw (it 0)), (.raw (it 0))])), none⟩,
   ⟨(some 3), (.mv (.const (.bool false))), none⟩])
  (.seq
   (.seq
    (.region false [⟨(some 4), (.mv (.tmp 0)), none⟩,
     ⟨(some 5), (.bin .lss (.tmp 4) (.const (u32 1#32))), none⟩,
     ⟨(some 6), (.mv (.tmp 5)), none⟩,
     ⟨(some 7), (.mv (.tmp 0)), some (6, false)⟩,
     ⟨(some 8), (.bin .gtr (.tmp 7) (.const (u32 4#32))), some (6, false)⟩,
     ⟨(some 9), (.pick (.tmp 6) (.const (.bool true)) (.tmp 8)), none⟩])
    (.cond (.tmp 9)
     (.seq
      (.region false [⟨(some 10), (.build S1 [(.raw (it 0)), (.raw (it 0)), (.raw (it 0))] []), none⟩,
       ⟨none, (.store S1 (.tmp 2) (.tmp 10)), none⟩,
       ⟨(some 3), (.mv (.const (.bool false))), none⟩])
      .ret)
     .skip))
   (.seq
    (.region false [⟨(some 11), (.mv (.tmp 0)), none⟩,
     ⟨(some 12), (.bin .sub (.tmp 11) (.const (u32 1#32))), none⟩,
     ⟨(some 13), (.iaddra 4 S1 (.glob 0) (.tmp 12)), none⟩,
     ⟨(some 14), (.load S1 (.tmp 13)), none⟩,
     ⟨none, (.store S1 (.tmp 2) (.tmp 14)), none⟩,
     ⟨(some 3), (.mv (.const (.bool true))), none⟩])
    .ret)))
def r_ots_Params : List ARes := [(.cell 2 S1), (.tmp 3)]
theorem c_ots_Params : o2 Go.Proofs.Tryd.f11.body (comp Go.Proofs.Tryd.prog Go.Proofs.Tryd.f11.ntmps) = some a_ots_Params := by kernel_rfl
theorem s_ots_Params : cRess Go.Proofs.Tryd.prog Go.Proofs.Tryd.f11.results.toList = some r_ots_Params := by kernel_rfl
theorem m_ots_Params (C : Ctx) (hC : CtxOK C Go.Proofs.Tryd.prog) : Meets C.glob Go.Proofs.Tryd.prog 11 (afun C 1 r_ots_Params a_ots_Params) :=
  fn_sound hC Go.Proofs.Tryd.func11 c_ots_Params s_ots_Params (Nat.le_of_ble_eq_true (by kernel_rfl))

/-- curtilage/ots.Digits -/
def a_ots_Digits : ACode :=
 (.seq
  (.region false [⟨(some 3), (.box (.ar 32 L8) (.tmp 1)), none⟩,
   ⟨(some 4), (.mv (.const (.slice none 0 0))), none⟩])
  (.seq
   (.region false [⟨(some 13), (.mv (.tmp 0)), none⟩,
    ⟨(some 14), (.call 11 [(.tmp 13)]), none⟩,
    ⟨(some 12), (.mv (.tmp 14)), none⟩,
    ⟨(some 15), (.ext (.tmp 12) 0), none⟩,
    ⟨(some 16), (.ext (.tmp 12) 1), none⟩,
    ⟨(some 5), (.alloc S1 (.agg S1 [(.raw (it 0)), (.raw (it 0)), (.raw (it 0))])), none⟩,
    ⟨none, (.store S1 (.tmp 5) (.tmp 15)), none⟩,
    ⟨(some 6), (.mv (.tmp 16)), none⟩])
   (.seq
    (.seq
     (.region false [⟨(some 17), (.mv (.tmp 6)), none⟩,
      ⟨(some 18), (.un .not (.tmp 17)), none⟩])
     (.cond (.tmp 18)
      (.seq
       (.region false [⟨(some 4), (.mv (.const (.slice none 0 0))), none⟩])
       .ret)
      .skip))
    (.seq
     (.region false [⟨(some 7), (.mv (.const (it 0))), none⟩])
     (.seq
      (.seq
       (.region false [⟨(some 19), (.faddr S1 (.tmp 5) 0), none⟩,
        ⟨(some 20), (.load LI (.tmp 19)), none⟩,
        ⟨(some 21), (.bin .quo (.const (it 256)) (.tmp 20)), none⟩,
        ⟨(some 22), (.mv (.const (it 0))), none⟩])
       (.block 0
        (.loop
         (.seq
          (.region false [⟨(some 23), (.bin .lss (.tmp 22) (.tmp 21)), none⟩])
          (.seq
           (.cond (.tmp 23)
            .skip
            (.exit 0))
           (.seq
            (.block 1
             (.seq
              (.region false [⟨(some 24), (.mv (.tmp 22)), none⟩,
               ⟨(some 8), (.mv (.tmp 24)), none⟩])
              (.region true [⟨(some 25), (.mv (.tmp 7)), none⟩,
               ⟨(some 26), (.load S1 (.tmp 5)), none⟩,
               ⟨(some 27), (.call 33 [(.tmp 26)]), none⟩,
               ⟨(some 28), (.slicea 32 L8 (.tmp 3) none none none), none⟩,
               ⟨(some 29), (.mv (.tmp 8)), none⟩,
               ⟨(some 30), (.faddr S1 (.tmp 5) 0), none⟩,
               ⟨(some 31), (.load LI (.tmp 30)), none⟩,
               ⟨(some 32), (.call 17 [(.tmp 28), (.tmp 29), (.tmp 31)]), none⟩,
               ⟨(some 33), (.bin .sub (.tmp 27) (.tmp 32)), none⟩,
               ⟨(some 34), (.bin .add (.tmp 25) (.tmp 33)), none⟩,
               ⟨(some 7), (.mv (.tmp 34)), none⟩])))
            (.region false [⟨(some 35), (.bin .add (.tmp 22) (.const (it 1))), none⟩,
             ⟨(some 22), (.mv (.tmp 35)), none⟩])))))))
      (.seq
       (.region true [⟨(some 36), (.slicea 32 L8 (.tmp 3) none none none), none⟩,
        ⟨(some 37), (.mv (.tmp 7)), none⟩,
        ⟨(some 38), (.faddr S1 (.tmp 5) 2), none⟩,
        ⟨(some 39), (.load LI (.tmp 38)), none⟩,
        ⟨(some 40), (.bin .shl (.tmp 37) (.tmp 39)), none⟩,
        ⟨(some 41), (.call 34 [(.tmp 40)]), none⟩,
        ⟨(some 42), (.append L8 1 (.tmp 36) (.tmp 41)), none⟩,
        ⟨(some 9), (.mv (.tmp 42)), none⟩])
       (.seq
        (.region false [⟨(some 43), (.faddr S1 (.tmp 5) 1), none⟩,
         ⟨(some 44), (.load LI (.tmp 43)), none⟩,
         ⟨(some 45), (.mks LI 8 (.raw (it 0)) (.const (it 0)) (.tmp 44)), none⟩,
         ⟨(some 10), (.mv (.tmp 45)), none⟩])
        (.seq
         (.seq
          (.region false [⟨(some 46), (.faddr S1 (.tmp 5) 1), none⟩,
           ⟨(some 47), (.load LI (.tmp 46)), none⟩,
           ⟨(some 48), (.mv (.const (it 0))), none⟩])
          (.block 2
           (.loop
            (.seq
             (.region false [⟨(some 49), (.bin .lss (.tmp 48) (.tmp 47)), none⟩])
             (.seq
              (.cond (.tmp 49)
               .skip
               (.exit 2))
              (.seq
               (.block 3
                (.seq
                 (.region false [⟨(some 50), (.mv (.tmp 48)), none⟩,
                  ⟨(some 11), (.mv (.tmp 50)), none⟩])
                 (.region false [⟨(some 51), (.mv (.tmp 10)), none⟩,
                  ⟨(some 52), (.mv (.tmp 9)), none⟩,
                  ⟨(some 53), (.mv (.tmp 11)), none⟩,
                  ⟨(some 54), (.faddr S1 (.tmp 5) 0), none⟩,
                  ⟨(some 55), (.load LI (.tmp 54)), none⟩,
                  ⟨(some 56), (.call 17 [(.tmp 52), (.tmp 53), (.tmp 55)]), none⟩,
                  ⟨(some 57), (.bslice LI 1 (.raw (it 0)) [(0, (.tmp 56))]), none⟩,
                  ⟨(some 58), (.append LI 8 (.tmp 51) (.tmp 57)), none⟩,
                  ⟨(some 10), (.mv (.tmp 58)), none⟩])))
               (.region false [⟨(some 59), (.bin .add (.tmp 48) (.const (it 1))), none⟩,
                ⟨(some 48), (.mv (.tmp 59)), none⟩])))))))
         (.seq
          (.region false [⟨(some 60), (.mv (.tmp 10)), none⟩,
           ⟨(some 4), (.mv (.tmp 60)), none⟩])
          .ret)))))))))
def r_ots_Digits : List ARes := [(.tmp 4)]
theorem c_ots_Digits : o2 Go.Proofs.Tryd.f12.body (comp Go.Proofs.Tryd.prog Go.Proofs.Tryd.f12.ntmps) = some a_ots_Digits := by kernel_rfl
theorem s_ots_Digits : cRess Go.Proofs.Tryd.prog Go.Proofs.Tryd.f12.results.toList = some r_ots_Digits := by kernel_rfl
theorem m_ots_Digits (C : Ctx) (hC : CtxOK C Go.Proofs.Tryd.prog) : Meets C.glob Go.Proofs.Tryd.prog 12 (afun C 2 r_ots_Digits a_ots_Digits) :=
  fn_sound hC Go.Proofs.Tryd.func12 c_ots_Digits s_ots_Digits (Nat.le_of_ble_eq_true (by kernel_rfl))

/-- curtilage/curtilageref05.All -/
def a_ref05_All : ACode :=
 (.seq
  (.region false [⟨(some 3), (.box (.ar 32 L8) (.tmp 1)), none⟩,
   ⟨(some 4), (.mv (.const (.slice none 0 0))), none⟩])
  (.seq
   (.region false [⟨(some 12), (.mv (.tmp 0)), none⟩,
    ⟨(some 13), (.call 10 [(.tmp 12)]), none⟩,
    ⟨(some 11), (.mv (.tmp 13)), none⟩,
    ⟨(some 14), (.ext (.tmp 11) 0), none⟩,
    ⟨(some 15), (.ext (.tmp 11) 1), none⟩,
    ⟨(some 16), (.ext (.tmp 11) 2), none⟩,
    ⟨(some 5), (.mv (.tmp 14)), none⟩,
    ⟨(some 6), (.mv (.tmp 15)), none⟩,
    ⟨(some 7), (.mv (.tmp 16)), none⟩])
   (.seq
    (.seq
     (.region false [⟨(some 17), (.mv (.tmp 5)), none⟩,
      ⟨(some 18), (.bin .eql (.tmp 17) (.const (it 0))), none⟩])
     (.cond (.tmp 18)
      (.seq
       (.region false [⟨(some 4), (.mv (.const (.slice none 0 0))), none⟩])
       .ret)
      .skip))
    (.seq
     (.region false [⟨(some 8), (.mv (.const (u64 0#64))), none⟩])
     (.seq
      (.seq
       (.region true [⟨(some 19), (.slicea 32 L8 (.tmp 3) none none none), none⟩,
        ⟨(some 20), (.call 16 [(.tmp 19)]), none⟩,
        ⟨(some 21), (.mv (.tmp 5)), none⟩,
        ⟨(some 22), (.mv (.tmp 5)), none⟩,
        ⟨(some 23), (.bin .quo (.const (it 256)) (.tmp 22)), none⟩,
        ⟨(some 24), (.call 15 [(.tmp 20), (.tmp 21), (.tmp 23)]), none⟩,
        ⟨(some 25), (.len (.tmp 24)), none⟩,
        ⟨(some 26), (.mv (.const (it 0))), none⟩])
       (.block 0
        (.loop
         (.seq
          (.region false [⟨(some 27), (.bin .lss (.tmp 26) (.tmp 25)), none⟩])
          (.seq
           (.cond (.tmp 27)
            .skip
            (.exit 0))
           (.seq
            (.block 1
             (.seq
              (.region false [⟨(some 28), (.iaddrs LI (.tmp 24) (.tmp 26)), none⟩,
               ⟨(some 29), (.load LI (.tmp 28)), none⟩,
               ⟨(some 10), (.mv (.tmp 29)), none⟩])
              (.region false [⟨(some 30), (.mv (.tmp 8)), none⟩,
               ⟨(some 31), (.mv (.tmp 5)), none⟩,
               ⟨(some 32), (.bin .shl (.const (u64 1#64)) (.tmp 31)), none⟩,
               ⟨(some 33), (.bin .sub (.tmp 32) (.const (u64 1#64))), none⟩,
               ⟨(some 34), (.mv (.tmp 10)), none⟩,
               ⟨(some 35), (.conv .u64 (.tmp 34)), none⟩,
               ⟨(some 36), (.bin .sub (.tmp 33) (.tmp 35)), none⟩,
               ⟨(some 37), (.bin .add (.tmp 30) (.tmp 36)), none⟩,
               ⟨(some 8), (.mv (.tmp 37)), none⟩])))
            (.region false [⟨(some 38), (.bin .add (.tmp 26) (.const (it 1))), none⟩,
             ⟨(some 26), (.mv (.tmp 38)), none⟩])))))))
      (.seq
       (.draw1 [⟨(some 39), (.slicea 32 L8 (.tmp 3) none none none), none⟩,
        ⟨(some 40), (.mv (.tmp 8)), none⟩,
        ⟨(some 41), (.mv (.tmp 7)), none⟩,
        ⟨(some 42), (.bin .shl (.tmp 40) (.tmp 41)), none⟩,
        ⟨(some 43), (.call 31 [(.tmp 42), (.const (it 2))]), none⟩,
        ⟨(some 44), (.bslice .ref 2 (.raw (.slice none 0 0)) [(0, (.tmp 39)), (1, (.tmp 43))]), none⟩,
        ⟨(some 45), (.call 35 [(.tmp 44)]), none⟩,
        ⟨(some 46), (.call 16 [(.tmp 45)]), none⟩,
        ⟨(some 47), (.mv (.tmp 5)), none⟩,
        ⟨(some 48), (.mv (.tmp 6)), none⟩]
        [⟨(some 49), (.call 15 [(.tmp 46), (.tmp 47), (.tmp 48)]), none⟩,
        ⟨(some 4), (.mv (.tmp 49)), none⟩])
       .ret))))))
def r_ref05_All : List ARes := [(.tmp 4)]
theorem c_ref05_All : o2 Go.Proofs.Tryd.f13.body (comp Go.Proofs.Tryd.prog Go.Proofs.Tryd.f13.ntmps) = some a_ref05_All := by kernel_rfl
theorem s_ref05_All : cRess Go.Proofs.Tryd.prog Go.Proofs.Tryd.f13.results.toList = some r_ref05_All := by kernel_rfl
theorem m_ref05_All (C : Ctx) (hC : CtxOK C Go.Proofs.Tryd.prog) : Meets C.glob Go.Proofs.Tryd.prog 13 (afun C 2 r_ref05_All a_ref05_All) :=
  fn_sound hC Go.Proofs.Tryd.func13 c_ref05_All s_ref05_All (Nat.le_of_ble_eq_true (by kernel_rfl))

/-- curtilage/curtilageref01.Cut -/
def a_ref01_Cut : ACode :=
 (.seq
  (.region false [⟨(some 4), (.mv (.const (.slice none 0 0))), none⟩])
  (.seq
   (.region false [⟨(some 5), (.mv (.const (.slice none 0 0))), none⟩])
   (.seq
    (.seq
     (.region false [⟨(some 8), (.mv (.tmp 0)), none⟩,
      ⟨(some 9), (.len (.tmp 8)), none⟩,
      ⟨(some 10), (.mv (.const (it 0))), none⟩])
     (.block 0
      (.loop
       (.seq
        (.region false [⟨(some 11), (.bin .lss (.tmp 10) (.tmp 9)), none⟩])
        (.seq
         (.cond (.tmp 11)
          .skip
          (.exit 0))
         (.seq
          (.block 1
           (.seq
            (.region false [⟨(some 12), (.mv (.tmp 10)), none⟩,
             ⟨(some 13), (.iaddrs L8 (.tmp 8) (.tmp 10)), none⟩,
             ⟨(some 14), (.load L8 (.tmp 13)), none⟩,
             ⟨(some 6), (.mv (.tmp 12)), none⟩,
             ⟨(some 7), (.mv (.tmp 14)), none⟩])
            (.seq
             (.region false [⟨(some 15), (.mv (.tmp 6)), none⟩,
              ⟨(some 16), (.mv (.tmp 1)), none⟩,
              ⟨(some 17), (.bin .lss (.tmp 15) (.tmp 16)), none⟩])
             (.cond (.tmp 17)
              (.region false [⟨(some 18), (.mv (.tmp 5)), none⟩,
               ⟨(some 19), (.mv (.tmp 7)), none⟩,
               ⟨(some 20), (.bslice L8 1 (.raw (u8 0#8)) [(0, (.tmp 19))]), none⟩,
               ⟨(some 21), (.append L8 1 (.tmp 18) (.tmp 20)), none⟩,
               ⟨(some 5), (.mv (.tmp 21)), none⟩])
              .skip))))
          (.region false [⟨(some 22), (.bin .add (.tmp 10) (.const (it 1))), none⟩,
           ⟨(some 10), (.mv (.tmp 22)), none⟩])))))))
    (.seq
     (.region false [⟨(some 23), (.mv (.tmp 5)), none⟩,
      ⟨(some 4), (.mv (.tmp 23)), none⟩])
     .ret))))
def r_ref01_Cut : List ARes := [(.tmp 4)]
theorem c_ref01_Cut : o2 Go.Proofs.Tryd.f14.body (comp Go.Proofs.Tryd.prog Go.Proofs.Tryd.f14.ntmps) = some a_ref01_Cut := by kernel_rfl
theorem s_ref01_Cut : cRess Go.Proofs.Tryd.prog Go.Proofs.Tryd.f14.results.toList = some r_ref01_Cut := by kernel_rfl
theorem m_ref01_Cut (C : Ctx) (hC : CtxOK C Go.Proofs.Tryd.prog) : Meets C.glob Go.Proofs.Tryd.prog 14 (afun C 2 r_ref01_Cut a_ref01_Cut) :=
  fn_sound hC Go.Proofs.Tryd.func14 c_ref01_Cut s_ref01_Cut (Nat.le_of_ble_eq_true (by kernel_rfl))

/-- curtilage/curtilageref05.Digits -/
def a_ref05_Digits : ACode :=
 (.seq
  (.region false [⟨(some 6), (.mv (.const (.slice none 0 0))), none⟩])
  (.seq
   (.region false [⟨(some 7), (.mv (.const (.slice none 0 0))), none⟩])
   (.seq
    (.seq
     (.region false [⟨(some 8), (.mv (.const (it 0))), none⟩])
     (.block 0
      (.loop
       (.seq
        (.seq
         (.region false [⟨(some 11), (.mv (.tmp 8)), none⟩,
          ⟨(some 12), (.mv (.tmp 2)), none⟩,
          ⟨(some 13), (.bin .lss (.tmp 11) (.tmp 12)), none⟩])
         (.cond (.tmp 13)
          .skip
          (.exit 0)))
        (.seq
         (.block 1
          (.seq
           (.region false [⟨(some 9), (.mv (.const (it 0))), none⟩])
           (.seq
            (.seq
             (.region false [⟨(some 10), (.mv (.const (it 0))), none⟩])
             (.block 2
              (.loop
               (.seq
                (.seq
                 (.region false [⟨(some 16), (.mv (.tmp 10)), none⟩,
                  ⟨(some 17), (.mv (.tmp 1)), none⟩,
                  ⟨(some 18), (.bin .lss (.tmp 16) (.tmp 17)), none⟩])
                 (.cond (.tmp 18)
                  .skip
                  (.exit 2)))
                (.seq
                 (.block 3
                  (.seq
                   (.region false [⟨(some 21), (.mv (.tmp 9)), none⟩,
                    ⟨(some 22), (.bin .mul (.tmp 21) (.const (it 2))), none⟩,
                    ⟨(some 9), (.mv (.tmp 22)), none⟩])
                   (.seq
                    (.region false [⟨(some 23), (.mv (.tmp 1)), none⟩,
                     ⟨(some 24), (.mv (.tmp 8)), none⟩,
                     ⟨(some 25), (.bin .mul (.tmp 23) (.tmp 24)), none⟩,
                     ⟨(some 26), (.mv (.tmp 10)), none⟩,
                     ⟨(some 27), (.bin .add (.tmp 25) (.tmp 26)), none⟩,
                     ⟨(some 28), (.mv (.tmp 0)), none⟩,
                     ⟨(some 29), (.len (.tmp 28)), none⟩,
                     ⟨(some 30), (.bin .lss (.tmp 27) (.tmp 29)), none⟩])
                    (.cond (.tmp 30)
                     (.region false [⟨(some 31), (.mv (.tmp 9)), none⟩,
                      ⟨(some 32), (.mv (.tmp 0)), none⟩,
                      ⟨(some 33), (.mv (.tmp 1)), none⟩,
                      ⟨(some 34), (.mv (.tmp 8)), none⟩,
                      ⟨(some 35), (.bin .mul (.tmp 33) (.tmp 34)), none⟩,
                      ⟨(some 36), (.mv (.tmp 10)), none⟩,
                      ⟨(some 37), (.bin .add (.tmp 35) (.tmp 36)), none⟩,
                      ⟨(some 38), (.iaddrs LI (.tmp 32) (.tmp 37)), none⟩,
                      ⟨(some 39), (.load LI (.tmp 38)), none⟩,
                      ⟨(some 40), (.bin .add (.tmp 31) (.tmp 39)), none⟩,
                      ⟨(some 9), (.mv (.tmp 40)), none⟩])
                     .skip))))
                 (.region false [⟨(some 19), (.mv (.tmp 10)), none⟩,
                  ⟨(some 20), (.bin .add (.tmp 19) (.const (it 1))), none⟩,
                  ⟨(some 10), (.mv (.tmp 20)), none⟩]))))))
            (.region false [⟨(some 41), (.mv (.tmp 7)), none⟩,
             ⟨(some 42), (.mv (.tmp 9)), none⟩,
             ⟨(some 43), (.bslice LI 1 (.raw (it 0)) [(0, (.tmp 42))]), none⟩,
             ⟨(some 44), (.append LI 8 (.tmp 41) (.tmp 43)), none⟩,
             ⟨(some 7), (.mv (.tmp 44)), none⟩]))))
         (.region false [⟨(some 14), (.mv (.tmp 8)), none⟩,
          ⟨(some 15), (.bin .add (.tmp 14) (.const (it 1))), none⟩,
          ⟨(some 8), (.mv (.tmp 15)), none⟩]))))))
    (.seq
     (.region false [⟨(some 45), (.mv (.tmp 7)), none⟩,
      ⟨(some 6), (.mv (.tmp 45)), none⟩])
     .ret))))
def r_ref05_Digits : List ARes := [(.tmp 6)]
theorem c_ref05_Digits : o2 Go.Proofs.Tryd.f15.body (comp Go.Proofs.Tryd.prog Go.Proofs.Tryd.f15.ntmps) = some a_ref05_Digits := by kernel_rfl
theorem s_ref05_Digits : cRess Go.Proofs.Tryd.prog Go.Proofs.Tryd.f15.results.toList = some r_ref05_Digits := by kernel_rfl
theorem m_ref05_Digits (C : Ctx) (hC : CtxOK C Go.Proofs.Tryd.prog) : Meets C.glob Go.Proofs.Tryd.prog 15 (afun C 3 r_ref05_Digits a_ref05_Digits) :=
  fn_sound hC Go.Proofs.Tryd.func15 c_ref05_Digits s_ref05_Digits (Nat.le_of_ble_eq_true (by kernel_rfl))

/-- curtilage/curtilageref05.Bits -/
def a_ref05_Bits : ACode :=
 (.seq
  (.region false [⟨(some 2), (.mv (.const (.slice none 0 0))), none⟩])
  (.seq
   (.region false [⟨(some 3), (.mv (.const (.slice none 0 0))), none⟩])
   (.seq
    (.seq
     (.region false [⟨(some 7), (.mv (.tmp 0)), none⟩,
      ⟨(some 8), (.len (.tmp 7)), none⟩,
      ⟨(some 9), (.mv (.const (it 0))), none⟩])
     (.block 0
      (.loop
       (.seq
        (.region false [⟨(some 10), (.bin .lss (.tmp 9) (.tmp 8)), none⟩])
        (.seq
         (.cond (.tmp 10)
          .skip
          (.exit 0))
         (.seq
          (.block 1
           (.seq
            (.region false [⟨(some 11), (.iaddrs L8 (.tmp 7) (.tmp 9)), none⟩,
             ⟨(some 12), (.load L8 (.tmp 11)), none⟩,
             ⟨(some 5), (.mv (.tmp 12)), none⟩])
            (.seq
             (.region false [⟨(some 6), (.mv (.const (it 7))), none⟩])
             (.block 2
              (.loop
               (.seq
                (.seq
                 (.region false [⟨(some 13), (.mv (.tmp 6)), none⟩,
                  ⟨(some 14), (.bin .geq (.tmp 13) (.const (it 0))), none⟩])
                 (.cond (.tmp 14)
                  .skip
                  (.exit 2)))
                (.seq
                 (.block 3
                  (.region false [⟨(some 17), (.mv (.tmp 3)), none⟩,
                   ⟨(some 18), (.mv (.tmp 5)), none⟩,
                   ⟨(some 19), (.conv .i64 (.tmp 18)), none⟩,
                   ⟨(some 20), (.mv (.tmp 6)), none⟩,
                   ⟨(some 21), (.bin .shr (.tmp 19) (.tmp 20)), none⟩,
                   ⟨(some 22), (.bin .rem (.tmp 21) (.const (it 2))), none⟩,
                   ⟨(some 23), (.bslice LI 1 (.raw (it 0)) [(0, (.tmp 22))]), none⟩,
                   ⟨(some 24), (.append LI 8 (.tmp 17) (.tmp 23)), none⟩,
                   ⟨(some 3), (.mv (.tmp 24)), none⟩]))
                 (.region false [⟨(some 15), (.mv (.tmp 6)), none⟩,
                  ⟨(some 16), (.bin .sub (.tmp 15) (.const (it 1))), none⟩,
                  ⟨(some 6), (.mv (.tmp 16)), none⟩]))))))))
          (.region false [⟨(some 25), (.bin .add (.tmp 9) (.const (it 1))), none⟩,
           ⟨(some 9), (.mv (.tmp 25)), none⟩])))))))
    (.seq
     (.region false [⟨(some 26), (.mv (.tmp 3)), none⟩,
      ⟨(some 2), (.mv (.tmp 26)), none⟩])
     .ret))))
def r_ref05_Bits : List ARes := [(.tmp 2)]
theorem c_ref05_Bits : o2 Go.Proofs.Tryd.f16.body (comp Go.Proofs.Tryd.prog Go.Proofs.Tryd.f16.ntmps) = some a_ref05_Bits := by kernel_rfl
theorem s_ref05_Bits : cRess Go.Proofs.Tryd.prog Go.Proofs.Tryd.f16.results.toList = some r_ref05_Bits := by kernel_rfl
theorem m_ref05_Bits (C : Ctx) (hC : CtxOK C Go.Proofs.Tryd.prog) : Meets C.glob Go.Proofs.Tryd.prog 16 (afun C 1 r_ref05_Bits a_ref05_Bits) :=
  fn_sound hC Go.Proofs.Tryd.func16 c_ref05_Bits s_ref05_Bits (Nat.le_of_ble_eq_true (by kernel_rfl))

/-- curtilage/ots.Coef -/
def a_ots_Coef : ACode :=
 (.seq
  (.region false [⟨(some 6), (.mv (.const (it 0))), none⟩])
  (.seq
   (.seq
    (.region false [⟨(some 9), (.mv (.tmp 2)), none⟩,
     ⟨(some 10), (.bin .neq (.tmp 9) (.const (it 1))), none⟩,
     ⟨(some 11), (.mv (.tmp 10)), none⟩,
     ⟨(some 12), (.mv (.tmp 2)), some (11, true)⟩,
     ⟨(some 13), (.bin .neq (.tmp 12) (.const (it 2))), some (11, true)⟩,
     ⟨(some 14), (.pick (.tmp 11) (.tmp 13) (.const (.bool false))), none⟩,
     ⟨(some 15), (.mv (.tmp 14)), none⟩,
     ⟨(some 16), (.mv (.tmp 2)), some (15, true)⟩,
     ⟨(some 17), (.bin .neq (.tmp 16) (.const (it 4))), some (15, true)⟩,
     ⟨(some 18), (.pick (.tmp 15) (.tmp 17) (.const (.bool false))), none⟩,
     ⟨(some 19), (.mv (.tmp 18)), none⟩,
     ⟨(some 20), (.mv (.tmp 2)), some (19, true)⟩,
     ⟨(some 21), (.bin .neq (.tmp 20) (.const (it 8))), some (19, true)⟩,
     ⟨(some 22), (.pick (.tmp 19) (.tmp 21) (.const (.bool false))), none⟩,
     ⟨(some 23), (.mv (.tmp 22)), none⟩,
     ⟨(some 24), (.mv (.tmp 1)), some (23, false)⟩,
     ⟨(some 25), (.bin .lss (.tmp 24) (.const (it 0))), some (23, false)⟩,
     ⟨(some 26), (.pick (.tmp 23) (.const (.bool true)) (.tmp 25)), none⟩,
     ⟨(some 27), (.mv (.tmp 26)), none⟩,
     ⟨(some 28), (.mv (.tmp 1)), some (27, false)⟩,
     ⟨(some 29), (.mv (.tmp 0)), some (27, false)⟩,
     ⟨(some 30), (.len (.tmp 29)), some (27, false)⟩,
     ⟨(some 31), (.mv (.tmp 2)), some (27, false)⟩,
     ⟨(some 32), (.bin .quo (.const (it 8)) (.tmp 31)), some (27, false)⟩,
     ⟨(some 33), (.bin .mul (.tmp 30) (.tmp 32)), some (27, false)⟩,
     ⟨(some 34), (.bin .geq (.tmp 28) (.tmp 33)), some (27, false)⟩,
     ⟨(some 35), (.pick (.tmp 27) (.const (.bool true)) (.tmp 34)), none⟩])
    (.cond (.tmp 35)
     (.seq
      (.region false [⟨(some 6), (.mv (.const (it 0))), none⟩])
      .ret)
     .skip))
   (.seq
    (.region false [⟨(some 36), (.mv (.tmp 2)), none⟩,
     ⟨(some 37), (.bin .quo (.const (it 8)) (.tmp 36)), none⟩,
     ⟨(some 7), (.mv (.tmp 37)), none⟩])
    (.seq
     (.region false [⟨(some 38), (.mv (.tmp 0)), none⟩,
      ⟨(some 39), (.mv (.tmp 1)), none⟩,
      ⟨(some 40), (.mv (.tmp 7)), none⟩,
      ⟨(some 41), (.bin .quo (.tmp 39) (.tmp 40)), none⟩,
      ⟨(some 42), (.iaddrs L8 (.tmp 38) (.tmp 41)), none⟩,
      ⟨(some 43), (.load L8 (.tmp 42)), none⟩,
      ⟨(some 8), (.mv (.tmp 43)), none⟩])
     (.seq
      (.region true [⟨(some 44), (.mv (.tmp 8)), none⟩,
       ⟨(some 45), (.mv (.tmp 2)), none⟩,
       ⟨(some 46), (.mv (.tmp 1)), none⟩,
       ⟨(some 47), (.mv (.tmp 7)), none⟩,
       ⟨(some 48), (.bin .rem (.tmp 46) (.tmp 47)), none⟩,
       ⟨(some 49), (.bin .mul (.tmp 45) (.tmp 48)), none⟩,
       ⟨(some 50), (.bin .sub (.const (it 8)) (.tmp 49)), none⟩,
       ⟨(some 51), (.mv (.tmp 2)), none⟩,
       ⟨(some 52), (.bin .sub (.tmp 50) (.tmp 51)), none⟩,
       ⟨(some 53), (.bin .shr (.tmp 44) (.tmp 52)), none⟩,
       ⟨(some 54), (.mv (.tmp 2)), none⟩,
       ⟨(some 55), (.bin .shl (.const (u8 1#8)) (.tmp 54)), none⟩,
       ⟨(some 56), (.bin .sub (.tmp 55) (.const (u8 1#8))), none⟩,
       ⟨(some 57), (.bin .and (.tmp 53) (.tmp 56)), none⟩,
       ⟨(some 58), (.conv .i64 (.tmp 57)), none⟩,
       ⟨(some 6), (.mv (.tmp 58)), none⟩])
      .ret)))))
def r_ots_Coef : List ARes := [(.tmp 6)]
theorem c_ots_Coef : o2 Go.Proofs.Tryd.f17.body (comp Go.Proofs.Tryd.prog Go.Proofs.Tryd.f17.ntmps) = some a_ots_Coef := by kernel_rfl
theorem s_ots_Coef : cRess Go.Proofs.Tryd.prog Go.Proofs.Tryd.f17.results.toList = some r_ots_Coef := by kernel_rfl
theorem m_ots_Coef (C : Ctx) (hC : CtxOK C Go.Proofs.Tryd.prog) : Meets C.glob Go.Proofs.Tryd.prog 17 (afun C 3 r_ots_Coef a_ots_Coef) :=
  fn_sound hC Go.Proofs.Tryd.func17 c_ots_Coef s_ots_Coef (Nat.le_of_ble_eq_true (by kernel_rfl))

/-- curtilage/curtilageref05.Step -/
def a_ref05_Step : ACode :=
 (.seq
  (.region false [⟨(some 5), (.box (.ar 16 L8) (.tmp 0)), none⟩,
   ⟨(some 9), (.box (.ar 32 L8) (.tmp 4)), none⟩,
   ⟨(some 10), (.alloc (.ar 32 L8) (.agg (.ar 32 L8) (List.replicate 32 (.raw (u8 0#8))))), none⟩])
  (.seq
   (.draw1 [⟨(some 11), (.slicea 16 L8 (.tmp 5) none none none), none⟩,
    ⟨(some 12), (.mv (.tmp 1)), none⟩,
    ⟨(some 13), (.conv .u64 (.tmp 12)), none⟩,
    ⟨(some 14), (.call 31 [(.tmp 13), (.const (it 4))]), none⟩,
    ⟨(some 15), (.mv (.tmp 2)), none⟩,
    ⟨(some 16), (.conv .u64 (.tmp 15)), none⟩,
    ⟨(some 17), (.call 31 [(.tmp 16), (.const (it 2))]), none⟩,
    ⟨(some 18), (.mv (.tmp 3)), none⟩,
    ⟨(some 19), (.conv .u64 (.tmp 18)), none⟩,
    ⟨(some 20), (.call 31 [(.tmp 19), (.const (it 1))]), none⟩,
    ⟨(some 21), (.slicea 32 L8 (.tmp 9) none none none), none⟩]
    [⟨(some 22), (.bslice .ref 5 (.raw (.slice none 0 0)) [(0, (.tmp 11)), (1, (.tmp 14)), (2, (.tmp 17)), (3, (.tmp 20)), (4, (.tmp 21))]), none⟩,
    ⟨(some 23), (.call 35 [(.tmp 22)]), none⟩,
    ⟨(some 24), (.call 36 [(.tmp 23)]), none⟩,
    ⟨none, (.store (.ar 32 L8) (.tmp 10) (.tmp 24)), none⟩])
   .ret))
def r_ref05_Step : List ARes := [(.cell 10 (.ar 32 L8))]
theorem c_ref05_Step : o2 Go.Proofs.Tryd.f18.body (comp Go.Proofs.Tryd.prog Go.Proofs.Tryd.f18.ntmps) = some a_ref05_Step := by kernel_rfl
theorem s_ref05_Step : cRess Go.Proofs.Tryd.prog Go.Proofs.Tryd.f18.results.toList = some r_ref05_Step := by kernel_rfl
theorem m_ref05_Step (C : Ctx) (hC : CtxOK C Go.Proofs.Tryd.prog) : Meets C.glob Go.Proofs.Tryd.prog 18 (afun C 5 r_ref05_Step a_ref05_Step) :=
  fn_sound hC Go.Proofs.Tryd.func18 c_ref05_Step s_ref05_Step (Nat.le_of_ble_eq_true (by kernel_rfl))

/-- curtilage/ots.Chain -/
def a_ots_Chain : ACode :=
 (.seq
  (.region false [⟨(some 5), (.box S2 (.tmp 0)), none⟩,
   ⟨(some 9), (.box (.ar 32 L8) (.tmp 4)), none⟩,
   ⟨(some 10), (.alloc (.ar 32 L8) (.agg (.ar 32 L8) (List.replicate 32 (.raw (u8 0#8))))), none⟩])
  (.seq
   (.seq
    (.region false [⟨(some 12), (.mv (.tmp 2)), none⟩,
     ⟨(some 13), (.minmax true [(.tmp 12), (.const (it 0))]), none⟩,
     ⟨(some 11), (.mv (.tmp 13)), none⟩])
    (.block 0
     (.loop
      (.seq
       (.seq
        (.region false [⟨(some 14), (.mv (.tmp 11)), none⟩,
         ⟨(some 15), (.mv (.tmp 3)), none⟩,
         ⟨(some 16), (.minmax false [(.tmp 15), (.const (it 256))]), none⟩,
         ⟨(some 17), (.bin .lss (.tmp 14) (.tmp 16)), none⟩])
        (.cond (.tmp 17)
         .skip
         (.exit 0)))
       (.seq
        (.block 1
         (.region false [⟨(some 20), (.load S2 (.tmp 5)), none⟩,
          ⟨(some 21), (.mv (.tmp 1)), none⟩,
          ⟨(some 22), (.mv (.tmp 11)), none⟩,
          ⟨(some 23), (.load (.ar 32 L8) (.tmp 9)), none⟩,
          ⟨(some 24), (.call 20 [(.tmp 20), (.tmp 21), (.tmp 22), (.tmp 23)]), none⟩,
          ⟨none, (.store (.ar 32 L8) (.tmp 9) (.tmp 24)), none⟩]))
        (.region false [⟨(some 18), (.mv (.tmp 11)), none⟩,
         ⟨(some 19), (.bin .add (.tmp 18) (.const (it 1))), none⟩,
         ⟨(some 11), (.mv (.tmp 19)), none⟩]))))))
   (.seq
    (.region false [⟨(some 25), (.load (.ar 32 L8) (.tmp 9)), none⟩,
     ⟨none, (.store (.ar 32 L8) (.tmp 10) (.tmp 25)), none⟩])
    .ret)))
def r_ots_Chain : List ARes := [(.cell 10 (.ar 32 L8))]
theorem c_ots_Chain : o2 Go.Proofs.Tryd.f19.body (comp Go.Proofs.Tryd.prog Go.Proofs.Tryd.f19.ntmps) = some a_ots_Chain := by kernel_rfl
theorem s_ots_Chain : cRess Go.Proofs.Tryd.prog Go.Proofs.Tryd.f19.results.toList = some r_ots_Chain := by kernel_rfl
theorem m_ots_Chain (C : Ctx) (hC : CtxOK C Go.Proofs.Tryd.prog) : Meets C.glob Go.Proofs.Tryd.prog 19 (afun C 5 r_ots_Chain a_ots_Chain) :=
  fn_sound hC Go.Proofs.Tryd.func19 c_ots_Chain s_ots_Chain (Nat.le_of_ble_eq_true (by kernel_rfl))

/-- curtilage/ots.Step -/
def a_ots_Step : ACode :=
 (.seq
  (.region false [⟨(some 4), (.box S2 (.tmp 0)), none⟩,
   ⟨(some 7), (.box (.ar 32 L8) (.tmp 3)), none⟩,
   ⟨(some 8), (.alloc (.ar 32 L8) (.agg (.ar 32 L8) (List.replicate 32 (.raw (u8 0#8))))), none⟩])
  (.seq
   (.draw1 [⟨(some 9), (.load S2 (.tmp 4)), none⟩,
    ⟨(some 10), (.call 37 [(.tmp 9)]), none⟩,
    ⟨(some 11), (.mv (.tmp 1)), none⟩,
    ⟨(some 12), (.call 34 [(.tmp 11)]), none⟩,
    ⟨(some 13), (.call 38 [(.tmp 10), (.tmp 12)]), none⟩,
    ⟨(some 14), (.mv (.tmp 2)), none⟩,
    ⟨(some 15), (.conv .u8 (.tmp 14)), none⟩,
    ⟨(some 16), (.bslice L8 1 (.raw (u8 0#8)) [(0, (.tmp 15))]), none⟩,
    ⟨(some 17), (.call 38 [(.tmp 13), (.tmp 16)]), none⟩,
    ⟨(some 18), (.slicea 32 L8 (.tmp 7) none none none), none⟩]
    [⟨(some 19), (.call 38 [(.tmp 17), (.tmp 18)]), none⟩,
    ⟨(some 20), (.call 39 [(.tmp 19)]), none⟩,
    ⟨none, (.store (.ar 32 L8) (.tmp 8) (.tmp 20)), none⟩])
   .ret))
def r_ots_Step : List ARes := [(.cell 8 (.ar 32 L8))]
theorem c_ots_Step : o2 Go.Proofs.Tryd.f20.body (comp Go.Proofs.Tryd.prog Go.Proofs.Tryd.f20.ntmps) = some a_ots_Step := by kernel_rfl
theorem s_ots_Step : cRess Go.Proofs.Tryd.prog Go.Proofs.Tryd.f20.results.toList = some r_ots_Step := by kernel_rfl
theorem m_ots_Step (C : Ctx) (hC : CtxOK C Go.Proofs.Tryd.prog) : Meets C.glob Go.Proofs.Tryd.prog 20 (afun C 4 r_ots_Step a_ots_Step) :=
  fn_sound hC Go.Proofs.Tryd.func20 c_ots_Step s_ots_Step (Nat.le_of_ble_eq_true (by kernel_rfl))

/-- curtilage/ots.Secret -/
def a_ots_Secret : ACode :=
 (.seq
  (.region false [⟨(some 3), (.box S2 (.tmp 0)), none⟩,
   ⟨(some 5), (.box (.ar 32 L8) (.tmp 2)), none⟩,
   ⟨(some 6), (.alloc (.ar 32 L8) (.agg (.ar 32 L8) (List.replicate 32 (.raw (u8 0#8))))), none⟩])
  (.seq
   (.region false [⟨(some 7), (.load S2 (.tmp 3)), none⟩,
    ⟨(some 8), (.mv (.tmp 1)), none⟩,
    ⟨(some 9), (.load (.ar 32 L8) (.tmp 5)), none⟩,
    ⟨(some 10), (.call 20 [(.tmp 7), (.tmp 8), (.const (it 255)), (.tmp 9)]), none⟩,
    ⟨none, (.store (.ar 32 L8) (.tmp 6) (.tmp 10)), none⟩])
   .ret))
def r_ots_Secret : List ARes := [(.cell 6 (.ar 32 L8))]
theorem c_ots_Secret : o2 Go.Proofs.Tryd.f21.body (comp Go.Proofs.Tryd.prog Go.Proofs.Tryd.f21.ntmps) = some a_ots_Secret := by kernel_rfl
theorem s_ots_Secret : cRess Go.Proofs.Tryd.prog Go.Proofs.Tryd.f21.results.toList = some r_ots_Secret := by kernel_rfl
theorem m_ots_Secret (C : Ctx) (hC : CtxOK C Go.Proofs.Tryd.prog) : Meets C.glob Go.Proofs.Tryd.prog 21 (afun C 3 r_ots_Secret a_ots_Secret) :=
  fn_sound hC Go.Proofs.Tryd.func21 c_ots_Secret s_ots_Secret (Nat.le_of_ble_eq_true (by kernel_rfl))

/-- curtilage/ots.Mash -/
def a_ots_Mash : ACode :=
 (.seq
  (.region false [⟨(some 3), (.box S2 (.tmp 0)), none⟩,
   ⟨(some 4), (.box (.ar 32 L8) (.tmp 1)), none⟩,
   ⟨(some 6), (.alloc (.ar 32 L8) (.agg (.ar 32 L8) (List.replicate 32 (.raw (u8 0#8))))), none⟩])
  (.seq
   (.draw1 [⟨(some 7), (.load S2 (.tmp 3)), none⟩,
    ⟨(some 8), (.call 37 [(.tmp 7)]), none⟩,
    ⟨(some 9), (.call 34 [(.const (it 33153))]), none⟩,
    ⟨(some 10), (.call 38 [(.tmp 8), (.tmp 9)]), none⟩,
    ⟨(some 11), (.slicea 32 L8 (.tmp 4) none none none), none⟩,
    ⟨(some 12), (.call 38 [(.tmp 10), (.tmp 11)]), none⟩,
    ⟨(some 13), (.mv (.tmp 2)), none⟩]
    [⟨(some 14), (.call 38 [(.tmp 12), (.tmp 13)]), none⟩,
    ⟨(some 15), (.call 39 [(.tmp 14)]), none⟩,
    ⟨none, (.store (.ar 32 L8) (.tmp 6) (.tmp 15)), none⟩])
   .ret))
def r_ots_Mash : List ARes := [(.cell 6 (.ar 32 L8))]
theorem c_ots_Mash : o2 Go.Proofs.Tryd.f22.body (comp Go.Proofs.Tryd.prog Go.Proofs.Tryd.f22.ntmps) = some a_ots_Mash := by kernel_rfl
theorem s_ots_Mash : cRess Go.Proofs.Tryd.prog Go.Proofs.Tryd.f22.results.toList = some r_ots_Mash := by kernel_rfl
theorem m_ots_Mash (C : Ctx) (hC : CtxOK C Go.Proofs.Tryd.prog) : Meets C.glob Go.Proofs.Tryd.prog 22 (afun C 3 r_ots_Mash a_ots_Mash) :=
  fn_sound hC Go.Proofs.Tryd.func22 c_ots_Mash s_ots_Mash (Nat.le_of_ble_eq_true (by kernel_rfl))

/-- curtilage/curtilageref05.Mash -/
def a_ref05_Mash : ACode :=
 (.seq
  (.region false [⟨(some 4), (.box (.ar 16 L8) (.tmp 0)), none⟩,
   ⟨(some 6), (.box (.ar 32 L8) (.tmp 2)), none⟩,
   ⟨(some 8), (.alloc (.ar 32 L8) (.agg (.ar 32 L8) (List.replicate 32 (.raw (u8 0#8))))), none⟩])
  (.seq
   (.draw1 [⟨(some 9), (.slicea 16 L8 (.tmp 4) none none none), none⟩,
    ⟨(some 10), (.mv (.tmp 1)), none⟩,
    ⟨(some 11), (.conv .u64 (.tmp 10)), none⟩,
    ⟨(some 12), (.call 31 [(.tmp 11), (.const (it 4))]), none⟩,
    ⟨(some 13), (.call 31 [(.const (u64 33153#64)), (.const (it 2))]), none⟩,
    ⟨(some 14), (.slicea 32 L8 (.tmp 6) none none none), none⟩,
    ⟨(some 15), (.mv (.tmp 3)), none⟩]
    [⟨(some 16), (.bslice .ref 5 (.raw (.slice none 0 0)) [(0, (.tmp 9)), (1, (.tmp 12)), (2, (.tmp 13)), (3, (.tmp 14)), (4, (.tmp 15))]), none⟩,
    ⟨(some 17), (.call 35 [(.tmp 16)]), none⟩,
    ⟨(some 18), (.call 36 [(.tmp 17)]), none⟩,
    ⟨none, (.store (.ar 32 L8) (.tmp 8) (.tmp 18)), none⟩])
   .ret))
def r_ref05_Mash : List ARes := [(.cell 8 (.ar 32 L8))]
theorem c_ref05_Mash : o2 Go.Proofs.Tryd.f23.body (comp Go.Proofs.Tryd.prog Go.Proofs.Tryd.f23.ntmps) = some a_ref05_Mash := by kernel_rfl
theorem s_ref05_Mash : cRess Go.Proofs.Tryd.prog Go.Proofs.Tryd.f23.results.toList = some r_ref05_Mash := by kernel_rfl
theorem m_ref05_Mash (C : Ctx) (hC : CtxOK C Go.Proofs.Tryd.prog) : Meets C.glob Go.Proofs.Tryd.prog 23 (afun C 4 r_ref05_Mash a_ref05_Mash) :=
  fn_sound hC Go.Proofs.Tryd.func23 c_ref05_Mash s_ref05_Mash (Nat.le_of_ble_eq_true (by kernel_rfl))

/-- curtilage/ots.Fold -/
def a_ots_Fold : ACode :=
 (.seq
  (.region false [⟨(some 2), (.box S2 (.tmp 0)), none⟩,
   ⟨(some 4), (.alloc (.ar 32 L8) (.agg (.ar 32 L8) (List.replicate 32 (.raw (u8 0#8))))), none⟩])
  (.seq
   (.region false [⟨(some 8), (.load S2 (.tmp 2)), none⟩,
    ⟨(some 9), (.call 37 [(.tmp 8)]), none⟩,
    ⟨(some 10), (.call 34 [(.const (it 32896))]), none⟩,
    ⟨(some 11), (.call 38 [(.tmp 9), (.tmp 10)]), none⟩,
    ⟨(some 5), (.alloc S3 (.agg S3 [(.agg (.ar 8 L32) (List.replicate 8 (.raw (u32 0#32)))), (.agg (.ar 64 L8) (List.replicate 64 (.raw (u8 0#8)))), (.raw (u64 0#64))])), none⟩,
    ⟨none, (.store S3 (.tmp 5) (.tmp 11)), none⟩])
   (.seq
    (.seq
     (.region false [⟨(some 12), (.mv (.tmp 1)), none⟩,
      ⟨(some 13), (.len (.tmp 12)), none⟩,
      ⟨(some 14), (.mv (.const (it 0))), none⟩])
     (.block 0
      (.loop
       (.seq
        (.region false [⟨(some 15), (.bin .lss (.tmp 14) (.tmp 13)), none⟩])
        (.seq
         (.cond (.tmp 15)
          .skip
          (.exit 0))
         (.seq
          (.block 1
           (.seq
            (.region false [⟨(some 16), (.iaddrs (.ar 32 L8) (.tmp 12) (.tmp 14)), none⟩,
             ⟨(some 17), (.load (.ar 32 L8) (.tmp 16)), none⟩,
             ⟨(some 7), (.alloc (.ar 32 L8) (.agg (.ar 32 L8) (List.replicate 32 (.raw (u8 0#8))))), none⟩,
             ⟨none, (.store (.ar 32 L8) (.tmp 7) (.tmp 17)), none⟩])
            (.draw1 [⟨(some 18), (.load S3 (.tmp 5)), none⟩,
             ⟨(some 19), (.slicea 32 L8 (.tmp 7) none none none), none⟩]
             [⟨(some 20), (.call 38 [(.tmp 18), (.tmp 19)]), none⟩,
             ⟨none, (.store S3 (.tmp 5) (.tmp 20)), none⟩])))
          (.region false [⟨(some 21), (.bin .add (.tmp 14) (.const (it 1))), none⟩,
           ⟨(some 14), (.mv (.tmp 21)), none⟩])))))))
    (.seq
     (.region false [⟨(some 22), (.load S3 (.tmp 5)), none⟩,
      ⟨(some 23), (.call 39 [(.tmp 22)]), none⟩,
      ⟨none, (.store (.ar 32 L8) (.tmp 4) (.tmp 23)), none⟩])
     .ret))))
def r_ots_Fold : List ARes := [(.cell 4 (.ar 32 L8))]
theorem c_ots_Fold : o2 Go.Proofs.Tryd.f24.body (comp Go.Proofs.Tryd.prog Go.Proofs.Tryd.f24.ntmps) = some a_ots_Fold := by kernel_rfl
theorem s_ots_Fold : cRess Go.Proofs.Tryd.prog Go.Proofs.Tryd.f24.results.toList = some r_ots_Fold := by kernel_rfl
theorem m_ots_Fold (C : Ctx) (hC : CtxOK C Go.Proofs.Tryd.prog) : Meets C.glob Go.Proofs.Tryd.prog 24 (afun C 2 r_ots_Fold a_ots_Fold) :=
  fn_sound hC Go.Proofs.Tryd.func24 c_ots_Fold s_ots_Fold (Nat.le_of_ble_eq_true (by kernel_rfl))

/-- curtilage/curtilageref05.Fold -/
def a_ref05_Fold : ACode :=
 (.seq
  (.region false [⟨(some 3), (.box (.ar 16 L8) (.tmp 0)), none⟩,
   ⟨(some 6), (.alloc (.ar 32 L8) (.agg (.ar 32 L8) (List.replicate 32 (.raw (u8 0#8))))), none⟩])
  (.seq
   (.draw1 [⟨(some 10), (.slicea 16 L8 (.tmp 3) none none none), none⟩,
    ⟨(some 11), (.mv (.tmp 1)), none⟩,
    ⟨(some 12), (.conv .u64 (.tmp 11)), none⟩,
    ⟨(some 13), (.call 31 [(.tmp 12), (.const (it 4))]), none⟩,
    ⟨(some 14), (.call 31 [(.const (u64 32896#64)), (.const (it 2))]), none⟩]
    [⟨(some 15), (.bslice .ref 3 (.raw (.slice none 0 0)) [(0, (.tmp 10)), (1, (.tmp 13)), (2, (.tmp 14))]), none⟩,
    ⟨(some 16), (.call 35 [(.tmp 15)]), none⟩,
    ⟨(some 7), (.mv (.tmp 16)), none⟩])
   (.seq
    (.seq
     (.region false [⟨(some 17), (.mv (.tmp 2)), none⟩,
      ⟨(some 18), (.len (.tmp 17)), none⟩,
      ⟨(some 19), (.mv (.const (it 0))), none⟩])
     (.block 0
      (.loop
       (.seq
        (.region false [⟨(some 20), (.bin .lss (.tmp 19) (.tmp 18)), none⟩])
        (.seq
         (.cond (.tmp 20)
          .skip
          (.exit 0))
         (.seq
          (.block 1
           (.seq
            (.region false [⟨(some 21), (.iaddrs (.ar 32 L8) (.tmp 17) (.tmp 19)), none⟩,
             ⟨(some 22), (.load (.ar 32 L8) (.tmp 21)), none⟩,
             ⟨(some 9), (.alloc (.ar 32 L8) (.agg (.ar 32 L8) (List.replicate 32 (.raw (u8 0#8))))), none⟩,
             ⟨none, (.store (.ar 32 L8) (.tmp 9) (.tmp 22)), none⟩])
            (.region false [⟨(some 23), (.mv (.tmp 7)), none⟩,
             ⟨(some 24), (.slicea 32 L8 (.tmp 9) none none none), none⟩,
             ⟨(some 25), (.append L8 1 (.tmp 23) (.tmp 24)), none⟩,
             ⟨(some 7), (.mv (.tmp 25)), none⟩])))
          (.region false [⟨(some 26), (.bin .add (.tmp 19) (.const (it 1))), none⟩,
           ⟨(some 19), (.mv (.tmp 26)), none⟩])))))))
    (.seq
     (.region false [⟨(some 27), (.mv (.tmp 7)), none⟩,
      ⟨(some 28), (.call 36 [(.tmp 27)]), none⟩,
      ⟨none, (.store (.ar 32 L8) (.tmp 6) (.tmp 28)), none⟩])
     .ret))))
def r_ref05_Fold : List ARes := [(.cell 6 (.ar 32 L8))]
theorem c_ref05_Fold : o2 Go.Proofs.Tryd.f25.body (comp Go.Proofs.Tryd.prog Go.Proofs.Tryd.f25.ntmps) = some a_ref05_Fold := by kernel_rfl
theorem s_ref05_Fold : cRess Go.Proofs.Tryd.prog Go.Proofs.Tryd.f25.results.toList = some r_ref05_Fold := by kernel_rfl
theorem m_ref05_Fold (C : Ctx) (hC : CtxOK C Go.Proofs.Tryd.prog) : Meets C.glob Go.Proofs.Tryd.prog 25 (afun C 3 r_ref05_Fold a_ref05_Fold) :=
  fn_sound hC Go.Proofs.Tryd.func25 c_ref05_Fold s_ref05_Fold (Nat.le_of_ble_eq_true (by kernel_rfl))

/-- curtilage/curtilagelaw05.kind -/
def a_law05_kind : ACode :=
 (.seq
  (.region false [⟨(some 2), (.mv (.const (u32 0#32))), none⟩])
  (.seq
   (.region false [⟨(some 3), (.bslice L32 6 (.raw (u32 0#32)) [(0, (.const (u32 3#32))), (1, (.const (u32 3#32))), (2, (.const (u32 3#32))), (3, (.const (u32 2#32))), (4, (.const (u32 1#32))), (5, (.const (u32 4#32)))]), none⟩,
    ⟨(some 4), (.mv (.tmp 0)), none⟩,
    ⟨(some 5), (.bin .rem (.tmp 4) (.const (u8 6#8))), none⟩,
    ⟨(some 6), (.iaddrs L32 (.tmp 3) (.tmp 5)), none⟩,
    ⟨(some 7), (.load L32 (.tmp 6)), none⟩,
    ⟨(some 2), (.mv (.tmp 7)), none⟩])
   .ret))
def r_law05_kind : List ARes := [(.tmp 2)]
theorem c_law05_kind : o2 Go.Proofs.Tryd.f26.body (comp Go.Proofs.Tryd.prog Go.Proofs.Tryd.f26.ntmps) = some a_law05_kind := by kernel_rfl
theorem s_law05_kind : cRess Go.Proofs.Tryd.prog Go.Proofs.Tryd.f26.results.toList = some r_law05_kind := by kernel_rfl
theorem m_law05_kind (C : Ctx) (hC : CtxOK C Go.Proofs.Tryd.prog) : Meets C.glob Go.Proofs.Tryd.prog 26 (afun C 1 r_law05_kind a_law05_kind) :=
  fn_sound hC Go.Proofs.Tryd.func26 c_law05_kind s_law05_kind (Nat.le_of_ble_eq_true (by kernel_rfl))

/-- curtilage/ots.Public -/
def a_ots_Public : ACode :=
 (.seq
  (.region false [⟨(some 4), (.box S2 (.tmp 1)), none⟩,
   ⟨(some 5), (.box (.ar 32 L8) (.tmp 2)), none⟩,
   ⟨(some 6), (.alloc (.ar 32 L8) (.agg (.ar 32 L8) (List.replicate 32 (.raw (u8 0#8))))), none⟩,
   ⟨(some 7), (.mv (.const (it 0))), none⟩])
  (.seq
   (.region false [⟨(some 13), (.mv (.tmp 0)), none⟩,
    ⟨(some 14), (.call 11 [(.tmp 13)]), none⟩,
    ⟨(some 12), (.mv (.tmp 14)), none⟩,
    ⟨(some 15), (.ext (.tmp 12) 0), none⟩,
    ⟨(some 16), (.ext (.tmp 12) 1), none⟩,
    ⟨(some 8), (.alloc S1 (.agg S1 [(.raw (it 0)), (.raw (it 0)), (.raw (it 0))])), none⟩,
    ⟨none, (.store S1 (.tmp 8) (.tmp 15)), none⟩,
    ⟨(some 9), (.mv (.tmp 16)), none⟩])
   (.seq
    (.seq
     (.region false [⟨(some 17), (.mv (.tmp 9)), none⟩,
      ⟨(some 18), (.un .not (.tmp 17)), none⟩])
     (.cond (.tmp 18)
      (.seq
       (.region false [⟨(some 19), (.build (.ar 32 L8) (List.replicate 32 (.raw (u8 0#8))) []), none⟩,
        ⟨none, (.store (.ar 32 L8) (.tmp 6) (.tmp 19)), none⟩,
        ⟨(some 7), (.mv (.const (it 6))), none⟩])
       .ret)
      .skip))
    (.seq
     (.region false [⟨(some 20), (.faddr S1 (.tmp 8) 1), none⟩,
      ⟨(some 21), (.load LI (.tmp 20)), none⟩,
      ⟨(some 22), (.mks (.ar 32 L8) 32 (.agg (.ar 32 L8) (List.replicate 32 (.raw (u8 0#8)))) (.const (it 0)) (.tmp 21)), none⟩,
      ⟨(some 10), (.mv (.tmp 22)), none⟩])
     (.seq
      (.seq
       (.region false [⟨(some 23), (.faddr S1 (.tmp 8) 1), none⟩,
        ⟨(some 24), (.load LI (.tmp 23)), none⟩,
        ⟨(some 25), (.mv (.const (it 0))), none⟩])
       (.block 0
        (.loop
         (.seq
          (.region false [⟨(some 26), (.bin .lss (.tmp 25) (.tmp 24)), none⟩])
          (.seq
           (.cond (.tmp 26)
            .skip
            (.exit 0))
           (.seq
            (.block 1
             (.seq
              (.region false [⟨(some 27), (.mv (.tmp 25)), none⟩,
               ⟨(some 11), (.mv (.tmp 27)), none⟩])
              (.region true [⟨(some 28), (.mv (.tmp 10)), none⟩,
               ⟨(some 29), (.load S2 (.tmp 4)), none⟩,
               ⟨(some 30), (.mv (.tmp 11)), none⟩,
               ⟨(some 31), (.load S1 (.tmp 8)), none⟩,
               ⟨(some 32), (.call 33 [(.tmp 31)]), none⟩,
               ⟨(some 33), (.load S2 (.tmp 4)), none⟩,
               ⟨(some 34), (.mv (.tmp 11)), none⟩,
               ⟨(some 35), (.load (.ar 32 L8) (.tmp 5)), none⟩,
               ⟨(some 36), (.call 21 [(.tmp 33), (.tmp 34), (.tmp 35)]), none⟩,
               ⟨(some 37), (.call 19 [(.tmp 29), (.tmp 30), (.const (it 0)), (.tmp 32), (.tmp 36)]), none⟩,
               ⟨(some 38), (.bslice (.ar 32 L8) 1 (.agg (.ar 32 L8) (List.replicate 32 (.raw (u8 0#8)))) [(0, (.tmp 37))]), none⟩,
               ⟨(some 39), (.append (.ar 32 L8) 32 (.tmp 28) (.tmp 38)), none⟩,
               ⟨(some 10), (.mv (.tmp 39)), none⟩])))
            (.region false [⟨(some 40), (.bin .add (.tmp 25) (.const (it 1))), none⟩,
             ⟨(some 25), (.mv (.tmp 40)), none⟩])))))))
      (.seq
       (.region false [⟨(some 41), (.load S2 (.tmp 4)), none⟩,
        ⟨(some 42), (.mv (.tmp 10)), none⟩,
        ⟨(some 43), (.call 24 [(.tmp 41), (.tmp 42)]), none⟩,
        ⟨none, (.store (.ar 32 L8) (.tmp 6) (.tmp 43)), none⟩,
        ⟨(some 7), (.mv (.const (it 0))), none⟩])
       .ret))))))
def r_ots_Public : List ARes := [(.cell 6 (.ar 32 L8)), (.tmp 7)]
theorem c_ots_Public : o2 Go.Proofs.Tryd.f27.body (comp Go.Proofs.Tryd.prog Go.Proofs.Tryd.f27.ntmps) = some a_ots_Public := by kernel_rfl
theorem s_ots_Public : cRess Go.Proofs.Tryd.prog Go.Proofs.Tryd.f27.results.toList = some r_ots_Public := by kernel_rfl
theorem m_ots_Public (C : Ctx) (hC : CtxOK C Go.Proofs.Tryd.prog) : Meets C.glob Go.Proofs.Tryd.prog 27 (afun C 3 r_ots_Public a_ots_Public) :=
  fn_sound hC Go.Proofs.Tryd.func27 c_ots_Public s_ots_Public (Nat.le_of_ble_eq_true (by kernel_rfl))

/-- curtilage/ots.Sign -/
def a_ots_Sign : ACode :=
 (.seq
  (.region false [⟨(some 6), (.box S2 (.tmp 1)), none⟩,
   ⟨(some 7), (.box (.ar 32 L8) (.tmp 2)), none⟩,
   ⟨(some 8), (.box (.ar 32 L8) (.tmp 3)), none⟩,
   ⟨(some 10), (.mv (.const (.slice none 0 0))), none⟩,
   ⟨(some 11), (.mv (.const (it 0))), none⟩])
  (.seq
   (.seq
    (.region false [⟨(some 19), (.mv (.tmp 0)), none⟩,
     ⟨(some 20), (.call 11 [(.tmp 19)]), none⟩,
     ⟨(some 18), (.mv (.tmp 20)), none⟩,
     ⟨(some 21), (.ext (.tmp 18) 0), none⟩,
     ⟨(some 22), (.ext (.tmp 18) 1), none⟩,
     ⟨(some 12), (.alloc S1 (.agg S1 [(.raw (it 0)), (.raw (it 0)), (.raw (it 0))])), none⟩,
     ⟨none, (.store S1 (.tmp 12) (.tmp 21)), none⟩,
     ⟨(some 13), (.mv (.tmp 22)), none⟩])
    (.seq
     (.region false [⟨(some 23), (.mv (.tmp 13)), none⟩,
      ⟨(some 24), (.un .not (.tmp 23)), none⟩])
     (.cond (.tmp 24)
      (.seq
       (.region false [⟨(some 10), (.mv (.const (.slice none 0 0))), none⟩,
        ⟨(some 11), (.mv (.const (it 6))), none⟩])
       .ret)
      .skip)))
   (.seq
    (.region true [⟨(some 25), (.mv (.tmp 0)), none⟩,
     ⟨(some 26), (.call 40 [(.tmp 25)]), none⟩,
     ⟨(some 27), (.slicea 32 L8 (.tmp 8) none none none), none⟩,
     ⟨(some 28), (.append L8 1 (.tmp 26) (.tmp 27)), none⟩,
     ⟨(some 14), (.mv (.tmp 28)), none⟩])
    (.seq
     (.seq
      (.region false [⟨(some 29), (.mv (.tmp 0)), none⟩,
       ⟨(some 30), (.load S2 (.tmp 6)), none⟩,
       ⟨(some 31), (.load (.ar 32 L8) (.tmp 8)), none⟩,
       ⟨(some 32), (.mv (.tmp 4)), none⟩,
       ⟨(some 33), (.call 22 [(.tmp 30), (.tmp 31), (.tmp 32)]), none⟩,
       ⟨(some 34), (.call 12 [(.tmp 29), (.tmp 33)]), none⟩,
       ⟨(some 35), (.len (.tmp 34)), none⟩,
       ⟨(some 36), (.mv (.const (it 0))), none⟩])
      (.block 0
       (.loop
        (.seq
         (.region false [⟨(some 37), (.bin .lss (.tmp 36) (.tmp 35)), none⟩])
         (.seq
          (.cond (.tmp 37)
           .skip
           (.exit 0))
          (.seq
           (.block 1
            (.seq
             (.region false [⟨(some 38), (.mv (.tmp 36)), none⟩,
              ⟨(some 39), (.iaddrs LI (.tmp 34) (.tmp 36)), none⟩,
              ⟨(some 40), (.load LI (.tmp 39)), none⟩,
              ⟨(some 15), (.mv (.tmp 38)), none⟩,
              ⟨(some 16), (.mv (.tmp 40)), none⟩])
             (.seq
              (.region true [⟨(some 41), (.load S2 (.tmp 6)), none⟩,
               ⟨(some 42), (.mv (.tmp 15)), none⟩,
               ⟨(some 43), (.mv (.tmp 16)), none⟩,
               ⟨(some 44), (.load S2 (.tmp 6)), none⟩,
               ⟨(some 45), (.mv (.tmp 15)), none⟩,
               ⟨(some 46), (.load (.ar 32 L8) (.tmp 7)), none⟩,
               ⟨(some 47), (.call 21 [(.tmp 44), (.tmp 45), (.tmp 46)]), none⟩,
               ⟨(some 48), (.call 19 [(.tmp 41), (.tmp 42), (.const (it 0)), (.tmp 43), (.tmp 47)]), none⟩,
               ⟨(some 17), (.alloc (.ar 32 L8) (.agg (.ar 32 L8) (List.replicate 32 (.raw (u8 0#8))))), none⟩,
               ⟨none, (.store (.ar 32 L8) (.tmp 17) (.tmp 48)), none⟩])
              (.region false [⟨(some 49), (.mv (.tmp 14)), none⟩,
               ⟨(some 50), (.slicea 32 L8 (.tmp 17) none none none), none⟩,
               ⟨(some 51), (.append L8 1 (.tmp 49) (.tmp 50)), none⟩,
               ⟨(some 14), (.mv (.tmp 51)), none⟩]))))
           (.region false [⟨(some 52), (.bin .add (.tmp 36) (.const (it 1))), none⟩,
            ⟨(some 36), (.mv (.tmp 52)), none⟩])))))))
     (.seq
      (.region false [⟨(some 53), (.mv (.tmp 14)), none⟩,
       ⟨(some 10), (.mv (.tmp 53)), none⟩,
       ⟨(some 11), (.mv (.const (it 0))), none⟩])
      .ret)))))
def r_ots_Sign : List ARes := [(.tmp 10), (.tmp 11)]
theorem c_ots_Sign : o2 Go.Proofs.Tryd.f28.body (comp Go.Proofs.Tryd.prog Go.Proofs.Tryd.f28.ntmps) = some a_ots_Sign := by kernel_rfl
theorem s_ots_Sign : cRess Go.Proofs.Tryd.prog Go.Proofs.Tryd.f28.results.toList = some r_ots_Sign := by kernel_rfl
theorem m_ots_Sign (C : Ctx) (hC : CtxOK C Go.Proofs.Tryd.prog) : Meets C.glob Go.Proofs.Tryd.prog 28 (afun C 5 r_ots_Sign a_ots_Sign) :=
  fn_sound hC Go.Proofs.Tryd.func28 c_ots_Sign s_ots_Sign (Nat.le_of_ble_eq_true (by kernel_rfl))

/-- curtilage/ots.Claim -/
def a_ots_Claim : ACode :=
 (.seq
  (.region false [⟨(some 3), (.box S2 (.tmp 0)), none⟩,
   ⟨(some 6), (.alloc (.ar 32 L8) (.agg (.ar 32 L8) (List.replicate 32 (.raw (u8 0#8))))), none⟩,
   ⟨(some 7), (.mv (.const (it 0))), none⟩])
  (.seq
   (.region false [⟨(some 17), (.mv (.tmp 1)), none⟩,
    ⟨(some 18), (.call 30 [(.tmp 17)]), none⟩,
    ⟨(some 16), (.mv (.tmp 18)), none⟩,
    ⟨(some 19), (.ext (.tmp 16) 0), none⟩,
    ⟨(some 20), (.ext (.tmp 16) 1), none⟩,
    ⟨(some 21), (.ext (.tmp 16) 2), none⟩,
    ⟨(some 22), (.ext (.tmp 16) 3), none⟩,
    ⟨(some 9), (.alloc (.ar 32 L8) (.agg (.ar 32 L8) (List.replicate 32 (.raw (u8 0#8))))), none⟩,
    ⟨(some 8), (.mv (.tmp 19)), none⟩,
    ⟨none, (.store (.ar 32 L8) (.tmp 9) (.tmp 20)), none⟩,
    ⟨(some 10), (.mv (.tmp 21)), none⟩,
    ⟨(some 11), (.mv (.tmp 22)), none⟩])
   (.seq
    (.seq
     (.region false [⟨(some 23), (.mv (.tmp 11)), none⟩,
      ⟨(some 24), (.bin .neq (.tmp 23) (.const (it 0))), none⟩])
     (.cond (.tmp 24)
      (.seq
       (.region false [⟨(some 25), (.build (.ar 32 L8) (List.replicate 32 (.raw (u8 0#8))) []), none⟩,
        ⟨(some 26), (.mv (.tmp 11)), none⟩,
        ⟨none, (.store (.ar 32 L8) (.tmp 6) (.tmp 25)), none⟩,
        ⟨(some 7), (.mv (.tmp 26)), none⟩])
       .ret)
      .skip))
    (.seq
     (.region false [⟨(some 28), (.mv (.tmp 8)), none⟩,
      ⟨(some 29), (.call 11 [(.tmp 28)]), none⟩,
      ⟨(some 27), (.mv (.tmp 29)), none⟩,
      ⟨(some 30), (.ext (.tmp 27) 0), none⟩,
      ⟨(some 31), (.ext (.tmp 27) 1), none⟩,
      ⟨(some 12), (.alloc S1 (.agg S1 [(.raw (it 0)), (.raw (it 0)), (.raw (it 0))])), none⟩,
      ⟨none, (.store S1 (.tmp 12) (.tmp 30)), none⟩,
      ⟨(some 13), (.mv (.tmp 31)), none⟩])
     (.seq
      (.seq
       (.region false [⟨(some 32), (.mv (.tmp 8)), none⟩,
        ⟨(some 33), (.load S2 (.tmp 3)), none⟩,
        ⟨(some 34), (.load (.ar 32 L8) (.tmp 9)), none⟩,
        ⟨(some 35), (.mv (.tmp 2)), none⟩,
        ⟨(some 36), (.call 22 [(.tmp 33), (.tmp 34), (.tmp 35)]), none⟩,
        ⟨(some 37), (.call 12 [(.tmp 32), (.tmp 36)]), none⟩,
        ⟨(some 38), (.len (.tmp 37)), none⟩,
        ⟨(some 39), (.mv (.const (it 0))), none⟩])
       (.block 0
        (.loop
         (.seq
          (.region false [⟨(some 40), (.bin .lss (.tmp 39) (.tmp 38)), none⟩])
          (.seq
           (.cond (.tmp 40)
            .skip
            (.exit 0))
           (.seq
            (.block 1
             (.seq
              (.region false [⟨(some 41), (.mv (.tmp 39)), none⟩,
               ⟨(some 42), (.iaddrs LI (.tmp 37) (.tmp 39)), none⟩,
               ⟨(some 43), (.load LI (.tmp 42)), none⟩,
               ⟨(some 14), (.mv (.tmp 41)), none⟩,
               ⟨(some 15), (.mv (.tmp 43)), none⟩])
              (.region true [⟨(some 44), (.mv (.tmp 10)), none⟩,
               ⟨(some 45), (.mv (.tmp 14)), none⟩,
               ⟨(some 46), (.load S2 (.tmp 3)), none⟩,
               ⟨(some 47), (.mv (.tmp 14)), none⟩,
               ⟨(some 48), (.mv (.tmp 15)), none⟩,
               ⟨(some 49), (.load S1 (.tmp 12)), none⟩,
               ⟨(some 50), (.call 33 [(.tmp 49)]), none⟩,
               ⟨(some 51), (.mv (.tmp 10)), none⟩,
               ⟨(some 52), (.mv (.tmp 14)), none⟩,
               ⟨(some 53), (.iaddrs (.ar 32 L8) (.tmp 51) (.tmp 52)), none⟩,
               ⟨(some 54), (.load (.ar 32 L8) (.tmp 53)), none⟩,
               ⟨(some 55), (.call 19 [(.tmp 46), (.tmp 47), (.tmp 48), (.tmp 50), (.tmp 54)]), none⟩,
               ⟨(some 56), (.iaddrs (.ar 32 L8) (.tmp 44) (.tmp 45)), none⟩,
               ⟨none, (.store (.ar 32 L8) (.tmp 56) (.tmp 55)), none⟩])))
            (.region false [⟨(some 57), (.bin .add (.tmp 39) (.const (it 1))), none⟩,
             ⟨(some 39), (.mv (.tmp 57)), none⟩])))))))
      (.seq
       (.region false [⟨(some 58), (.load S2 (.tmp 3)), none⟩,
        ⟨(some 59), (.mv (.tmp 10)), none⟩,
        ⟨(some 60), (.call 24 [(.tmp 58), (.tmp 59)]), none⟩,
        ⟨none, (.store (.ar 32 L8) (.tmp 6) (.tmp 60)), none⟩,
        ⟨(some 7), (.mv (.const (it 0))), none⟩])
       .ret))))))
def r_ots_Claim : List ARes := [(.cell 6 (.ar 32 L8)), (.tmp 7)]
theorem c_ots_Claim : o2 Go.Proofs.Tryd.f29.body (comp Go.Proofs.Tryd.prog Go.Proofs.Tryd.f29.ntmps) = some a_ots_Claim := by kernel_rfl
theorem s_ots_Claim : cRess Go.Proofs.Tryd.prog Go.Proofs.Tryd.f29.results.toList = some r_ots_Claim := by kernel_rfl
theorem m_ots_Claim (C : Ctx) (hC : CtxOK C Go.Proofs.Tryd.prog) : Meets C.glob Go.Proofs.Tryd.prog 29 (afun C 3 r_ots_Claim a_ots_Claim) :=
  fn_sound hC Go.Proofs.Tryd.func29 c_ots_Claim s_ots_Claim (Nat.le_of_ble_eq_true (by kernel_rfl))

/-- curtilage/ots.Split -/
def a_ots_Split : ACode :=
 (.seq
  (.region false [⟨(some 2), (.mv (.const (u32 0#32))), none⟩,
   ⟨(some 3), (.alloc (.ar 32 L8) (.agg (.ar 32 L8) (List.replicate 32 (.raw (u8 0#8))))), none⟩,
   ⟨(some 4), (.mv (.const (.slice none 0 0))), none⟩,
   ⟨(some 5), (.mv (.const (it 0))), none⟩])
  (.seq
   (.seq
    (.region false [⟨(some 11), (.mv (.tmp 0)), none⟩,
     ⟨(some 12), (.len (.tmp 11)), none⟩,
     ⟨(some 13), (.bin .lss (.tmp 12) (.const (it 4))), none⟩])
    (.cond (.tmp 13)
     (.seq
      (.region false [⟨(some 14), (.build (.ar 32 L8) (List.replicate 32 (.raw (u8 0#8))) []), none⟩,
       ⟨(some 2), (.mv (.const (u32 0#32))), none⟩,
       ⟨none, (.store (.ar 32 L8) (.tmp 3) (.tmp 14)), none⟩,
       ⟨(some 4), (.mv (.const (.slice none 0 0))), none⟩,
       ⟨(some 5), (.mv (.const (it 2))), none⟩])
      .ret)
     .skip))
   (.seq
    (.region true [⟨(some 15), (.mv (.tmp 0)), none⟩,
     ⟨(some 16), (.iaddrs L8 (.tmp 15) (.const (it 0))), none⟩,
     ⟨(some 17), (.load L8 (.tmp 16)), none⟩,
     ⟨(some 18), (.conv .u32 (.tmp 17)), none⟩,
     ⟨(some 19), (.bin .shl (.tmp 18) (.const (u64 24#64))), none⟩,
     ⟨(some 20), (.mv (.tmp 0)), none⟩,
     ⟨(some 21), (.iaddrs L8 (.tmp 20) (.const (it 1))), none⟩,
     ⟨(some 22), (.load L8 (.tmp 21)), none⟩,
     ⟨(some 23), (.conv .u32 (.tmp 22)), none⟩,
     ⟨(some 24), (.bin .shl (.tmp 23) (.const (u64 16#64))), none⟩,
     ⟨(some 25), (.bin .or (.tmp 19) (.tmp 24)), none⟩,
     ⟨(some 26), (.mv (.tmp 0)), none⟩,
     ⟨(some 27), (.iaddrs L8 (.tmp 26) (.const (it 2))), none⟩,
     ⟨(some 28), (.load L8 (.tmp 27)), none⟩,
     ⟨(some 29), (.conv .u32 (.tmp 28)), none⟩,
     ⟨(some 30), (.bin .shl (.tmp 29) (.const (u64 8#64))), none⟩,
     ⟨(some 31), (.bin .or (.tmp 25) (.tmp 30)), none⟩,
     ⟨(some 32), (.mv (.tmp 0)), none⟩,
     ⟨(some 33), (.iaddrs L8 (.tmp 32) (.const (it 3))), none⟩,
     ⟨(some 34), (.load L8 (.tmp 33)), none⟩,
     ⟨(some 35), (.conv .u32 (.tmp 34)), none⟩,
     ⟨(some 36), (.bin .or (.tmp 31) (.tmp 35)), none⟩,
     ⟨(some 6), (.mv (.tmp 36)), none⟩])
    (.seq
     (.region false [⟨(some 38), (.mv (.tmp 6)), none⟩,
      ⟨(some 39), (.call 11 [(.tmp 38)]), none⟩,
      ⟨(some 37), (.mv (.tmp 39)), none⟩,
      ⟨(some 40), (.ext (.tmp 37) 0), none⟩,
      ⟨(some 41), (.ext (.tmp 37) 1), none⟩,
      ⟨(some 7), (.alloc S1 (.agg S1 [(.raw (it 0)), (.raw (it 0)), (.raw (it 0))])), none⟩,
      ⟨none, (.store S1 (.tmp 7) (.tmp 40)), none⟩,
      ⟨(some 8), (.mv (.tmp 41)), none⟩])
     (.seq
      (.block 0
       (.seq
        (.region false [⟨(some 43), (.mv (.tmp 8)), none⟩,
         ⟨(some 44), (.un .not (.tmp 43)), none⟩,
         ⟨(some 42), (.mv (.tmp 44)), none⟩])
        (.cond (.tmp 42)
         (.seq
          (.region false [⟨(some 45), (.build (.ar 32 L8) (List.replicate 32 (.raw (u8 0#8))) []), none⟩,
           ⟨(some 2), (.mv (.const (u32 0#32))), none⟩,
           ⟨none, (.store (.ar 32 L8) (.tmp 3) (.tmp 45)), none⟩,
           ⟨(some 4), (.mv (.const (.slice none 0 0))), none⟩,
           ⟨(some 5), (.mv (.const (it 6))), none⟩])
          .ret)
         (.seq
          (.region false [⟨(some 47), (.mv (.tmp 0)), none⟩,
           ⟨(some 48), (.len (.tmp 47)), none⟩,
           ⟨(some 49), (.faddr S1 (.tmp 7) 1), none⟩,
           ⟨(some 50), (.load LI (.tmp 49)), none⟩,
           ⟨(some 51), (.bin .add (.tmp 50) (.const (it 1))), none⟩,
           ⟨(some 52), (.bin .mul (.const (it 32)) (.tmp 51)), none⟩,
           ⟨(some 53), (.bin .add (.const (it 4)) (.tmp 52)), none⟩,
           ⟨(some 54), (.bin .neq (.tmp 48) (.tmp 53)), none⟩,
           ⟨(some 46), (.mv (.tmp 54)), none⟩])
          (.cond (.tmp 46)
           (.seq
            (.region false [⟨(some 55), (.build (.ar 32 L8) (List.replicate 32 (.raw (u8 0#8))) []), none⟩,
             ⟨(some 2), (.mv (.const (u32 0#32))), none⟩,
             ⟨none, (.store (.ar 32 L8) (.tmp 3) (.tmp 55)), none⟩,
             ⟨(some 4), (.mv (.const (.slice none 0 0))), none⟩,
             ⟨(some 5), (.mv (.const (it 2))), none⟩])
            .ret)
           .skip)))))
      (.seq
       (.region false [⟨(some 9), (.mv (.const (.slice none 0 0))), none⟩])
       (.seq
        (.seq
         (.region false [⟨(some 56), (.mv (.tmp 0)), none⟩,
          ⟨(some 57), (.slice L8 (.tmp 56) (some (.const (it 36))) none none), none⟩,
          ⟨(some 10), (.mv (.tmp 57)), none⟩])
         (.block 1
          (.loop
           (.seq
            (.seq
             (.region false [⟨(some 58), (.mv (.tmp 10)), none⟩,
              ⟨(some 59), (.len (.tmp 58)), none⟩,
              ⟨(some 60), (.bin .gtr (.tmp 59) (.const (it 0))), none⟩])
             (.cond (.tmp 60)
              .skip
              (.exit 1)))
            (.seq
             (.block 2
              (.region false [⟨(some 63), (.mv (.tmp 9)), none⟩,
               ⟨(some 64), (.mv (.tmp 10)), none⟩,
               ⟨(some 65), (.slice L8 (.tmp 64) none (some (.const (it 32))) none), none⟩,
               ⟨(some 66), (.s2a 32 L8 (.tmp 65)), none⟩,
               ⟨(some 67), (.load (.ar 32 L8) (.tmp 66)), none⟩,
               ⟨(some 68), (.bslice (.ar 32 L8) 1 (.agg (.ar 32 L8) (List.replicate 32 (.raw (u8 0#8)))) [(0, (.tmp 67))]), none⟩,
               ⟨(some 69), (.append (.ar 32 L8) 32 (.tmp 63) (.tmp 68)), none⟩,
               ⟨(some 9), (.mv (.tmp 69)), none⟩]))
             (.region false [⟨(some 61), (.mv (.tmp 10)), none⟩,
              ⟨(some 62), (.slice L8 (.tmp 61) (some (.const (it 32))) none none), none⟩,
              ⟨(some 10), (.mv (.tmp 62)), none⟩]))))))
        (.seq
         (.draw [⟨(some 70), (.mv (.tmp 6)), none⟩,
          ⟨(some 71), (.mv (.tmp 0)), none⟩,
          ⟨(some 72), (.slice L8 (.tmp 71) (some (.const (it 4))) (some (.const (it 36))) none), none⟩,
          ⟨(some 73), (.s2a 32 L8 (.tmp 72)), none⟩,
          ⟨(some 74), (.load (.ar 32 L8) (.tmp 73)), none⟩,
          ⟨(some 75), (.mv (.tmp 9)), none⟩,
          ⟨(some 2), (.mv (.tmp 70)), none⟩]
          [⟨(some 75), (.mv (.tmp 9)), none⟩]
          [(⟨none, (.store (.ar 32 L8) (.tmp 3) (.tmp 74)), none⟩, [⟨(some 75), (.mv (.tmp 9)), none⟩]),
          (⟨(some 4), (.mv (.tmp 75)), none⟩, []),
          (⟨(some 5), (.mv (.const (it 0))), none⟩, [])])
         .ret))))))))
def r_ots_Split : List ARes := [(.tmp 2), (.cell 3 (.ar 32 L8)), (.tmp 4), (.tmp 5)]
theorem c_ots_Split : o2 Go.Proofs.Tryd.f30.body (comp Go.Proofs.Tryd.prog Go.Proofs.Tryd.f30.ntmps) = some a_ots_Split := by kernel_rfl
theorem s_ots_Split : cRess Go.Proofs.Tryd.prog Go.Proofs.Tryd.f30.results.toList = some r_ots_Split := by kernel_rfl
theorem m_ots_Split (C : Ctx) (hC : CtxOK C Go.Proofs.Tryd.prog) : Meets C.glob Go.Proofs.Tryd.prog 30 (afun C 1 r_ots_Split a_ots_Split) :=
  fn_sound hC Go.Proofs.Tryd.func30 c_ots_Split s_ots_Split (Nat.le_of_ble_eq_true (by kernel_rfl))

/-- curtilage/curtilageref01.Num -/
def a_ref01_Num : ACode :=
 (.seq
  (.region false [⟨(some 4), (.mv (.const (.slice none 0 0))), none⟩])
  (.seq
   (.region false [⟨(some 7), (.mv (.tmp 1)), none⟩,
    ⟨(some 8), (.mks L8 1 (.raw (u8 0#8)) (.tmp 7) (.tmp 7)), none⟩,
    ⟨(some 5), (.mv (.tmp 8)), none⟩])
   (.seq
    (.seq
     (.region false [⟨(some 9), (.mv (.tmp 1)), none⟩,
      ⟨(some 10), (.bin .sub (.tmp 9) (.const (it 1))), none⟩,
      ⟨(some 6), (.mv (.tmp 10)), none⟩])
     (.block 0
      (.loop
       (.seq
        (.seq
         (.region false [⟨(some 11), (.mv (.tmp 6)), none⟩,
          ⟨(some 12), (.bin .geq (.tmp 11) (.const (it 0))), none⟩])
         (.cond (.tmp 12)
          .skip
          (.exit 0)))
        (.seq
         (.block 1
          (.seq
           (.region false [⟨(some 15), (.mv (.tmp 5)), none⟩,
            ⟨(some 16), (.mv (.tmp 6)), none⟩,
            ⟨(some 17), (.mv (.tmp 0)), none⟩,
            ⟨(some 18), (.bin .rem (.tmp 17) (.const (u64 256#64))), none⟩,
            ⟨(some 19), (.conv .u8 (.tmp 18)), none⟩,
            ⟨(some 20), (.iaddrs L8 (.tmp 15) (.tmp 16)), none⟩,
            ⟨none, (.store L8 (.tmp 20) (.tmp 19)), none⟩])
           (.region false [⟨(some 21), (.mv (.tmp 0)), none⟩,
            ⟨(some 22), (.bin .quo (.tmp 21) (.const (u64 256#64))), none⟩,
            ⟨(some 0), (.mv (.tmp 22)), none⟩])))
         (.region false [⟨(some 13), (.mv (.tmp 6)), none⟩,
          ⟨(some 14), (.bin .sub (.tmp 13) (.const (it 1))), none⟩,
          ⟨(some 6), (.mv (.tmp 14)), none⟩]))))))
    (.seq
     (.region false [⟨(some 23), (.mv (.tmp 5)), none⟩,
      ⟨(some 4), (.mv (.tmp 23)), none⟩])
     .ret))))
def r_ref01_Num : List ARes := [(.tmp 4)]
theorem c_ref01_Num : o2 Go.Proofs.Tryd.f31.body (comp Go.Proofs.Tryd.prog Go.Proofs.Tryd.f31.ntmps) = some a_ref01_Num := by kernel_rfl
theorem s_ref01_Num : cRess Go.Proofs.Tryd.prog Go.Proofs.Tryd.f31.results.toList = some r_ref01_Num := by kernel_rfl
theorem m_ref01_Num (C : Ctx) (hC : CtxOK C Go.Proofs.Tryd.prog) : Meets C.glob Go.Proofs.Tryd.prog 31 (afun C 2 r_ref01_Num a_ref01_Num) :=
  fn_sound hC Go.Proofs.Tryd.func31 c_ref01_Num s_ref01_Num (Nat.le_of_ble_eq_true (by kernel_rfl))

/-- curtilage/curtilageref01.Value -/
def a_ref01_Value : ACode :=
 (.seq
  (.region false [⟨(some 2), (.mv (.const (u64 0#64))), none⟩])
  (.seq
   (.region false [⟨(some 3), (.mv (.const (u64 0#64))), none⟩])
   (.seq
    (.seq
     (.region false [⟨(some 6), (.mv (.tmp 0)), none⟩,
      ⟨(some 7), (.len (.tmp 6)), none⟩,
      ⟨(some 8), (.mv (.const (it 0))), none⟩])
     (.block 0
      (.loop
       (.seq
        (.region false [⟨(some 9), (.bin .lss (.tmp 8) (.tmp 7)), none⟩])
        (.seq
         (.cond (.tmp 9)
          .skip
          (.exit 0))
         (.seq
          (.block 1
           (.seq
            (.region false [⟨(some 10), (.iaddrs L8 (.tmp 6) (.tmp 8)), none⟩,
             ⟨(some 11), (.load L8 (.tmp 10)), none⟩,
             ⟨(some 5), (.mv (.tmp 11)), none⟩])
            (.region false [⟨(some 12), (.mv (.tmp 3)), none⟩,
             ⟨(some 13), (.bin .mul (.const (u64 256#64)) (.tmp 12)), none⟩,
             ⟨(some 14), (.mv (.tmp 5)), none⟩,
             ⟨(some 15), (.conv .u64 (.tmp 14)), none⟩,
             ⟨(some 16), (.bin .add (.tmp 13) (.tmp 15)), none⟩,
             ⟨(some 3), (.mv (.tmp 16)), none⟩])))
          (.region false [⟨(some 17), (.bin .add (.tmp 8) (.const (it 1))), none⟩,
           ⟨(some 8), (.mv (.tmp 17)), none⟩])))))))
    (.seq
     (.region false [⟨(some 18), (.mv (.tmp 3)), none⟩,
      ⟨(some 2), (.mv (.tmp 18)), none⟩])
     .ret))))
def r_ref01_Value : List ARes := [(.tmp 2)]
theorem c_ref01_Value : o2 Go.Proofs.Tryd.f32.body (comp Go.Proofs.Tryd.prog Go.Proofs.Tryd.f32.ntmps) = some a_ref01_Value := by kernel_rfl
theorem s_ref01_Value : cRess Go.Proofs.Tryd.prog Go.Proofs.Tryd.f32.results.toList = some r_ref01_Value := by kernel_rfl
theorem m_ref01_Value (C : Ctx) (hC : CtxOK C Go.Proofs.Tryd.prog) : Meets C.glob Go.Proofs.Tryd.prog 32 (afun C 1 r_ref01_Value a_ref01_Value) :=
  fn_sound hC Go.Proofs.Tryd.func32 c_ref01_Value s_ref01_Value (Nat.le_of_ble_eq_true (by kernel_rfl))

/-- (curtilage/ots.Param).end -/
def a_ots_Param_end : ACode :=
 (.seq
  (.region false [⟨(some 1), (.box S1 (.tmp 0)), none⟩,
   ⟨(some 2), (.mv (.const (it 0))), none⟩])
  (.seq
   (.region false [⟨(some 3), (.faddr S1 (.tmp 1) 0), none⟩,
    ⟨(some 4), (.load LI (.tmp 3)), none⟩,
    ⟨(some 5), (.bin .shl (.const (it 1)) (.tmp 4)), none⟩,
    ⟨(some 6), (.bin .sub (.tmp 5) (.const (it 1))), none⟩,
    ⟨(some 2), (.mv (.tmp 6)), none⟩])
   .ret))
def r_ots_Param_end : List ARes := [(.tmp 2)]
theorem c_ots_Param_end : o2 Go.Proofs.Tryd.f33.body (comp Go.Proofs.Tryd.prog Go.Proofs.Tryd.f33.ntmps) = some a_ots_Param_end := by kernel_rfl
theorem s_ots_Param_end : cRess Go.Proofs.Tryd.prog Go.Proofs.Tryd.f33.results.toList = some r_ots_Param_end := by kernel_rfl
theorem m_ots_Param_end (C : Ctx) (hC : CtxOK C Go.Proofs.Tryd.prog) : Meets C.glob Go.Proofs.Tryd.prog 33 (afun C 1 r_ots_Param_end a_ots_Param_end) :=
  fn_sound hC Go.Proofs.Tryd.func33 c_ots_Param_end s_ots_Param_end (Nat.le_of_ble_eq_true (by kernel_rfl))

/-- curtilage/ots.two -/
def a_ots_two : ACode :=
 (.seq
  (.region false [⟨(some 2), (.mv (.const (.slice none 0 0))), none⟩])
  (.seq
   (.region false [⟨(some 3), (.mv (.tmp 0)), none⟩,
    ⟨(some 4), (.bin .shr (.tmp 3) (.const (u64 8#64))), none⟩,
    ⟨(some 5), (.conv .u8 (.tmp 4)), none⟩,
    ⟨(some 6), (.mv (.tmp 0)), none⟩,
    ⟨(some 7), (.conv .u8 (.tmp 6)), none⟩,
    ⟨(some 8), (.bslice L8 2 (.raw (u8 0#8)) [(0, (.tmp 5)), (1, (.tmp 7))]), none⟩,
    ⟨(some 2), (.mv (.tmp 8)), none⟩])
   .ret))
def r_ots_two : List ARes := [(.tmp 2)]
theorem c_ots_two : o2 Go.Proofs.Tryd.f34.body (comp Go.Proofs.Tryd.prog Go.Proofs.Tryd.f34.ntmps) = some a_ots_two := by kernel_rfl
theorem s_ots_two : cRess Go.Proofs.Tryd.prog Go.Proofs.Tryd.f34.results.toList = some r_ots_two := by kernel_rfl
theorem m_ots_two (C : Ctx) (hC : CtxOK C Go.Proofs.Tryd.prog) : Meets C.glob Go.Proofs.Tryd.prog 34 (afun C 1 r_ots_two a_ots_two) :=
  fn_sound hC Go.Proofs.Tryd.func34 c_ots_two s_ots_two (Nat.le_of_ble_eq_true (by kernel_rfl))

/-- curtilage/curtilageref01.Join -/
def a_ref01_Join : ACode :=
 (.seq
  (.region false [⟨(some 2), (.mv (.const (.slice none 0 0))), none⟩])
  (.seq
   (.region false [⟨(some 3), (.mv (.const (.slice none 0 0))), none⟩])
   (.seq
    (.seq
     (.region false [⟨(some 6), (.mv (.tmp 0)), none⟩,
      ⟨(some 7), (.len (.tmp 6)), none⟩,
      ⟨(some 8), (.mv (.const (it 0))), none⟩])
     (.block 0
      (.loop
       (.seq
        (.region false [⟨(some 9), (.bin .lss (.tmp 8) (.tmp 7)), none⟩])
        (.seq
         (.cond (.tmp 9)
          .skip
          (.exit 0))
         (.seq
          (.block 1
           (.seq
            (.region false [⟨(some 10), (.iaddrs .ref (.tmp 6) (.tmp 8)), none⟩,
             ⟨(some 11), (.load .ref (.tmp 10)), none⟩,
             ⟨(some 5), (.mv (.tmp 11)), none⟩])
            (.region false [⟨(some 12), (.mv (.tmp 3)), none⟩,
             ⟨(some 13), (.mv (.tmp 5)), none⟩,
             ⟨(some 14), (.append L8 1 (.tmp 12) (.tmp 13)), none⟩,
             ⟨(some 3), (.mv (.tmp 14)), none⟩])))
          (.region false [⟨(some 15), (.bin .add (.tmp 8) (.const (it 1))), none⟩,
           ⟨(some 8), (.mv (.tmp 15)), none⟩])))))))
    (.seq
     (.region false [⟨(some 16), (.mv (.tmp 3)), none⟩,
      ⟨(some 2), (.mv (.tmp 16)), none⟩])
     .ret))))
def r_ref01_Join : List ARes := [(.tmp 2)]
theorem c_ref01_Join : o2 Go.Proofs.Tryd.f35.body (comp Go.Proofs.Tryd.prog Go.Proofs.Tryd.f35.ntmps) = some a_ref01_Join := by kernel_rfl
theorem s_ref01_Join : cRess Go.Proofs.Tryd.prog Go.Proofs.Tryd.f35.results.toList = some r_ref01_Join := by kernel_rfl
theorem m_ref01_Join (C : Ctx) (hC : CtxOK C Go.Proofs.Tryd.prog) : Meets C.glob Go.Proofs.Tryd.prog 35 (afun C 1 r_ref01_Join a_ref01_Join) :=
  fn_sound hC Go.Proofs.Tryd.func35 c_ref01_Join s_ref01_Join (Nat.le_of_ble_eq_true (by kernel_rfl))

/-- curtilage/curtilageref01.Sum -/
def a_ref01_Sum : ACode :=
 (.seq
  (.region false [⟨(some 2), (.alloc (.ar 32 L8) (.agg (.ar 32 L8) (List.replicate 32 (.raw (u8 0#8))))), none⟩])
  (.seq
   (.region false [⟨(some 11), (.mv (.tmp 0)), none⟩,
    ⟨(some 12), (.len (.tmp 11)), none⟩,
    ⟨(some 13), (.conv .u64 (.tmp 12)), none⟩,
    ⟨(some 3), (.mv (.tmp 13)), none⟩])
   (.seq
    (.region false [⟨(some 14), (.mv (.tmp 0)), none⟩,
     ⟨(some 15), (.mv (.tmp 0)), none⟩,
     ⟨(some 16), (.len (.tmp 15)), none⟩,
     ⟨(some 17), (.call 14 [(.tmp 14), (.tmp 16)]), none⟩,
     ⟨(some 18), (.bslice L8 1 (.raw (u8 0#8)) [(0, (.const (u8 128#8)))]), none⟩,
     ⟨(some 19), (.append L8 1 (.tmp 17) (.tmp 18)), none⟩,
     ⟨(some 0), (.mv (.tmp 19)), none⟩])
    (.seq
     (.block 0
      (.loop
       (.seq
        (.seq
         (.region false [⟨(some 20), (.mv (.tmp 0)), none⟩,
          ⟨(some 21), (.len (.tmp 20)), none⟩,
          ⟨(some 22), (.bin .rem (.tmp 21) (.const (it 64))), none⟩,
          ⟨(some 23), (.bin .neq (.tmp 22) (.const (it 56))), none⟩])
         (.cond (.tmp 23)
          .skip
          (.exit 0)))
        (.block 1
         (.region false [⟨(some 24), (.mv (.tmp 0)), none⟩,
          ⟨(some 25), (.bslice L8 1 (.raw (u8 0#8)) [(0, (.const (u8 0#8)))]), none⟩,
          ⟨(some 26), (.append L8 1 (.tmp 24) (.tmp 25)), none⟩,
          ⟨(some 0), (.mv (.tmp 26)), none⟩])))))
     (.seq
      (.region false [⟨(some 27), (.mv (.tmp 0)), none⟩,
       ⟨(some 28), (.mv (.tmp 3)), none⟩,
       ⟨(some 29), (.bin .mul (.const (u64 8#64)) (.tmp 28)), none⟩,
       ⟨(some 30), (.call 31 [(.tmp 29), (.const (it 8))]), none⟩,
       ⟨(some 31), (.append L8 1 (.tmp 27) (.tmp 30)), none⟩,
       ⟨(some 0), (.mv (.tmp 31)), none⟩])
      (.seq
       (.region false [⟨(some 32), (.build (.ar 8 L32) (List.replicate 8 (.raw (u32 0#32))) [(0, (.const (u32 1779033703#32))), (1, (.const (u32 3144134277#32))), (2, (.const (u32 1013904242#32))), (3, (.const (u32 2773480762#32))), (4, (.const (u32 1359893119#32))), (5, (.const (u32 2600822924#32))), (6, (.const (u32 528734635#32))), (7, (.const (u32 1541459225#32)))]), none⟩,
        ⟨(some 4), (.alloc (.ar 8 L32) (.agg (.ar 8 L32) (List.replicate 8 (.raw (u32 0#32))))), none⟩,
        ⟨none, (.store (.ar 8 L32) (.tmp 4) (.tmp 32)), none⟩])
       (.seq
        (.seq
         (.region false [⟨(some 5), (.mv (.const (it 0))), none⟩])
         (.block 2
          (.loop
           (.seq
            (.seq
             (.region false [⟨(some 33), (.mv (.tmp 5)), none⟩,
              ⟨(some 34), (.mv (.tmp 0)), none⟩,
              ⟨(some 35), (.len (.tmp 34)), none⟩,
              ⟨(some 36), (.bin .lss (.tmp 33) (.tmp 35)), none⟩])
             (.cond (.tmp 36)
              .skip
              (.exit 2)))
            (.seq
             (.block 3
              (.draw1 [⟨(some 39), (.load (.ar 8 L32) (.tmp 4)), none⟩,
               ⟨(some 40), (.mv (.tmp 0)), none⟩,
               ⟨(some 41), (.mv (.tmp 5)), none⟩,
               ⟨(some 42), (.mv (.tmp 5)), none⟩,
               ⟨(some 43), (.bin .add (.tmp 42) (.const (it 64))), none⟩,
               ⟨(some 44), (.slice L8 (.tmp 40) (some (.tmp 41)) (some (.tmp 43)) none), none⟩]
               [⟨(some 45), (.call 41 [(.tmp 39), (.tmp 44)]), none⟩,
               ⟨none, (.store (.ar 8 L32) (.tmp 4) (.tmp 45)), none⟩]))
             (.region false [⟨(some 37), (.mv (.tmp 5)), none⟩,
              ⟨(some 38), (.bin .add (.tmp 37) (.const (it 64))), none⟩,
              ⟨(some 5), (.mv (.tmp 38)), none⟩]))))))
        (.seq
         (.region false [⟨(some 6), (.alloc (.ar 32 L8) (.agg (.ar 32 L8) (List.replicate 32 (.raw (u8 0#8))))), none⟩])
         (.seq
          (.seq
           (.region false [⟨(some 46), (.load (.ar 8 L32) (.tmp 4)), none⟩,
            ⟨(some 47), (.mv (.const (it 0))), none⟩])
           (.block 4
            (.loop
             (.seq
              (.region false [⟨(some 48), (.bin .lss (.tmp 47) (.const (it 8))), none⟩])
              (.seq
               (.cond (.tmp 48)
                .skip
                (.exit 4))
               (.seq
                (.block 5
                 (.seq
                  (.region false [⟨(some 49), (.mv (.tmp 47)), none⟩,
                   ⟨(some 50), (.index 8 L32 (.tmp 46) (.tmp 47)), none⟩,
                   ⟨(some 7), (.mv (.tmp 49)), none⟩,
                   ⟨(some 8), (.mv (.tmp 50)), none⟩])
                  (.seq
                   (.region false [⟨(some 51), (.mv (.tmp 8)), none⟩,
                    ⟨(some 52), (.conv .u64 (.tmp 51)), none⟩,
                    ⟨(some 53), (.call 31 [(.tmp 52), (.const (it 4))]), none⟩,
                    ⟨(some 54), (.len (.tmp 53)), none⟩,
                    ⟨(some 55), (.mv (.const (it 0))), none⟩])
                   (.block 6
                    (.loop
                     (.seq
                      (.region false [⟨(some 56), (.bin .lss (.tmp 55) (.tmp 54)), none⟩])
                      (.seq
                       (.cond (.tmp 56)
                        .skip
                        (.exit 6))
                       (.seq
                        (.block 7
                         (.seq
                          (.region false [⟨(some 57), (.mv (.tmp 55)), none⟩,
                           ⟨(some 58), (.iaddrs L8 (.tmp 53) (.tmp 55)), none⟩,
                           ⟨(some 59), (.load L8 (.tmp 58)), none⟩,
                           ⟨(some 9), (.mv (.tmp 57)), none⟩,
                           ⟨(some 10), (.mv (.tmp 59)), none⟩])
                          (.region false [⟨(some 60), (.mv (.tmp 7)), none⟩,
                           ⟨(some 61), (.bin .mul (.const (it 4)) (.tmp 60)), none⟩,
                           ⟨(some 62), (.mv (.tmp 9)), none⟩,
                           ⟨(some 63), (.bin .add (.tmp 61) (.tmp 62)), none⟩,
                           ⟨(some 64), (.mv (.tmp 10)), none⟩,
                           ⟨(some 65), (.iaddra 32 L8 (.tmp 6) (.tmp 63)), none⟩,
                           ⟨none, (.store L8 (.tmp 65) (.tmp 64)), none⟩])))
                        (.region false [⟨(some 66), (.bin .add (.tmp 55) (.const (it 1))), none⟩,
                         ⟨(some 55), (.mv (.tmp 66)), none⟩])))))))))
                (.region false [⟨(some 67), (.bin .add (.tmp 47) (.const (it 1))), none⟩,
                 ⟨(some 47), (.mv (.tmp 67)), none⟩])))))))
          (.seq
           (.region false [⟨(some 68), (.load (.ar 32 L8) (.tmp 6)), none⟩,
            ⟨none, (.store (.ar 32 L8) (.tmp 2) (.tmp 68)), none⟩])
           .ret))))))))))
def r_ref01_Sum : List ARes := [(.cell 2 (.ar 32 L8))]
theorem c_ref01_Sum : o2 Go.Proofs.Tryd.f36.body (comp Go.Proofs.Tryd.prog Go.Proofs.Tryd.f36.ntmps) = some a_ref01_Sum := by kernel_rfl
theorem s_ref01_Sum : cRess Go.Proofs.Tryd.prog Go.Proofs.Tryd.f36.results.toList = some r_ref01_Sum := by kernel_rfl
theorem m_ref01_Sum (C : Ctx) (hC : CtxOK C Go.Proofs.Tryd.prog) : Meets C.glob Go.Proofs.Tryd.prog 36 (afun C 1 r_ref01_Sum a_ref01_Sum) :=
  fn_sound hC Go.Proofs.Tryd.func36 c_ref01_Sum s_ref01_Sum (Nat.le_of_ble_eq_true (by kernel_rfl))

/-- curtilage/ots.front -/
def a_ots_front : ACode :=
 (.seq
  (.region false [⟨(some 1), (.box S2 (.tmp 0)), none⟩,
   ⟨(some 2), (.alloc S3 (.agg S3 [(.agg (.ar 8 L32) (List.replicate 8 (.raw (u32 0#32)))), (.agg (.ar 64 L8) (List.replicate 64 (.raw (u8 0#8)))), (.raw (u64 0#64))])), none⟩])
  (.seq
   (.draw1 [⟨(some 3), (.call 42 []), none⟩,
    ⟨(some 4), (.faddr S2 (.tmp 1) 0), none⟩,
    ⟨(some 5), (.slicea 16 L8 (.tmp 4) none none none), none⟩,
    ⟨(some 6), (.call 38 [(.tmp 3), (.tmp 5)]), none⟩,
    ⟨(some 7), (.faddr S2 (.tmp 1) 1), none⟩,
    ⟨(some 8), (.load L32 (.tmp 7)), none⟩]
    [⟨(some 9), (.call 40 [(.tmp 8)]), none⟩,
    ⟨(some 10), (.call 38 [(.tmp 6), (.tmp 9)]), none⟩,
    ⟨none, (.store S3 (.tmp 2) (.tmp 10)), none⟩])
   .ret))
def r_ots_front : List ARes := [(.cell 2 S3)]
theorem c_ots_front : o2 Go.Proofs.Tryd.f37.body (comp Go.Proofs.Tryd.prog Go.Proofs.Tryd.f37.ntmps) = some a_ots_front := by kernel_rfl
theorem s_ots_front : cRess Go.Proofs.Tryd.prog Go.Proofs.Tryd.f37.results.toList = some r_ots_front := by kernel_rfl
theorem m_ots_front (C : Ctx) (hC : CtxOK C Go.Proofs.Tryd.prog) : Meets C.glob Go.Proofs.Tryd.prog 37 (afun C 1 r_ots_front a_ots_front) :=
  fn_sound hC Go.Proofs.Tryd.func37 c_ots_front s_ots_front (Nat.le_of_ble_eq_true (by kernel_rfl))

/-- (curtilage/sha.State).Feed -/
def a_sha_State_Feed : ACode :=
 (.seq
  (.region false [⟨(some 2), (.box S3 (.tmp 0)), none⟩,
   ⟨(some 4), (.alloc S3 (.agg S3 [(.agg (.ar 8 L32) (List.replicate 8 (.raw (u32 0#32)))), (.agg (.ar 64 L8) (List.replicate 64 (.raw (u8 0#8)))), (.raw (u64 0#64))])), none⟩])
  (.seq
   (.block 0
    (.loop
     (.seq
      (.seq
       (.region false [⟨(some 7), (.mv (.tmp 1)), none⟩,
        ⟨(some 8), (.len (.tmp 7)), none⟩,
        ⟨(some 9), (.bin .gtr (.tmp 8) (.const (it 0))), none⟩])
       (.cond (.tmp 9)
        .skip
        (.exit 0)))
      (.block 1
       (.seq
        (.region false [⟨(some 10), (.faddr S3 (.tmp 2) 2), none⟩,
         ⟨(some 11), (.load L64 (.tmp 10)), none⟩,
         ⟨(some 12), (.bin .rem (.tmp 11) (.const (u64 64#64))), none⟩,
         ⟨(some 13), (.conv .i64 (.tmp 12)), none⟩,
         ⟨(some 5), (.mv (.tmp 13)), none⟩])
        (.seq
         (.region false [⟨(some 14), (.faddr S3 (.tmp 2) 1), none⟩,
          ⟨(some 15), (.mv (.tmp 5)), none⟩,
          ⟨(some 16), (.slicea 64 L8 (.tmp 14) (some (.tmp 15)) none none), none⟩,
          ⟨(some 17), (.mv (.tmp 1)), none⟩,
          ⟨(some 18), (.copy L8 (.tmp 16) (.tmp 17)), none⟩,
          ⟨(some 6), (.mv (.tmp 18)), none⟩])
         (.seq
          (.region false [⟨(some 19), (.faddr S3 (.tmp 2) 2), none⟩,
           ⟨(some 20), (.load L64 (.tmp 19)), none⟩,
           ⟨(some 21), (.mv (.tmp 6)), none⟩,
           ⟨(some 22), (.conv .u64 (.tmp 21)), none⟩,
           ⟨(some 23), (.bin .add (.tmp 20) (.tmp 22)), none⟩,
           ⟨(some 24), (.faddr S3 (.tmp 2) 2), none⟩,
           ⟨none, (.store L64 (.tmp 24) (.tmp 23)), none⟩])
          (.seq
           (.region false [⟨(some 25), (.mv (.tmp 1)), none⟩,
            ⟨(some 26), (.mv (.tmp 6)), none⟩,
            ⟨(some 27), (.slice L8 (.tmp 25) (some (.tmp 26)) none none), none⟩,
            ⟨(some 1), (.mv (.tmp 27)), none⟩])
           (.seq
            (.region false [⟨(some 28), (.mv (.tmp 5)), none⟩,
             ⟨(some 29), (.mv (.tmp 6)), none⟩,
             ⟨(some 30), (.bin .add (.tmp 28) (.tmp 29)), none⟩,
             ⟨(some 31), (.bin .eql (.tmp 30) (.const (it 64))), none⟩])
            (.cond (.tmp 31)
             (.region false [⟨(some 32), (.faddr S3 (.tmp 2) 0), none⟩,
              ⟨(some 33), (.load (.ar 8 L32) (.tmp 32)), none⟩,
              ⟨(some 34), (.faddr S3 (.tmp 2) 1), none⟩,
              ⟨(some 35), (.load (.ar 64 L8) (.tmp 34)), none⟩,
              ⟨(some 36), (.call 43 [(.tmp 33), (.tmp 35)]), none⟩,
              ⟨(some 37), (.build (.ar 64 L8) (List.replicate 64 (.raw (u8 0#8))) []), none⟩,
              ⟨(some 38), (.faddr S3 (.tmp 2) 0), none⟩,
              ⟨none, (.store (.ar 8 L32) (.tmp 38) (.tmp 36)), none⟩,
              ⟨(some 39), (.faddr S3 (.tmp 2) 1), none⟩,
              ⟨none, (.store (.ar 64 L8) (.tmp 39) (.tmp 37)), none⟩])
             .skip))))))))))
   (.seq
    (.region false [⟨(some 40), (.load S3 (.tmp 2)), none⟩,
     ⟨none, (.store S3 (.tmp 4) (.tmp 40)), none⟩])
    .ret)))
def r_sha_State_Feed : List ARes := [(.cell 4 S3)]
theorem c_sha_State_Feed : o2 Go.Proofs.Tryd.f38.body (comp Go.Proofs.Tryd.prog Go.Proofs.Tryd.f38.ntmps) = some a_sha_State_Feed := by kernel_rfl
theorem s_sha_State_Feed : cRess Go.Proofs.Tryd.prog Go.Proofs.Tryd.f38.results.toList = some r_sha_State_Feed := by kernel_rfl
theorem m_sha_State_Feed (C : Ctx) (hC : CtxOK C Go.Proofs.Tryd.prog) : Meets C.glob Go.Proofs.Tryd.prog 38 (afun C 2 r_sha_State_Feed a_sha_State_Feed) :=
  fn_sound hC Go.Proofs.Tryd.func38 c_sha_State_Feed s_sha_State_Feed (Nat.le_of_ble_eq_true (by kernel_rfl))

/-- (curtilage/sha.State).Sum -/
def a_sha_State_Sum : ACode :=
 (.seq
  (.region false [⟨(some 1), (.box S3 (.tmp 0)), none⟩,
   ⟨(some 2), (.alloc (.ar 32 L8) (.agg (.ar 32 L8) (List.replicate 32 (.raw (u8 0#8))))), none⟩])
  (.seq
   (.draw1 [⟨(some 3), (.load S3 (.tmp 1)), none⟩,
    ⟨(some 4), (.faddr S3 (.tmp 1) 2), none⟩,
    ⟨(some 5), (.load L64 (.tmp 4)), none⟩,
    ⟨(some 6), (.call 45 [(.tmp 5)]), none⟩]
    [⟨(some 7), (.call 38 [(.tmp 3), (.tmp 6)]), none⟩,
    ⟨(some 8), (.field S3 (.tmp 7) 0), none⟩,
    ⟨(some 9), (.call 44 [(.tmp 8)]), none⟩,
    ⟨none, (.store (.ar 32 L8) (.tmp 2) (.tmp 9)), none⟩])
   .ret))
def r_sha_State_Sum : List ARes := [(.cell 2 (.ar 32 L8))]
theorem c_sha_State_Sum : o2 Go.Proofs.Tryd.f39.body (comp Go.Proofs.Tryd.prog Go.Proofs.Tryd.f39.ntmps) = some a_sha_State_Sum := by kernel_rfl
theorem s_sha_State_Sum : cRess Go.Proofs.Tryd.prog Go.Proofs.Tryd.f39.results.toList = some r_sha_State_Sum := by kernel_rfl
theorem m_sha_State_Sum (C : Ctx) (hC : CtxOK C Go.Proofs.Tryd.prog) : Meets C.glob Go.Proofs.Tryd.prog 39 (afun C 1 r_sha_State_Sum a_sha_State_Sum) :=
  fn_sound hC Go.Proofs.Tryd.func39 c_sha_State_Sum s_sha_State_Sum (Nat.le_of_ble_eq_true (by kernel_rfl))

/-- curtilage/ots.four -/
def a_ots_four : ACode :=
 (.seq
  (.region false [⟨(some 2), (.mv (.const (.slice none 0 0))), none⟩])
  (.seq
   (.region false [⟨(some 3), (.mv (.tmp 0)), none⟩,
    ⟨(some 4), (.bin .shr (.tmp 3) (.const (u64 24#64))), none⟩,
    ⟨(some 5), (.conv .u8 (.tmp 4)), none⟩,
    ⟨(some 6), (.mv (.tmp 0)), none⟩,
    ⟨(some 7), (.bin .shr (.tmp 6) (.const (u64 16#64))), none⟩,
    ⟨(some 8), (.conv .u8 (.tmp 7)), none⟩,
    ⟨(some 9), (.mv (.tmp 0)), none⟩,
    ⟨(some 10), (.bin .shr (.tmp 9) (.const (u64 8#64))), none⟩,
    ⟨(some 11), (.conv .u8 (.tmp 10)), none⟩,
    ⟨(some 12), (.mv (.tmp 0)), none⟩,
    ⟨(some 13), (.conv .u8 (.tmp 12)), none⟩,
    ⟨(some 14), (.bslice L8 4 (.raw (u8 0#8)) [(0, (.tmp 5)), (1, (.tmp 8)), (2, (.tmp 11)), (3, (.tmp 13))]), none⟩,
    ⟨(some 2), (.mv (.tmp 14)), none⟩])
   .ret))
def r_ots_four : List ARes := [(.tmp 2)]
theorem c_ots_four : o2 Go.Proofs.Tryd.f40.body (comp Go.Proofs.Tryd.prog Go.Proofs.Tryd.f40.ntmps) = some a_ots_four := by kernel_rfl
theorem s_ots_four : cRess Go.Proofs.Tryd.prog Go.Proofs.Tryd.f40.results.toList = some r_ots_four := by kernel_rfl
theorem m_ots_four (C : Ctx) (hC : CtxOK C Go.Proofs.Tryd.prog) : Meets C.glob Go.Proofs.Tryd.prog 40 (afun C 1 r_ots_four a_ots_four) :=
  fn_sound hC Go.Proofs.Tryd.func40 c_ots_four s_ots_four (Nat.le_of_ble_eq_true (by kernel_rfl))

/-- curtilage/curtilageref01.Press -/
def a_ref01_Press : ACode :=
 (.seq
  (.region false [⟨(some 2), (.box (.ar 8 L32) (.tmp 0)), none⟩,
   ⟨(some 4), (.alloc (.ar 8 L32) (.agg (.ar 8 L32) (List.replicate 8 (.raw (u32 0#32))))), none⟩])
  (.seq
   (.region false [⟨(some 21), (.mks L32 4 (.raw (u32 0#32)) (.const (it 64)) (.const (it 64))), none⟩,
    ⟨(some 5), (.mv (.tmp 21)), none⟩])
   (.seq
    (.seq
     (.region false [⟨(some 22), (.mv (.tmp 5)), none⟩,
      ⟨(some 23), (.len (.tmp 22)), none⟩,
      ⟨(some 24), (.mv (.const (it 0))), none⟩])
     (.block 0
      (.loop
       (.seq
        (.region false [⟨(some 25), (.bin .lss (.tmp 24) (.tmp 23)), none⟩])
        (.seq
         (.cond (.tmp 25)
          .skip
          (.exit 0))
         (.seq
          (.block 1
           (.seq
            (.region false [⟨(some 26), (.mv (.tmp 24)), none⟩,
             ⟨(some 6), (.mv (.tmp 26)), none⟩])
            (.seq
             (.seq
              (.region false [⟨(some 27), (.mv (.tmp 6)), none⟩,
               ⟨(some 28), (.bin .lss (.tmp 27) (.const (it 16))), none⟩])
              (.cond (.tmp 28)
               (.seq
                (.region false [⟨(some 29), (.mv (.tmp 5)), none⟩,
                 ⟨(some 30), (.mv (.tmp 6)), none⟩,
                 ⟨(some 31), (.mv (.tmp 1)), none⟩,
                 ⟨(some 32), (.mv (.tmp 6)), none⟩,
                 ⟨(some 33), (.bin .mul (.const (it 4)) (.tmp 32)), none⟩,
                 ⟨(some 34), (.mv (.tmp 6)), none⟩,
                 ⟨(some 35), (.bin .mul (.const (it 4)) (.tmp 34)), none⟩,
                 ⟨(some 36), (.bin .add (.tmp 35) (.const (it 4))), none⟩,
                 ⟨(some 37), (.slice L8 (.tmp 31) (some (.tmp 33)) (some (.tmp 36)) none), none⟩,
                 ⟨(some 38), (.call 32 [(.tmp 37)]), none⟩,
                 ⟨(some 39), (.conv .u32 (.tmp 38)), none⟩,
                 ⟨(some 40), (.iaddrs L32 (.tmp 29) (.tmp 30)), none⟩,
                 ⟨none, (.store L32 (.tmp 40) (.tmp 39)), none⟩])
                (.exit 1))
               .skip))
             (.region true [⟨(some 41), (.mv (.tmp 5)), none⟩,
              ⟨(some 42), (.mv (.tmp 6)), none⟩,
              ⟨(some 43), (.mv (.tmp 5)), none⟩,
              ⟨(some 44), (.mv (.tmp 6)), none⟩,
              ⟨(some 45), (.bin .sub (.tmp 44) (.const (it 16))), none⟩,
              ⟨(some 46), (.iaddrs L32 (.tmp 43) (.tmp 45)), none⟩,
              ⟨(some 47), (.load L32 (.tmp 46)), none⟩,
              ⟨(some 48), (.mv (.tmp 5)), none⟩,
              ⟨(some 49), (.mv (.tmp 6)), none⟩,
              ⟨(some 50), (.bin .sub (.tmp 49) (.const (it 15))), none⟩,
              ⟨(some 51), (.iaddrs L32 (.tmp 48) (.tmp 50)), none⟩,
              ⟨(some 52), (.load L32 (.tmp 51)), none⟩,
              ⟨(some 53), (.call 46 [(.tmp 52), (.const (it 7))]), none⟩,
              ⟨(some 54), (.mv (.tmp 5)), none⟩,
              ⟨(some 55), (.mv (.tmp 6)), none⟩,
              ⟨(some 56), (.bin .sub (.tmp 55) (.const (it 15))), none⟩,
              ⟨(some 57), (.iaddrs L32 (.tmp 54) (.tmp 56)), none⟩,
              ⟨(some 58), (.load L32 (.tmp 57)), none⟩,
              ⟨(some 59), (.call 46 [(.tmp 58), (.const (it 18))]), none⟩,
              ⟨(some 60), (.bin .xor (.tmp 53) (.tmp 59)), none⟩,
              ⟨(some 61), (.mv (.tmp 5)), none⟩,
              ⟨(some 62), (.mv (.tmp 6)), none⟩,
              ⟨(some 63), (.bin .sub (.tmp 62) (.const (it 15))), none⟩,
              ⟨(some 64), (.iaddrs L32 (.tmp 61) (.tmp 63)), none⟩,
              ⟨(some 65), (.load L32 (.tmp 64)), none⟩,
              ⟨(some 66), (.bin .shr (.tmp 65) (.const (u64 3#64))), none⟩,
              ⟨(some 67), (.bin .xor (.tmp 60) (.tmp 66)), none⟩,
              ⟨(some 68), (.bin .add (.tmp 47) (.tmp 67)), none⟩,
              ⟨(some 69), (.mv (.tmp 5)), none⟩,
              ⟨(some 70), (.mv (.tmp 6)), none⟩,
              ⟨(some 71), (.bin .sub (.tmp 70) (.const (it 7))), none⟩,
              ⟨(some 72), (.iaddrs L32 (.tmp 69) (.tmp 71)), none⟩,
              ⟨(some 73), (.load L32 (.tmp 72)), none⟩,
              ⟨(some 74), (.bin .add (.tmp 68) (.tmp 73)), none⟩,
              ⟨(some 75), (.mv (.tmp 5)), none⟩,
              ⟨(some 76), (.mv (.tmp 6)), none⟩,
              ⟨(some 77), (.bin .sub (.tmp 76) (.const (it 2))), none⟩,
              ⟨(some 78), (.iaddrs L32 (.tmp 75) (.tmp 77)), none⟩,
              ⟨(some 79), (.load L32 (.tmp 78)), none⟩,
              ⟨(some 80), (.call 46 [(.tmp 79), (.const (it 17))]), none⟩,
              ⟨(some 81), (.mv (.tmp 5)), none⟩,
              ⟨(some 82), (.mv (.tmp 6)), none⟩,
              ⟨(some 83), (.bin .sub (.tmp 82) (.const (it 2))), none⟩,
              ⟨(some 84), (.iaddrs L32 (.tmp 81) (.tmp 83)), none⟩,
              ⟨(some 85), (.load L32 (.tmp 84)), none⟩,
              ⟨(some 86), (.call 46 [(.tmp 85), (.const (it 19))]), none⟩,
              ⟨(some 87), (.bin .xor (.tmp 80) (.tmp 86)), none⟩,
              ⟨(some 88), (.mv (.tmp 5)), none⟩,
              ⟨(some 89), (.mv (.tmp 6)), none⟩,
              ⟨(some 90), (.bin .sub (.tmp 89) (.const (it 2))), none⟩,
              ⟨(some 91), (.iaddrs L32 (.tmp 88) (.tmp 90)), none⟩,
              ⟨(some 92), (.load L32 (.tmp 91)), none⟩,
              ⟨(some 93), (.bin .shr (.tmp 92) (.const (u64 10#64))), none⟩,
              ⟨(some 94), (.bin .xor (.tmp 87) (.tmp 93)), none⟩,
              ⟨(some 95), (.bin .add (.tmp 74) (.tmp 94)), none⟩,
              ⟨(some 96), (.iaddrs L32 (.tmp 41) (.tmp 42)), none⟩,
              ⟨none, (.store L32 (.tmp 96) (.tmp 95)), none⟩]))))
          (.region false [⟨(some 97), (.bin .add (.tmp 24) (.const (it 1))), none⟩,
           ⟨(some 24), (.mv (.tmp 97)), none⟩])))))))
    (.seq
     (.region true [⟨(some 98), (.iaddra 8 L32 (.tmp 2) (.const (it 0))), none⟩,
      ⟨(some 99), (.load L32 (.tmp 98)), none⟩,
      ⟨(some 100), (.iaddra 8 L32 (.tmp 2) (.const (it 1))), none⟩,
      ⟨(some 101), (.load L32 (.tmp 100)), none⟩,
      ⟨(some 102), (.iaddra 8 L32 (.tmp 2) (.const (it 2))), none⟩,
      ⟨(some 103), (.load L32 (.tmp 102)), none⟩,
      ⟨(some 104), (.iaddra 8 L32 (.tmp 2) (.const (it 3))), none⟩,
      ⟨(some 105), (.load L32 (.tmp 104)), none⟩,
      ⟨(some 106), (.iaddra 8 L32 (.tmp 2) (.const (it 4))), none⟩,
      ⟨(some 107), (.load L32 (.tmp 106)), none⟩,
      ⟨(some 108), (.iaddra 8 L32 (.tmp 2) (.const (it 5))), none⟩,
      ⟨(some 109), (.load L32 (.tmp 108)), none⟩,
      ⟨(some 110), (.iaddra 8 L32 (.tmp 2) (.const (it 6))), none⟩,
      ⟨(some 111), (.load L32 (.tmp 110)), none⟩,
      ⟨(some 112), (.iaddra 8 L32 (.tmp 2) (.const (it 7))), none⟩,
      ⟨(some 113), (.load L32 (.tmp 112)), none⟩,
      ⟨(some 7), (.mv (.tmp 99)), none⟩,
      ⟨(some 8), (.mv (.tmp 101)), none⟩,
      ⟨(some 9), (.mv (.tmp 103)), none⟩,
      ⟨(some 10), (.mv (.tmp 105)), none⟩,
      ⟨(some 11), (.mv (.tmp 107)), none⟩,
      ⟨(some 12), (.mv (.tmp 109)), none⟩,
      ⟨(some 13), (.mv (.tmp 111)), none⟩,
      ⟨(some 14), (.mv (.tmp 113)), none⟩])
     (.seq
      (.region false [⟨(some 114), (.call 47 []), none⟩,
       ⟨(some 15), (.alloc (.ar 64 L32) (.agg (.ar 64 L32) (List.replicate 64 (.raw (u32 0#32))))), none⟩,
       ⟨none, (.store (.ar 64 L32) (.tmp 15) (.tmp 114)), none⟩])
      (.seq
       (.seq
        (.region false [⟨(some 115), (.mv (.tmp 5)), none⟩,
         ⟨(some 116), (.len (.tmp 115)), none⟩,
         ⟨(some 117), (.mv (.const (it 0))), none⟩])
        (.block 2
         (.loop
          (.seq
           (.region false [⟨(some 118), (.bin .lss (.tmp 117) (.tmp 116)), none⟩])
           (.seq
            (.cond (.tmp 118)
             .skip
             (.exit 2))
            (.seq
             (.block 3
              (.seq
               (.region false [⟨(some 119), (.mv (.tmp 117)), none⟩,
                ⟨(some 16), (.mv (.tmp 119)), none⟩])
               (.seq
                (.region true [⟨(some 120), (.mv (.tmp 14)), none⟩,
                 ⟨(some 121), (.mv (.tmp 11)), none⟩,
                 ⟨(some 122), (.call 46 [(.tmp 121), (.const (it 6))]), none⟩,
                 ⟨(some 123), (.mv (.tmp 11)), none⟩,
                 ⟨(some 124), (.call 46 [(.tmp 123), (.const (it 11))]), none⟩,
                 ⟨(some 125), (.bin .xor (.tmp 122) (.tmp 124)), none⟩,
                 ⟨(some 126), (.mv (.tmp 11)), none⟩,
                 ⟨(some 127), (.call 46 [(.tmp 126), (.const (it 25))]), none⟩,
                 ⟨(some 128), (.bin .xor (.tmp 125) (.tmp 127)), none⟩,
                 ⟨(some 129), (.bin .add (.tmp 120) (.tmp 128)), none⟩,
                 ⟨(some 130), (.mv (.tmp 11)), none⟩,
                 ⟨(some 131), (.mv (.tmp 12)), none⟩,
                 ⟨(some 132), (.bin .and (.tmp 130) (.tmp 131)), none⟩,
                 ⟨(some 133), (.mv (.tmp 11)), none⟩,
                 ⟨(some 134), (.bin .sub (.const (u32 4294967295#32)) (.tmp 133)), none⟩,
                 ⟨(some 135), (.mv (.tmp 13)), none⟩,
                 ⟨(some 136), (.bin .and (.tmp 134) (.tmp 135)), none⟩,
                 ⟨(some 137), (.bin .xor (.tmp 132) (.tmp 136)), none⟩,
                 ⟨(some 138), (.bin .add (.tmp 129) (.tmp 137)), none⟩,
                 ⟨(some 139), (.mv (.tmp 16)), none⟩,
                 ⟨(some 140), (.iaddra 64 L32 (.tmp 15) (.tmp 139)), none⟩,
                 ⟨(some 141), (.load L32 (.tmp 140)), none⟩,
                 ⟨(some 142), (.bin .add (.tmp 138) (.tmp 141)), none⟩,
                 ⟨(some 143), (.mv (.tmp 5)), none⟩,
                 ⟨(some 144), (.mv (.tmp 16)), none⟩,
                 ⟨(some 145), (.iaddrs L32 (.tmp 143) (.tmp 144)), none⟩,
                 ⟨(some 146), (.load L32 (.tmp 145)), none⟩,
                 ⟨(some 147), (.bin .add (.tmp 142) (.tmp 146)), none⟩,
                 ⟨(some 17), (.mv (.tmp 147)), none⟩])
                (.seq
                 (.region false [⟨(some 148), (.mv (.tmp 7)), none⟩,
                  ⟨(some 149), (.call 46 [(.tmp 148), (.const (it 2))]), none⟩,
                  ⟨(some 150), (.mv (.tmp 7)), none⟩,
                  ⟨(some 151), (.call 46 [(.tmp 150), (.const (it 13))]), none⟩,
                  ⟨(some 152), (.bin .xor (.tmp 149) (.tmp 151)), none⟩,
                  ⟨(some 153), (.mv (.tmp 7)), none⟩,
                  ⟨(some 154), (.call 46 [(.tmp 153), (.const (it 22))]), none⟩,
                  ⟨(some 155), (.bin .xor (.tmp 152) (.tmp 154)), none⟩,
                  ⟨(some 156), (.mv (.tmp 7)), none⟩,
                  ⟨(some 157), (.mv (.tmp 8)), none⟩,
                  ⟨(some 158), (.bin .and (.tmp 156) (.tmp 157)), none⟩,
                  ⟨(some 159), (.mv (.tmp 7)), none⟩,
                  ⟨(some 160), (.mv (.tmp 9)), none⟩,
                  ⟨(some 161), (.bin .and (.tmp 159) (.tmp 160)), none⟩,
                  ⟨(some 162), (.bin .xor (.tmp 158) (.tmp 161)), none⟩,
                  ⟨(some 163), (.mv (.tmp 8)), none⟩,
                  ⟨(some 164), (.mv (.tmp 9)), none⟩,
                  ⟨(some 165), (.bin .and (.tmp 163) (.tmp 164)), none⟩,
                  ⟨(some 166), (.bin .xor (.tmp 162) (.tmp 165)), none⟩,
                  ⟨(some 167), (.bin .add (.tmp 155) (.tmp 166)), none⟩,
                  ⟨(some 18), (.mv (.tmp 167)), none⟩])
                 (.region false [⟨(some 168), (.mv (.tmp 13)), none⟩,
                  ⟨(some 169), (.mv (.tmp 12)), none⟩,
                  ⟨(some 170), (.mv (.tmp 11)), none⟩,
                  ⟨(some 171), (.mv (.tmp 10)), none⟩,
                  ⟨(some 172), (.mv (.tmp 17)), none⟩,
                  ⟨(some 173), (.bin .add (.tmp 171) (.tmp 172)), none⟩,
                  ⟨(some 174), (.mv (.tmp 9)), none⟩,
                  ⟨(some 175), (.mv (.tmp 8)), none⟩,
                  ⟨(some 176), (.mv (.tmp 7)), none⟩,
                  ⟨(some 177), (.mv (.tmp 17)), none⟩,
                  ⟨(some 178), (.mv (.tmp 18)), none⟩,
                  ⟨(some 179), (.bin .add (.tmp 177) (.tmp 178)), none⟩,
                  ⟨(some 14), (.mv (.tmp 168)), none⟩,
                  ⟨(some 13), (.mv (.tmp 169)), none⟩,
                  ⟨(some 12), (.mv (.tmp 170)), none⟩,
                  ⟨(some 11), (.mv (.tmp 173)), none⟩,
                  ⟨(some 10), (.mv (.tmp 174)), none⟩,
                  ⟨(some 9), (.mv (.tmp 175)), none⟩,
                  ⟨(some 8), (.mv (.tmp 176)), none⟩,
                  ⟨(some 7), (.mv (.tmp 179)), none⟩])))))
             (.region false [⟨(some 180), (.bin .add (.tmp 117) (.const (it 1))), none⟩,
              ⟨(some 117), (.mv (.tmp 180)), none⟩])))))))
       (.seq
        (.region false [⟨(some 181), (.mv (.tmp 7)), none⟩,
         ⟨(some 182), (.mv (.tmp 8)), none⟩,
         ⟨(some 183), (.mv (.tmp 9)), none⟩,
         ⟨(some 184), (.mv (.tmp 10)), none⟩,
         ⟨(some 185), (.mv (.tmp 11)), none⟩,
         ⟨(some 186), (.mv (.tmp 12)), none⟩,
         ⟨(some 187), (.mv (.tmp 13)), none⟩,
         ⟨(some 188), (.mv (.tmp 14)), none⟩,
         ⟨(some 189), (.build (.ar 8 L32) (List.replicate 8 (.raw (u32 0#32))) [(0, (.tmp 181)), (1, (.tmp 182)), (2, (.tmp 183)), (3, (.tmp 184)), (4, (.tmp 185)), (5, (.tmp 186)), (6, (.tmp 187)), (7, (.tmp 188))]), none⟩,
         ⟨(some 19), (.alloc (.ar 8 L32) (.agg (.ar 8 L32) (List.replicate 8 (.raw (u32 0#32))))), none⟩,
         ⟨none, (.store (.ar 8 L32) (.tmp 19) (.tmp 189)), none⟩])
        (.seq
         (.seq
          (.region false [⟨(some 190), (.mv (.const (it 0))), none⟩])
          (.block 4
           (.loop
            (.seq
             (.region false [⟨(some 191), (.bin .lss (.tmp 190) (.const (it 8))), none⟩])
             (.seq
              (.cond (.tmp 191)
               .skip
               (.exit 4))
              (.seq
               (.block 5
                (.seq
                 (.region false [⟨(some 192), (.mv (.tmp 190)), none⟩,
                  ⟨(some 20), (.mv (.tmp 192)), none⟩])
                 (.region true [⟨(some 193), (.mv (.tmp 20)), none⟩,
                  ⟨(some 194), (.iaddra 8 L32 (.tmp 19) (.tmp 193)), none⟩,
                  ⟨(some 195), (.load L32 (.tmp 194)), none⟩,
                  ⟨(some 196), (.mv (.tmp 20)), none⟩,
                  ⟨(some 197), (.iaddra 8 L32 (.tmp 2) (.tmp 196)), none⟩,
                  ⟨(some 198), (.load L32 (.tmp 197)), none⟩,
                  ⟨(some 199), (.bin .add (.tmp 195) (.tmp 198)), none⟩,
                  ⟨(some 200), (.iaddra 8 L32 (.tmp 19) (.tmp 193)), none⟩,
                  ⟨none, (.store L32 (.tmp 200) (.tmp 199)), none⟩])))
               (.region false [⟨(some 201), (.bin .add (.tmp 190) (.const (it 1))), none⟩,
                ⟨(some 190), (.mv (.tmp 201)), none⟩])))))))
         (.seq
          (.region false [⟨(some 202), (.load (.ar 8 L32) (.tmp 19)), none⟩,
           ⟨none, (.store (.ar 8 L32) (.tmp 4) (.tmp 202)), none⟩])
          .ret)))))))))
def r_ref01_Press : List ARes := [(.cell 4 (.ar 8 L32))]
theorem c_ref01_Press : o2 Go.Proofs.Tryd.f41.body (comp Go.Proofs.Tryd.prog Go.Proofs.Tryd.f41.ntmps) = some a_ref01_Press := by kernel_rfl
theorem s_ref01_Press : cRess Go.Proofs.Tryd.prog Go.Proofs.Tryd.f41.results.toList = some r_ref01_Press := by kernel_rfl
theorem m_ref01_Press (C : Ctx) (hC : CtxOK C Go.Proofs.Tryd.prog) : Meets C.glob Go.Proofs.Tryd.prog 41 (afun C 2 r_ref01_Press a_ref01_Press) :=
  fn_sound hC Go.Proofs.Tryd.func41 c_ref01_Press s_ref01_Press (Nat.le_of_ble_eq_true (by kernel_rfl))

/-- curtilage/sha.New -/
def a_sha_New : ACode :=
 (.seq
  (.region false [⟨(some 0), (.alloc S3 (.agg S3 [(.agg (.ar 8 L32) (List.replicate 8 (.raw (u32 0#32)))), (.agg (.ar 64 L8) (List.replicate 64 (.raw (u8 0#8)))), (.raw (u64 0#64))])), none⟩])
  (.seq
   (.region false [⟨(some 1), (.load (.ar 8 L32) (.glob 1)), none⟩,
    ⟨(some 2), (.build S3 [(.agg (.ar 8 L32) (List.replicate 8 (.raw (u32 0#32)))), (.agg (.ar 64 L8) (List.replicate 64 (.raw (u8 0#8)))), (.raw (u64 0#64))] [(0, (.tmp 1))]), none⟩,
    ⟨none, (.store S3 (.tmp 0) (.tmp 2)), none⟩])
   .ret))
def r_sha_New : List ARes := [(.cell 0 S3)]
theorem c_sha_New : o2 Go.Proofs.Tryd.f42.body (comp Go.Proofs.Tryd.prog Go.Proofs.Tryd.f42.ntmps) = some a_sha_New := by kernel_rfl
theorem s_sha_New : cRess Go.Proofs.Tryd.prog Go.Proofs.Tryd.f42.results.toList = some r_sha_New := by kernel_rfl
theorem m_sha_New (C : Ctx) (hC : CtxOK C Go.Proofs.Tryd.prog) : Meets C.glob Go.Proofs.Tryd.prog 42 (afun C 0 r_sha_New a_sha_New) :=
  fn_sound hC Go.Proofs.Tryd.func42 c_sha_New s_sha_New (Nat.le_of_ble_eq_true (by kernel_rfl))

/-- curtilage/sha.Press -/
def a_sha_Press : ACode :=
 (.seq
  (.region false [⟨(some 2), (.box (.ar 8 L32) (.tmp 0)), none⟩,
   ⟨(some 3), (.box (.ar 64 L8) (.tmp 1)), none⟩,
   ⟨(some 4), (.alloc (.ar 8 L32) (.agg (.ar 8 L32) (List.replicate 8 (.raw (u32 0#32))))), none⟩])
  (.seq
   (.region false [⟨(some 14), (.load (.ar 8 L32) (.tmp 2)), none⟩,
    ⟨(some 5), (.alloc (.ar 8 L32) (.agg (.ar 8 L32) (List.replicate 8 (.raw (u32 0#32))))), none⟩,
    ⟨none, (.store (.ar 8 L32) (.tmp 5) (.tmp 14)), none⟩])
   (.seq
    (.seq
     (.region false [⟨(some 15), (.load (.ar 64 L8) (.tmp 3)), none⟩,
      ⟨(some 16), (.call 48 [(.tmp 15)]), none⟩,
      ⟨(some 17), (.mv (.const (it 0))), none⟩])
     (.block 0
      (.loop
       (.seq
        (.region false [⟨(some 18), (.bin .lss (.tmp 17) (.const (it 64))), none⟩])
        (.seq
         (.cond (.tmp 18)
          .skip
          (.exit 0))
         (.seq
          (.block 1
           (.seq
            (.region false [⟨(some 19), (.mv (.tmp 17)), none⟩,
             ⟨(some 20), (.index 64 L32 (.tmp 16) (.tmp 17)), none⟩,
             ⟨(some 6), (.mv (.tmp 19)), none⟩,
             ⟨(some 7), (.mv (.tmp 20)), none⟩])
            (.seq
             (.region true [⟨(some 21), (.iaddra 8 L32 (.tmp 5) (.const (it 4))), none⟩,
              ⟨(some 22), (.load L32 (.tmp 21)), none⟩,
              ⟨(some 23), (.call 49 [(.tmp 22), (.const (it (-6)))]), none⟩,
              ⟨(some 24), (.iaddra 8 L32 (.tmp 5) (.const (it 4))), none⟩,
              ⟨(some 25), (.load L32 (.tmp 24)), none⟩,
              ⟨(some 26), (.call 49 [(.tmp 25), (.const (it (-11)))]), none⟩,
              ⟨(some 27), (.bin .xor (.tmp 23) (.tmp 26)), none⟩,
              ⟨(some 28), (.iaddra 8 L32 (.tmp 5) (.const (it 4))), none⟩,
              ⟨(some 29), (.load L32 (.tmp 28)), none⟩,
              ⟨(some 30), (.call 49 [(.tmp 29), (.const (it (-25)))]), none⟩,
              ⟨(some 31), (.bin .xor (.tmp 27) (.tmp 30)), none⟩,
              ⟨(some 8), (.mv (.tmp 31)), none⟩])
             (.seq
              (.region false [⟨(some 32), (.iaddra 8 L32 (.tmp 5) (.const (it 4))), none⟩,
               ⟨(some 33), (.load L32 (.tmp 32)), none⟩,
               ⟨(some 34), (.iaddra 8 L32 (.tmp 5) (.const (it 5))), none⟩,
               ⟨(some 35), (.load L32 (.tmp 34)), none⟩,
               ⟨(some 36), (.bin .and (.tmp 33) (.tmp 35)), none⟩,
               ⟨(some 37), (.iaddra 8 L32 (.tmp 5) (.const (it 4))), none⟩,
               ⟨(some 38), (.load L32 (.tmp 37)), none⟩,
               ⟨(some 39), (.un .xor (.tmp 38)), none⟩,
               ⟨(some 40), (.iaddra 8 L32 (.tmp 5) (.const (it 6))), none⟩,
               ⟨(some 41), (.load L32 (.tmp 40)), none⟩,
               ⟨(some 42), (.bin .and (.tmp 39) (.tmp 41)), none⟩,
               ⟨(some 43), (.bin .xor (.tmp 36) (.tmp 42)), none⟩,
               ⟨(some 9), (.mv (.tmp 43)), none⟩])
              (.seq
               (.region true [⟨(some 44), (.iaddra 8 L32 (.tmp 5) (.const (it 7))), none⟩,
                ⟨(some 45), (.load L32 (.tmp 44)), none⟩,
                ⟨(some 46), (.mv (.tmp 8)), none⟩,
                ⟨(some 47), (.bin .add (.tmp 45) (.tmp 46)), none⟩,
                ⟨(some 48), (.mv (.tmp 9)), none⟩,
                ⟨(some 49), (.bin .add (.tmp 47) (.tmp 48)), none⟩,
                ⟨(some 50), (.mv (.tmp 6)), none⟩,
                ⟨(some 51), (.iaddra 64 L32 (.glob 2) (.tmp 50)), none⟩,
                ⟨(some 52), (.load L32 (.tmp 51)), none⟩,
                ⟨(some 53), (.bin .add (.tmp 49) (.tmp 52)), none⟩,
                ⟨(some 54), (.mv (.tmp 7)), none⟩,
                ⟨(some 55), (.bin .add (.tmp 53) (.tmp 54)), none⟩,
                ⟨(some 10), (.mv (.tmp 55)), none⟩])
               (.seq
                (.region true [⟨(some 56), (.iaddra 8 L32 (.tmp 5) (.const (it 0))), none⟩,
                 ⟨(some 57), (.load L32 (.tmp 56)), none⟩,
                 ⟨(some 58), (.call 49 [(.tmp 57), (.const (it (-2)))]), none⟩,
                 ⟨(some 59), (.iaddra 8 L32 (.tmp 5) (.const (it 0))), none⟩,
                 ⟨(some 60), (.load L32 (.tmp 59)), none⟩,
                 ⟨(some 61), (.call 49 [(.tmp 60), (.const (it (-13)))]), none⟩,
                 ⟨(some 62), (.bin .xor (.tmp 58) (.tmp 61)), none⟩,
                 ⟨(some 63), (.iaddra 8 L32 (.tmp 5) (.const (it 0))), none⟩,
                 ⟨(some 64), (.load L32 (.tmp 63)), none⟩,
                 ⟨(some 65), (.call 49 [(.tmp 64), (.const (it (-22)))]), none⟩,
                 ⟨(some 66), (.bin .xor (.tmp 62) (.tmp 65)), none⟩,
                 ⟨(some 11), (.mv (.tmp 66)), none⟩])
                (.seq
                 (.region false [⟨(some 67), (.iaddra 8 L32 (.tmp 5) (.const (it 0))), none⟩,
                  ⟨(some 68), (.load L32 (.tmp 67)), none⟩,
                  ⟨(some 69), (.iaddra 8 L32 (.tmp 5) (.const (it 1))), none⟩,
                  ⟨(some 70), (.load L32 (.tmp 69)), none⟩,
                  ⟨(some 71), (.bin .and (.tmp 68) (.tmp 70)), none⟩,
                  ⟨(some 72), (.iaddra 8 L32 (.tmp 5) (.const (it 0))), none⟩,
                  ⟨(some 73), (.load L32 (.tmp 72)), none⟩,
                  ⟨(some 74), (.iaddra 8 L32 (.tmp 5) (.const (it 2))), none⟩,
                  ⟨(some 75), (.load L32 (.tmp 74)), none⟩,
                  ⟨(some 76), (.bin .and (.tmp 73) (.tmp 75)), none⟩,
                  ⟨(some 77), (.bin .xor (.tmp 71) (.tmp 76)), none⟩,
                  ⟨(some 78), (.iaddra 8 L32 (.tmp 5) (.const (it 1))), none⟩,
                  ⟨(some 79), (.load L32 (.tmp 78)), none⟩,
                  ⟨(some 80), (.iaddra 8 L32 (.tmp 5) (.const (it 2))), none⟩,
                  ⟨(some 81), (.load L32 (.tmp 80)), none⟩,
                  ⟨(some 82), (.bin .and (.tmp 79) (.tmp 81)), none⟩,
                  ⟨(some 83), (.bin .xor (.tmp 77) (.tmp 82)), none⟩,
                  ⟨(some 12), (.mv (.tmp 83)), none⟩])
                 (.region false [⟨(some 84), (.mv (.tmp 10)), none⟩,
                  ⟨(some 85), (.mv (.tmp 11)), none⟩,
                  ⟨(some 86), (.bin .add (.tmp 84) (.tmp 85)), none⟩,
                  ⟨(some 87), (.mv (.tmp 12)), none⟩,
                  ⟨(some 88), (.bin .add (.tmp 86) (.tmp 87)), none⟩,
                  ⟨(some 89), (.iaddra 8 L32 (.tmp 5) (.const (it 0))), none⟩,
                  ⟨(some 90), (.load L32 (.tmp 89)), none⟩,
                  ⟨(some 91), (.iaddra 8 L32 (.tmp 5) (.const (it 1))), none⟩,
                  ⟨(some 92), (.load L32 (.tmp 91)), none⟩,
                  ⟨(some 93), (.iaddra 8 L32 (.tmp 5) (.const (it 2))), none⟩,
                  ⟨(some 94), (.load L32 (.tmp 93)), none⟩,
                  ⟨(some 95), (.iaddra 8 L32 (.tmp 5) (.const (it 3))), none⟩,
                  ⟨(some 96), (.load L32 (.tmp 95)), none⟩,
                  ⟨(some 97), (.mv (.tmp 10)), none⟩,
                  ⟨(some 98), (.bin .add (.tmp 96) (.tmp 97)), none⟩,
                  ⟨(some 99), (.iaddra 8 L32 (.tmp 5) (.const (it 4))), none⟩,
                  ⟨(some 100), (.load L32 (.tmp 99)), none⟩,
                  ⟨(some 101), (.iaddra 8 L32 (.tmp 5) (.const (it 5))), none⟩,
                  ⟨(some 102), (.load L32 (.tmp 101)), none⟩,
                  ⟨(some 103), (.iaddra 8 L32 (.tmp 5) (.const (it 6))), none⟩,
                  ⟨(some 104), (.load L32 (.tmp 103)), none⟩,
                  ⟨(some 105), (.build (.ar 8 L32) (List.replicate 8 (.raw (u32 0#32))) [(0, (.tmp 88)), (1, (.tmp 90)), (2, (.tmp 92)), (3, (.tmp 94)), (4, (.tmp 98)), (5, (.tmp 100)), (6, (.tmp 102)), (7, (.tmp 104))]), none⟩,
                  ⟨none, (.store (.ar 8 L32) (.tmp 5) (.tmp 105)), none⟩]))))))))
          (.region false [⟨(some 106), (.bin .add (.tmp 17) (.const (it 1))), none⟩,
           ⟨(some 17), (.mv (.tmp 106)), none⟩])))))))
    (.seq
     (.seq
      (.region false [⟨(some 107), (.mv (.const (it 0))), none⟩])
      (.block 2
       (.loop
        (.seq
         (.region false [⟨(some 108), (.bin .lss (.tmp 107) (.const (it 8))), none⟩])
         (.seq
          (.cond (.tmp 108)
           .skip
           (.exit 2))
          (.seq
           (.block 3
            (.seq
             (.region false [⟨(some 109), (.mv (.tmp 107)), none⟩,
              ⟨(some 13), (.mv (.tmp 109)), none⟩])
             (.region true [⟨(some 110), (.mv (.tmp 13)), none⟩,
              ⟨(some 111), (.iaddra 8 L32 (.tmp 2) (.tmp 110)), none⟩,
              ⟨(some 112), (.load L32 (.tmp 111)), none⟩,
              ⟨(some 113), (.mv (.tmp 13)), none⟩,
              ⟨(some 114), (.iaddra 8 L32 (.tmp 5) (.tmp 113)), none⟩,
              ⟨(some 115), (.load L32 (.tmp 114)), none⟩,
              ⟨(some 116), (.bin .add (.tmp 112) (.tmp 115)), none⟩,
              ⟨(some 117), (.iaddra 8 L32 (.tmp 2) (.tmp 110)), none⟩,
              ⟨none, (.store L32 (.tmp 117) (.tmp 116)), none⟩])))
           (.region false [⟨(some 118), (.bin .add (.tmp 107) (.const (it 1))), none⟩,
            ⟨(some 107), (.mv (.tmp 118)), none⟩])))))))
     (.seq
      (.region false [⟨(some 119), (.load (.ar 8 L32) (.tmp 2)), none⟩,
       ⟨none, (.store (.ar 8 L32) (.tmp 4) (.tmp 119)), none⟩])
      .ret)))))
def r_sha_Press : List ARes := [(.cell 4 (.ar 8 L32))]
theorem c_sha_Press : o2 Go.Proofs.Tryd.f43.body (comp Go.Proofs.Tryd.prog Go.Proofs.Tryd.f43.ntmps) = some a_sha_Press := by kernel_rfl
theorem s_sha_Press : cRess Go.Proofs.Tryd.prog Go.Proofs.Tryd.f43.results.toList = some r_sha_Press := by kernel_rfl
theorem m_sha_Press (C : Ctx) (hC : CtxOK C Go.Proofs.Tryd.prog) : Meets C.glob Go.Proofs.Tryd.prog 43 (afun C 2 r_sha_Press a_sha_Press) :=
  fn_sound hC Go.Proofs.Tryd.func43 c_sha_Press s_sha_Press (Nat.le_of_ble_eq_true (by kernel_rfl))

/-- curtilage/sha.Digest -/
def a_sha_Digest : ACode :=
 (.seq
  (.region false [⟨(some 1), (.box (.ar 8 L32) (.tmp 0)), none⟩,
   ⟨(some 2), (.alloc (.ar 32 L8) (.agg (.ar 32 L8) (List.replicate 32 (.raw (u8 0#8))))), none⟩])
  (.seq
   (.region false [⟨(some 3), (.alloc (.ar 32 L8) (.agg (.ar 32 L8) (List.replicate 32 (.raw (u8 0#8))))), none⟩])
   (.seq
    (.seq
     (.region false [⟨(some 6), (.load (.ar 8 L32) (.tmp 1)), none⟩,
      ⟨(some 7), (.mv (.const (it 0))), none⟩])
     (.block 0
      (.loop
       (.seq
        (.region false [⟨(some 8), (.bin .lss (.tmp 7) (.const (it 8))), none⟩])
        (.seq
         (.cond (.tmp 8)
          .skip
          (.exit 0))
         (.seq
          (.block 1
           (.seq
            (.region false [⟨(some 9), (.mv (.tmp 7)), none⟩,
             ⟨(some 10), (.index 8 L32 (.tmp 6) (.tmp 7)), none⟩,
             ⟨(some 4), (.mv (.tmp 9)), none⟩,
             ⟨(some 5), (.mv (.tmp 10)), none⟩])
            (.region false [⟨(some 11), (.mv (.tmp 4)), none⟩,
             ⟨(some 12), (.bin .mul (.const (it 4)) (.tmp 11)), none⟩,
             ⟨(some 13), (.slicea 32 L8 (.tmp 3) (some (.tmp 12)) none none), none⟩,
             ⟨(some 14), (.mv (.tmp 5)), none⟩,
             ⟨(some 15), (.bin .shr (.tmp 14) (.const (u64 24#64))), none⟩,
             ⟨(some 16), (.conv .u8 (.tmp 15)), none⟩,
             ⟨(some 17), (.mv (.tmp 5)), none⟩,
             ⟨(some 18), (.bin .shr (.tmp 17) (.const (u64 16#64))), none⟩,
             ⟨(some 19), (.conv .u8 (.tmp 18)), none⟩,
             ⟨(some 20), (.mv (.tmp 5)), none⟩,
             ⟨(some 21), (.bin .shr (.tmp 20) (.const (u64 8#64))), none⟩,
             ⟨(some 22), (.conv .u8 (.tmp 21)), none⟩,
             ⟨(some 23), (.mv (.tmp 5)), none⟩,
             ⟨(some 24), (.conv .u8 (.tmp 23)), none⟩,
             ⟨(some 25), (.bslice L8 4 (.raw (u8 0#8)) [(0, (.tmp 16)), (1, (.tmp 19)), (2, (.tmp 22)), (3, (.tmp 24))]), none⟩,
             ⟨(some 26), (.copy L8 (.tmp 13) (.tmp 25)), none⟩])))
          (.region false [⟨(some 27), (.bin .add (.tmp 7) (.const (it 1))), none⟩,
           ⟨(some 7), (.mv (.tmp 27)), none⟩])))))))
    (.seq
     (.region false [⟨(some 28), (.load (.ar 32 L8) (.tmp 3)), none⟩,
      ⟨none, (.store (.ar 32 L8) (.tmp 2) (.tmp 28)), none⟩])
     .ret))))
def r_sha_Digest : List ARes := [(.cell 2 (.ar 32 L8))]
theorem c_sha_Digest : o2 Go.Proofs.Tryd.f44.body (comp Go.Proofs.Tryd.prog Go.Proofs.Tryd.f44.ntmps) = some a_sha_Digest := by kernel_rfl
theorem s_sha_Digest : cRess Go.Proofs.Tryd.prog Go.Proofs.Tryd.f44.results.toList = some r_sha_Digest := by kernel_rfl
theorem m_sha_Digest (C : Ctx) (hC : CtxOK C Go.Proofs.Tryd.prog) : Meets C.glob Go.Proofs.Tryd.prog 44 (afun C 1 r_sha_Digest a_sha_Digest) :=
  fn_sound hC Go.Proofs.Tryd.func44 c_sha_Digest s_sha_Digest (Nat.le_of_ble_eq_true (by kernel_rfl))

/-- curtilage/sha.Pad -/
def a_sha_Pad : ACode :=
 (.seq
  (.region false [⟨(some 2), (.mv (.const (.slice none 0 0))), none⟩])
  (.seq
   (.region false [⟨(some 5), (.bslice L8 1 (.raw (u8 0#8)) [(0, (.const (u8 128#8)))]), none⟩,
    ⟨(some 3), (.mv (.tmp 5)), none⟩])
   (.seq
    (.region false [⟨(some 6), (.mv (.tmp 3)), none⟩,
     ⟨(some 7), (.mv (.tmp 0)), none⟩,
     ⟨(some 8), (.bin .rem (.tmp 7) (.const (u64 64#64))), none⟩,
     ⟨(some 9), (.bin .sub (.const (u64 119#64)) (.tmp 8)), none⟩,
     ⟨(some 10), (.bin .rem (.tmp 9) (.const (u64 64#64))), none⟩,
     ⟨(some 11), (.appendz L8 1 (.raw (u8 0#8)) (.tmp 6) (.tmp 10)), none⟩,
     ⟨(some 3), (.mv (.tmp 11)), none⟩])
    (.seq
     (.seq
      (.region false [⟨(some 4), (.mv (.const (it 56))), none⟩])
      (.block 0
       (.loop
        (.seq
         (.seq
          (.region false [⟨(some 12), (.mv (.tmp 4)), none⟩,
           ⟨(some 13), (.bin .geq (.tmp 12) (.const (it 0))), none⟩])
          (.cond (.tmp 13)
           .skip
           (.exit 0)))
         (.seq
          (.block 1
           (.region false [⟨(some 16), (.mv (.tmp 3)), none⟩,
            ⟨(some 17), (.mv (.tmp 0)), none⟩,
            ⟨(some 18), (.bin .shl (.tmp 17) (.const (u64 3#64))), none⟩,
            ⟨(some 19), (.mv (.tmp 4)), none⟩,
            ⟨(some 20), (.bin .shr (.tmp 18) (.tmp 19)), none⟩,
            ⟨(some 21), (.conv .u8 (.tmp 20)), none⟩,
            ⟨(some 22), (.bslice L8 1 (.raw (u8 0#8)) [(0, (.tmp 21))]), none⟩,
            ⟨(some 23), (.append L8 1 (.tmp 16) (.tmp 22)), none⟩,
            ⟨(some 3), (.mv (.tmp 23)), none⟩]))
          (.region false [⟨(some 14), (.mv (.tmp 4)), none⟩,
           ⟨(some 15), (.bin .sub (.tmp 14) (.const (it 8))), none⟩,
           ⟨(some 4), (.mv (.tmp 15)), none⟩]))))))
     (.seq
      (.region false [⟨(some 24), (.mv (.tmp 3)), none⟩,
       ⟨(some 2), (.mv (.tmp 24)), none⟩])
      .ret)))))
def r_sha_Pad : List ARes := [(.tmp 2)]
theorem c_sha_Pad : o2 Go.Proofs.Tryd.f45.body (comp Go.Proofs.Tryd.prog Go.Proofs.Tryd.f45.ntmps) = some a_sha_Pad := by kernel_rfl
theorem s_sha_Pad : cRess Go.Proofs.Tryd.prog Go.Proofs.Tryd.f45.results.toList = some r_sha_Pad := by kernel_rfl
theorem m_sha_Pad (C : Ctx) (hC : CtxOK C Go.Proofs.Tryd.prog) : Meets C.glob Go.Proofs.Tryd.prog 45 (afun C 1 r_sha_Pad a_sha_Pad) :=
  fn_sound hC Go.Proofs.Tryd.func45 c_sha_Pad s_sha_Pad (Nat.le_of_ble_eq_true (by kernel_rfl))

/-- curtilage/curtilageref01.turn -/
def a_ref01_turn : ACode :=
 (.seq
  (.region false [⟨(some 4), (.mv (.const (u32 0#32))), none⟩])
  (.seq
   (.region true [⟨(some 5), (.mv (.tmp 0)), none⟩,
    ⟨(some 6), (.mv (.tmp 1)), none⟩,
    ⟨(some 7), (.bin .shr (.tmp 5) (.tmp 6)), none⟩,
    ⟨(some 8), (.mv (.tmp 0)), none⟩,
    ⟨(some 9), (.mv (.tmp 1)), none⟩,
    ⟨(some 10), (.bin .sub (.const (it 32)) (.tmp 9)), none⟩,
    ⟨(some 11), (.bin .shl (.tmp 8) (.tmp 10)), none⟩,
    ⟨(some 12), (.bin .add (.tmp 7) (.tmp 11)), none⟩,
    ⟨(some 4), (.mv (.tmp 12)), none⟩])
   .ret))
def r_ref01_turn : List ARes := [(.tmp 4)]
theorem c_ref01_turn : o2 Go.Proofs.Tryd.f46.body (comp Go.Proofs.Tryd.prog Go.Proofs.Tryd.f46.ntmps) = some a_ref01_turn := by kernel_rfl
theorem s_ref01_turn : cRess Go.Proofs.Tryd.prog Go.Proofs.Tryd.f46.results.toList = some r_ref01_turn := by kernel_rfl
theorem m_ref01_turn (C : Ctx) (hC : CtxOK C Go.Proofs.Tryd.prog) : Meets C.glob Go.Proofs.Tryd.prog 46 (afun C 2 r_ref01_turn a_ref01_turn) :=
  fn_sound hC Go.Proofs.Tryd.func46 c_ref01_turn s_ref01_turn (Nat.le_of_ble_eq_true (by kernel_rfl))

/-- curtilage/curtilageref01.roots -/
def a_ref01_roots : ACode :=
 (.seq
  (.region false [⟨(some 0), (.alloc (.ar 64 L32) (.agg (.ar 64 L32) (List.replicate 64 (.raw (u32 0#32))))), none⟩])
  (.seq
   (.region false [⟨(some 1), (.build (.ar 64 L32) (List.replicate 64 (.raw (u32 0#32))) [(0, (.const (u32 1116352408#32))), (1, (.const (u32 1899447441#32))), (2, (.const (u32 3049323471#32))), (3, (.const (u32 3921009573#32))), (4, (.const (u32 961987163#32))), (5, (.const (u32 1508970993#32))), (6, (.const (u32 2453635748#32))), (7, (.const (u32 2870763221#32))), (8, (.const (u32 3624381080#32))), (9, (.const (u32 310598401#32))), (10, (.const (u32 607225278#32))), (11, (.const (u32 1426881987#32))), (12, (.const (u32 1925078388#32))), (13, (.const (u32 2162078206#32))), (14, (.const (u32 2614888103#32))), (15, (.const (u32 3248222580#32))), (16, (.const (u32 3835390401#32))), (17, (.const (u32 4022224774#32))), (18, (.const (u32 264347078#32))), (19, (.const (u32 604807628#32))), (20, (.const (u32 770255983#32))), (21, (.const (u32 1249150122#32))), (22, (.const (u32 1555081692#32))), (23, (.const (u32 1996064986#32))), (24, (.const (u32 2554220882#32))), (25, (.const (u32 2821834349#32))), (26, (.const (u32 2952996808#32))), (27, (.const (u32 3210313671#32))), (28, (.const (u32 3336571891#32))), (29, (.const (u32 3584528711#32))), (30, (.const (u32 113926993#32))), (31, (.const (u32 338241895#32))), (32, (.const (u32 666307205#32))), (33, (.const (u32 773529912#32))), (34, (.const (u32 1294757372#32))), (35, (.const (u32 1396182291#32))), (36, (.const (u32 1695183700#32))), (37, (.const (u32 1986661051#32))), (38, (.const (u32 2177026350#32))), (39, (.const (u32 2456956037#32))), (40, (.const (u32 2730485921#32))), (41, (.const (u32 2820302411#32))), (42, (.const (u32 3259730800#32))), (43, (.const (u32 3345764771#32))), (44, (.const (u32 3516065817#32))), (45, (.const (u32 3600352804#32))), (46, (.const (u32 4094571909#32))), (47, (.const (u32 275423344#32))), (48, (.const (u32 430227734#32))), (49, (.const (u32 506948616#32))), (50, (.const (u32 659060556#32))), (51, (.const (u32 883997877#32))), (52, (.const (u32 958139571#32))), (53, (.const (u32 1322822218#32))), (54, (.const (u32 1537002063#32))), (55, (.const (u32 1747873779#32))), (56, (.const (u32 1955562222#32))), (57, (.const (u32 2024104815#32))), (58, (.const (u32 2227730452#32))), (59, (.const (u32 2361852424#32))), (60, (.const (u32 2428436474#32))), (61, (.const (u32 2756734187#32))), (62, (.const (u32 3204031479#32))), (63, (.const (u32 3329325298#32)))]), none⟩,
    ⟨none, (.store (.ar 64 L32) (.tmp 0) (.tmp 1)), none⟩])
   .ret))
def r_ref01_roots : List ARes := [(.cell 0 (.ar 64 L32))]
theorem c_ref01_roots : o2 Go.Proofs.Tryd.f47.body (comp Go.Proofs.Tryd.prog Go.Proofs.Tryd.f47.ntmps) = some a_ref01_roots := by kernel_rfl
theorem s_ref01_roots : cRess Go.Proofs.Tryd.prog Go.Proofs.Tryd.f47.results.toList = some r_ref01_roots := by kernel_rfl
theorem m_ref01_roots (C : Ctx) (hC : CtxOK C Go.Proofs.Tryd.prog) : Meets C.glob Go.Proofs.Tryd.prog 47 (afun C 0 r_ref01_roots a_ref01_roots) :=
  fn_sound hC Go.Proofs.Tryd.func47 c_ref01_roots s_ref01_roots (Nat.le_of_ble_eq_true (by kernel_rfl))

/-- curtilage/sha.spread -/
def a_sha_spread : ACode :=
 (.seq
  (.region false [⟨(some 1), (.box (.ar 64 L8) (.tmp 0)), none⟩,
   ⟨(some 2), (.alloc (.ar 64 L32) (.agg (.ar 64 L32) (List.replicate 64 (.raw (u32 0#32))))), none⟩])
  (.seq
   (.region false [⟨(some 3), (.alloc (.ar 64 L32) (.agg (.ar 64 L32) (List.replicate 64 (.raw (u32 0#32))))), none⟩])
   (.seq
    (.seq
     (.region false [⟨(some 10), (.mv (.const (it 0))), none⟩])
     (.block 0
      (.loop
       (.seq
        (.region false [⟨(some 11), (.bin .lss (.tmp 10) (.const (it 16))), none⟩])
        (.seq
         (.cond (.tmp 11)
          .skip
          (.exit 0))
         (.seq
          (.block 1
           (.seq
            (.region false [⟨(some 12), (.mv (.tmp 10)), none⟩,
             ⟨(some 4), (.mv (.tmp 12)), none⟩])
            (.region false [⟨(some 13), (.mv (.tmp 4)), none⟩,
             ⟨(some 14), (.mv (.tmp 4)), none⟩,
             ⟨(some 15), (.bin .mul (.const (it 4)) (.tmp 14)), none⟩,
             ⟨(some 16), (.mv (.tmp 4)), none⟩,
             ⟨(some 17), (.bin .mul (.const (it 4)) (.tmp 16)), none⟩,
             ⟨(some 18), (.bin .add (.tmp 17) (.const (it 4))), none⟩,
             ⟨(some 19), (.slicea 64 L8 (.tmp 1) (some (.tmp 15)) (some (.tmp 18)) none), none⟩,
             ⟨(some 20), (.call 50 [(.tmp 19)]), none⟩,
             ⟨(some 21), (.iaddra 64 L32 (.tmp 3) (.tmp 13)), none⟩,
             ⟨none, (.store L32 (.tmp 21) (.tmp 20)), none⟩])))
          (.region false [⟨(some 22), (.bin .add (.tmp 10) (.const (it 1))), none⟩,
           ⟨(some 10), (.mv (.tmp 22)), none⟩])))))))
    (.seq
     (.seq
      (.region false [⟨(some 5), (.mv (.const (it 16))), none⟩])
      (.block 2
       (.loop
        (.seq
         (.seq
          (.region false [⟨(some 23), (.mv (.tmp 5)), none⟩,
           ⟨(some 24), (.bin .lss (.tmp 23) (.const (it 64))), none⟩])
          (.cond (.tmp 24)
           .skip
           (.exit 2)))
         (.seq
          (.block 3
           (.seq
            (.region true [⟨(some 27), (.mv (.tmp 5)), none⟩,
             ⟨(some 28), (.bin .sub (.tmp 27) (.const (it 15))), none⟩,
             ⟨(some 29), (.iaddra 64 L32 (.tmp 3) (.tmp 28)), none⟩,
             ⟨(some 30), (.load L32 (.tmp 29)), none⟩,
             ⟨(some 31), (.mv (.tmp 5)), none⟩,
             ⟨(some 32), (.bin .sub (.tmp 31) (.const (it 2))), none⟩,
             ⟨(some 33), (.iaddra 64 L32 (.tmp 3) (.tmp 32)), none⟩,
             ⟨(some 34), (.load L32 (.tmp 33)), none⟩,
             ⟨(some 6), (.mv (.tmp 30)), none⟩,
             ⟨(some 7), (.mv (.tmp 34)), none⟩])
            (.seq
             (.region false [⟨(some 35), (.mv (.tmp 6)), none⟩,
              ⟨(some 36), (.call 49 [(.tmp 35), (.const (it (-7)))]), none⟩,
              ⟨(some 37), (.mv (.tmp 6)), none⟩,
              ⟨(some 38), (.call 49 [(.tmp 37), (.const (it (-18)))]), none⟩,
              ⟨(some 39), (.bin .xor (.tmp 36) (.tmp 38)), none⟩,
              ⟨(some 40), (.mv (.tmp 6)), none⟩,
              ⟨(some 41), (.bin .shr (.tmp 40) (.const (u64 3#64))), none⟩,
              ⟨(some 42), (.bin .xor (.tmp 39) (.tmp 41)), none⟩,
              ⟨(some 8), (.mv (.tmp 42)), none⟩])
             (.seq
              (.region false [⟨(some 43), (.mv (.tmp 7)), none⟩,
               ⟨(some 44), (.call 49 [(.tmp 43), (.const (it (-17)))]), none⟩,
               ⟨(some 45), (.mv (.tmp 7)), none⟩,
               ⟨(some 46), (.call 49 [(.tmp 45), (.const (it (-19)))]), none⟩,
               ⟨(some 47), (.bin .xor (.tmp 44) (.tmp 46)), none⟩,
               ⟨(some 48), (.mv (.tmp 7)), none⟩,
               ⟨(some 49), (.bin .shr (.tmp 48) (.const (u64 10#64))), none⟩,
               ⟨(some 50), (.bin .xor (.tmp 47) (.tmp 49)), none⟩,
               ⟨(some 9), (.mv (.tmp 50)), none⟩])
              (.region true [⟨(some 51), (.mv (.tmp 5)), none⟩,
               ⟨(some 52), (.mv (.tmp 5)), none⟩,
               ⟨(some 53), (.bin .sub (.tmp 52) (.const (it 16))), none⟩,
               ⟨(some 54), (.iaddra 64 L32 (.tmp 3) (.tmp 53)), none⟩,
               ⟨(some 55), (.load L32 (.tmp 54)), none⟩,
               ⟨(some 56), (.mv (.tmp 8)), none⟩,
               ⟨(some 57), (.bin .add (.tmp 55) (.tmp 56)), none⟩,
               ⟨(some 58), (.mv (.tmp 5)), none⟩,
               ⟨(some 59), (.bin .sub (.tmp 58) (.const (it 7))), none⟩,
               ⟨(some 60), (.iaddra 64 L32 (.tmp 3) (.tmp 59)), none⟩,
               ⟨(some 61), (.load L32 (.tmp 60)), none⟩,
               ⟨(some 62), (.bin .add (.tmp 57) (.tmp 61)), none⟩,
               ⟨(some 63), (.mv (.tmp 9)), none⟩,
               ⟨(some 64), (.bin .add (.tmp 62) (.tmp 63)), none⟩,
               ⟨(some 65), (.iaddra 64 L32 (.tmp 3) (.tmp 51)), none⟩,
               ⟨none, (.store L32 (.tmp 65) (.tmp 64)), none⟩])))))
          (.region false [⟨(some 25), (.mv (.tmp 5)), none⟩,
           ⟨(some 26), (.bin .add (.tmp 25) (.const (it 1))), none⟩,
           ⟨(some 5), (.mv (.tmp 26)), none⟩]))))))
     (.seq
      (.region false [⟨(some 66), (.load (.ar 64 L32) (.tmp 3)), none⟩,
       ⟨none, (.store (.ar 64 L32) (.tmp 2) (.tmp 66)), none⟩])
      .ret)))))
def r_sha_spread : List ARes := [(.cell 2 (.ar 64 L32))]
theorem c_sha_spread : o2 Go.Proofs.Tryd.f48.body (comp Go.Proofs.Tryd.prog Go.Proofs.Tryd.f48.ntmps) = some a_sha_spread := by kernel_rfl
theorem s_sha_spread : cRess Go.Proofs.Tryd.prog Go.Proofs.Tryd.f48.results.toList = some r_sha_spread := by kernel_rfl
theorem m_sha_spread (C : Ctx) (hC : CtxOK C Go.Proofs.Tryd.prog) : Meets C.glob Go.Proofs.Tryd.prog 48 (afun C 1 r_sha_spread a_sha_spread) :=
  fn_sound hC Go.Proofs.Tryd.func48 c_sha_spread s_sha_spread (Nat.le_of_ble_eq_true (by kernel_rfl))

/-- math/bits.RotateLeft32 -/
def a_math_bits_RotateLeft32 : ACode :=
 (.seq
  (.region false [⟨(some 4), (.mv (.const (u32 0#32))), none⟩])
  (.seq
   (.region false [⟨(some 6), (.mv (.tmp 1)), none⟩,
    ⟨(some 7), (.conv .u64 (.tmp 6)), none⟩,
    ⟨(some 8), (.bin .and (.tmp 7) (.const (u64 31#64))), none⟩,
    ⟨(some 5), (.mv (.tmp 8)), none⟩])
   (.seq
    (.region false [⟨(some 9), (.mv (.tmp 0)), none⟩,
     ⟨(some 10), (.mv (.tmp 5)), none⟩,
     ⟨(some 11), (.bin .shl (.tmp 9) (.tmp 10)), none⟩,
     ⟨(some 12), (.mv (.tmp 0)), none⟩,
     ⟨(some 13), (.mv (.tmp 5)), none⟩,
     ⟨(some 14), (.bin .sub (.const (u64 32#64)) (.tmp 13)), none⟩,
     ⟨(some 15), (.bin .shr (.tmp 12) (.tmp 14)), none⟩,
     ⟨(some 16), (.bin .or (.tmp 11) (.tmp 15)), none⟩,
     ⟨(some 4), (.mv (.tmp 16)), none⟩])
    .ret)))
def r_math_bits_RotateLeft32 : List ARes := [(.tmp 4)]
theorem c_math_bits_RotateLeft32 : o2 Go.Proofs.Tryd.f49.body (comp Go.Proofs.Tryd.prog Go.Proofs.Tryd.f49.ntmps) = some a_math_bits_RotateLeft32 := by kernel_rfl
theorem s_math_bits_RotateLeft32 : cRess Go.Proofs.Tryd.prog Go.Proofs.Tryd.f49.results.toList = some r_math_bits_RotateLeft32 := by kernel_rfl
theorem m_math_bits_RotateLeft32 (C : Ctx) (hC : CtxOK C Go.Proofs.Tryd.prog) : Meets C.glob Go.Proofs.Tryd.prog 49 (afun C 2 r_math_bits_RotateLeft32 a_math_bits_RotateLeft32) :=
  fn_sound hC Go.Proofs.Tryd.func49 c_math_bits_RotateLeft32 s_math_bits_RotateLeft32 (Nat.le_of_ble_eq_true (by kernel_rfl))

/-- curtilage/sha.word -/
def a_sha_word : ACode :=
 (.seq
  (.region false [⟨(some 2), (.mv (.const (u32 0#32))), none⟩])
  (.seq
   (.region true [⟨(some 3), (.mv (.tmp 0)), none⟩,
    ⟨(some 4), (.iaddrs L8 (.tmp 3) (.const (it 0))), none⟩,
    ⟨(some 5), (.load L8 (.tmp 4)), none⟩,
    ⟨(some 6), (.conv .u32 (.tmp 5)), none⟩,
    ⟨(some 7), (.bin .shl (.tmp 6) (.const (u64 24#64))), none⟩,
    ⟨(some 8), (.mv (.tmp 0)), none⟩,
    ⟨(some 9), (.iaddrs L8 (.tmp 8) (.const (it 1))), none⟩,
    ⟨(some 10), (.load L8 (.tmp 9)), none⟩,
    ⟨(some 11), (.conv .u32 (.tmp 10)), none⟩,
    ⟨(some 12), (.bin .shl (.tmp 11) (.const (u64 16#64))), none⟩,
    ⟨(some 13), (.bin .or (.tmp 7) (.tmp 12)), none⟩,
    ⟨(some 14), (.mv (.tmp 0)), none⟩,
    ⟨(some 15), (.iaddrs L8 (.tmp 14) (.const (it 2))), none⟩,
    ⟨(some 16), (.load L8 (.tmp 15)), none⟩,
    ⟨(some 17), (.conv .u32 (.tmp 16)), none⟩,
    ⟨(some 18), (.bin .shl (.tmp 17) (.const (u64 8#64))), none⟩,
    ⟨(some 19), (.bin .or (.tmp 13) (.tmp 18)), none⟩,
    ⟨(some 20), (.mv (.tmp 0)), none⟩,
    ⟨(some 21), (.iaddrs L8 (.tmp 20) (.const (it 3))), none⟩,
    ⟨(some 22), (.load L8 (.tmp 21)), none⟩,
    ⟨(some 23), (.conv .u32 (.tmp 22)), none⟩,
    ⟨(some 24), (.bin .or (.tmp 19) (.tmp 23)), none⟩,
    ⟨(some 2), (.mv (.tmp 24)), none⟩])
   .ret))
def r_sha_word : List ARes := [(.tmp 2)]
theorem c_sha_word : o2 Go.Proofs.Tryd.f50.body (comp Go.Proofs.Tryd.prog Go.Proofs.Tryd.f50.ntmps) = some a_sha_word := by kernel_rfl
theorem s_sha_word : cRess Go.Proofs.Tryd.prog Go.Proofs.Tryd.f50.results.toList = some r_sha_word := by kernel_rfl
theorem m_sha_word (C : Ctx) (hC : CtxOK C Go.Proofs.Tryd.prog) : Meets C.glob Go.Proofs.Tryd.prog 50 (afun C 1 r_sha_word a_sha_word) :=
  fn_sound hC Go.Proofs.Tryd.func50 c_sha_word s_sha_word (Nat.le_of_ble_eq_true (by kernel_rfl))

/-- gosem.cut.vars -/
def a_gosem_cut_vars : ACode :=
 (.seq
  (.region false [⟨(some 0), (.build (.ar 8 L32) (List.replicate 8 (.raw (u32 0#32))) [(0, (.const (u32 1779033703#32))), (1, (.const (u32 3144134277#32))), (2, (.const (u32 1013904242#32))), (3, (.const (u32 2773480762#32))), (4, (.const (u32 1359893119#32))), (5, (.const (u32 2600822924#32))), (6, (.const (u32 528734635#32))), (7, (.const (u32 1541459225#32)))]), none⟩,
   ⟨none, (.store (.ar 8 L32) (.glob 1) (.tmp 0)), none⟩])
  (.seq
   (.region false [⟨(some 1), (.build (.ar 64 L32) (List.replicate 64 (.raw (u32 0#32))) [(0, (.const (u32 1116352408#32))), (1, (.const (u32 1899447441#32))), (2, (.const (u32 3049323471#32))), (3, (.const (u32 3921009573#32))), (4, (.const (u32 961987163#32))), (5, (.const (u32 1508970993#32))), (6, (.const (u32 2453635748#32))), (7, (.const (u32 2870763221#32))), (8, (.const (u32 3624381080#32))), (9, (.const (u32 310598401#32))), (10, (.const (u32 607225278#32))), (11, (.const (u32 1426881987#32))), (12, (.const (u32 1925078388#32))), (13, (.const (u32 2162078206#32))), (14, (.const (u32 2614888103#32))), (15, (.const (u32 3248222580#32))), (16, (.const (u32 3835390401#32))), (17, (.const (u32 4022224774#32))), (18, (.const (u32 264347078#32))), (19, (.const (u32 604807628#32))), (20, (.const (u32 770255983#32))), (21, (.const (u32 1249150122#32))), (22, (.const (u32 1555081692#32))), (23, (.const (u32 1996064986#32))), (24, (.const (u32 2554220882#32))), (25, (.const (u32 2821834349#32))), (26, (.const (u32 2952996808#32))), (27, (.const (u32 3210313671#32))), (28, (.const (u32 3336571891#32))), (29, (.const (u32 3584528711#32))), (30, (.const (u32 113926993#32))), (31, (.const (u32 338241895#32))), (32, (.const (u32 666307205#32))), (33, (.const (u32 773529912#32))), (34, (.const (u32 1294757372#32))), (35, (.const (u32 1396182291#32))), (36, (.const (u32 1695183700#32))), (37, (.const (u32 1986661051#32))), (38, (.const (u32 2177026350#32))), (39, (.const (u32 2456956037#32))), (40, (.const (u32 2730485921#32))), (41, (.const (u32 2820302411#32))), (42, (.const (u32 3259730800#32))), (43, (.const (u32 3345764771#32))), (44, (.const (u32 3516065817#32))), (45, (.const (u32 3600352804#32))), (46, (.const (u32 4094571909#32))), (47, (.const (u32 275423344#32))), (48, (.const (u32 430227734#32))), (49, (.const (u32 506948616#32))), (50, (.const (u32 659060556#32))), (51, (.const (u32 883997877#32))), (52, (.const (u32 958139571#32))), (53, (.const (u32 1322822218#32))), (54, (.const (u32 1537002063#32))), (55, (.const (u32 1747873779#32))), (56, (.const (u32 1955562222#32))), (57, (.const (u32 2024104815#32))), (58, (.const (u32 2227730452#32))), (59, (.const (u32 2361852424#32))), (60, (.const (u32 2428436474#32))), (61, (.const (u32 2756734187#32))), (62, (.const (u32 3204031479#32))), (63, (.const (u32 3329325298#32)))]), none⟩,
    ⟨none, (.store (.ar 64 L32) (.glob 2) (.tmp 1)), none⟩])
   (.region false [⟨(some 2), (.build S1 [(.raw (it 0)), (.raw (it 0)), (.raw (it 0))] [(0, (.const (it 1))), (1, (.const (it 265))), (2, (.const (it 7)))]), none⟩,
    ⟨(some 3), (.build S1 [(.raw (it 0)), (.raw (it 0)), (.raw (it 0))] [(0, (.const (it 2))), (1, (.const (it 133))), (2, (.const (it 6)))]), none⟩,
    ⟨(some 4), (.build S1 [(.raw (it 0)), (.raw (it 0)), (.raw (it 0))] [(0, (.const (it 4))), (1, (.const (it 67))), (2, (.const (it 4)))]), none⟩,
    ⟨(some 5), (.build S1 [(.raw (it 0)), (.raw (it 0)), (.raw (it 0))] [(0, (.const (it 8))), (1, (.const (it 34))), (2, (.const (it 0)))]), none⟩,
    ⟨(some 6), (.build (.ar 4 S1) (List.replicate 4 (.agg S1 [(.raw (it 0)), (.raw (it 0)), (.raw (it 0))])) [(0, (.tmp 2)), (1, (.tmp 3)), (2, (.tmp 4)), (3, (.tmp 5))]), none⟩,
    ⟨none, (.store (.ar 4 S1) (.glob 0) (.tmp 6)), none⟩])))
def r_gosem_cut_vars : List ARes := []
theorem c_gosem_cut_vars : o2 Go.Proofs.Tryd.f73.body (comp Go.Proofs.Tryd.prog Go.Proofs.Tryd.f73.ntmps) = some a_gosem_cut_vars := by kernel_rfl
theorem s_gosem_cut_vars : cRess Go.Proofs.Tryd.prog Go.Proofs.Tryd.f73.results.toList = some r_gosem_cut_vars := by kernel_rfl
theorem m_gosem_cut_vars (C : Ctx) (hC : CtxOK C Go.Proofs.Tryd.prog) : Meets C.glob Go.Proofs.Tryd.prog 73 (afun C 0 r_gosem_cut_vars a_gosem_cut_vars) :=
  fn_sound hC Go.Proofs.Tryd.func73 c_gosem_cut_vars s_gosem_cut_vars (Nat.le_of_ble_eq_true (by kernel_rfl))

end Go.Am.F
