/- The functions as the abstract machine has them: printed. -/
import Derived.Test.YtgagfkipdmoapaaProg
import Derived.Test.YtgagfkipdmoapaaAm24
namespace Go.Am.F
set_option linter.unusedVariables false
set_option linter.unusedSimpArgs false
abbrev S1 : Sh := .cons LI (.cons LI (.cons .ref .nil))
abbrev S2 : Sh := .cons .ref (.cons .ref (.cons L32 .nil))
/-- gosem.cut.init -/
def a_gosem_cut_init : ACode :=
 (.region false [⟨(some 0), .fail, none⟩])
def r_gosem_cut_init : List ARes := []
theorem c_gosem_cut_init : o2 Go.Proofs.Try.f2.body (comp Go.Proofs.Try.prog Go.Proofs.Try.f2.ntmps) = some a_gosem_cut_init := by kernel_rfl
theorem s_gosem_cut_init : cRess Go.Proofs.Try.prog Go.Proofs.Try.f2.results.toList = some r_gosem_cut_init := by kernel_rfl
theorem m_gosem_cut_init (C : Ctx) (hC : CtxOK C Go.Proofs.Try.prog) : Meets C.glob Go.Proofs.Try.prog 2 (afun C 0 r_gosem_cut_init a_gosem_cut_init) :=
  fn_sound hC Go.Proofs.Try.func2 c_gosem_cut_init s_gosem_cut_init (Nat.le_of_ble_eq_true (by kernel_rfl))

/-- curtilage/curtilagelaw21.PortFull -/
def a_law21_PortFull : ACode :=
 (.seq
  (.region false [⟨(some 2), (.mv (.const (.bool false))), none⟩])
  (.seq
   (.seq
    (.region false [⟨(some 9), (.call 7 []), none⟩,
     ⟨(some 10), (.un .not (.tmp 9)), none⟩])
    (.cond (.tmp 10)
     (.seq
      (.region false [⟨(some 2), (.mv (.const (.bool false))), none⟩])
      .ret)
     .skip))
   (.seq
    (.region false [⟨(some 11), (.call 8 []), none⟩,
     ⟨(some 3), (.mv (.tmp 11)), none⟩])
    (.seq
     (.region false [⟨(some 12), (.mv (.tmp 0)), none⟩,
      ⟨(some 13), (.bin .rem (.tmp 12) (.const (u8 5#8))), none⟩,
      ⟨(some 14), (.conv .i64 (.tmp 13)), none⟩,
      ⟨(some 15), (.bin .add (.const (it 4094)) (.tmp 14)), none⟩,
      ⟨(some 4), (.mv (.tmp 15)), none⟩])
     (.seq
      (.seq
       (.region false [⟨(some 16), (.mv (.tmp 4)), none⟩,
        ⟨(some 17), (.mv (.const (it 0))), none⟩])
       (.block 0
        (.loop
         (.seq
          (.region false [⟨(some 18), (.bin .lss (.tmp 17) (.tmp 16)), none⟩])
          (.seq
           (.cond (.tmp 18)
            .skip
            (.exit 0))
           (.seq
            (.block 1
             (.seq
              (.region false [⟨(some 19), (.mv (.tmp 17)), none⟩,
               ⟨(some 5), (.mv (.tmp 19)), none⟩])
              (.seq
               (.region false [⟨(some 20), (.mv (.tmp 3)), none⟩,
                ⟨(some 21), (.mv (.tmp 5)), none⟩,
                ⟨(some 22), (.conv .u8 (.tmp 21)), none⟩,
                ⟨(some 23), (.bslice L8 1 (.raw (u8 0#8)) [(0, (.tmp 22))]), none⟩,
                ⟨(some 24), (.call 9 [(.tmp 20), (.const (it 1)), (.const (it 0)), (.tmp 23)]), none⟩])
               (.region false [⟨(some 25), (.mv (.tmp 3)), none⟩,
                ⟨(some 26), (.mv (.tmp 5)), none⟩,
                ⟨(some 27), (.conv .u8 (.tmp 26)), none⟩,
                ⟨(some 28), (.mv (.tmp 5)), none⟩,
                ⟨(some 29), (.bin .shr (.tmp 28) (.const (u64 8#64))), none⟩,
                ⟨(some 30), (.conv .u8 (.tmp 29)), none⟩,
                ⟨(some 31), (.bslice L8 4 (.raw (u8 0#8)) [(0, (.tmp 27)), (1, (.tmp 30)), (2, (.const (u8 0#8))), (3, (.const (u8 0#8)))]), none⟩,
                ⟨(some 32), (.call 9 [(.tmp 25), (.const (it 1)), (.const (it 8)), (.tmp 31)]), none⟩]))))
            (.region false [⟨(some 33), (.bin .add (.tmp 17) (.const (it 1))), none⟩,
             ⟨(some 17), (.mv (.tmp 33)), none⟩])))))))
      (.seq
       (.region false [⟨(some 34), (.mv (.tmp 3)), none⟩,
        ⟨(some 35), (.call 10 [(.tmp 34)]), none⟩,
        ⟨(some 36), (.mv (.tmp 3)), none⟩,
        ⟨(some 37), (.call 11 [(.tmp 36)]), none⟩,
        ⟨(some 6), (.mv (.tmp 35)), none⟩,
        ⟨(some 7), (.mv (.tmp 37)), none⟩])
       (.seq
        (.region false [⟨(some 38), (.mv (.tmp 4)), none⟩,
         ⟨(some 39), (.minmax false [(.tmp 38), (.const (it 4096))]), none⟩,
         ⟨(some 8), (.mv (.tmp 39)), none⟩])
        (.seq
         (.region false [⟨(some 40), (.mv (.tmp 6)), none⟩,
          ⟨(some 41), (.len (.tmp 40)), none⟩,
          ⟨(some 42), (.mv (.tmp 8)), none⟩,
          ⟨(some 43), (.bin .eql (.tmp 41) (.tmp 42)), none⟩,
          ⟨(some 44), (.mv (.tmp 43)), none⟩,
          ⟨(some 45), (.mv (.tmp 7)), some (44, true)⟩,
          ⟨(some 46), (.len (.tmp 45)), some (44, true)⟩,
          ⟨(some 47), (.mv (.tmp 8)), some (44, true)⟩,
          ⟨(some 48), (.bin .eql (.tmp 46) (.tmp 47)), some (44, true)⟩,
          ⟨(some 49), (.pick (.tmp 44) (.tmp 48) (.const (.bool false))), none⟩,
          ⟨(some 50), (.mv (.tmp 49)), none⟩,
          ⟨(some 51), (.mv (.tmp 6)), some (50, true)⟩,
          ⟨(some 52), (.mv (.tmp 8)), some (50, true)⟩,
          ⟨(some 53), (.bin .sub (.tmp 52) (.const (it 1))), some (50, true)⟩,
          ⟨(some 54), (.iaddrs L8 (.tmp 51) (.tmp 53)), some (50, true)⟩,
          ⟨(some 55), (.load L8 (.tmp 54)), some (50, true)⟩,
          ⟨(some 56), (.mv (.tmp 8)), some (50, true)⟩,
          ⟨(some 57), (.bin .sub (.tmp 56) (.const (it 1))), some (50, true)⟩,
          ⟨(some 58), (.conv .u8 (.tmp 57)), some (50, true)⟩,
          ⟨(some 59), (.bin .eql (.tmp 55) (.tmp 58)), some (50, true)⟩,
          ⟨(some 60), (.pick (.tmp 50) (.tmp 59) (.const (.bool false))), none⟩,
          ⟨(some 61), (.mv (.tmp 60)), none⟩,
          ⟨(some 62), (.mv (.tmp 7)), some (61, true)⟩,
          ⟨(some 63), (.mv (.tmp 8)), some (61, true)⟩,
          ⟨(some 64), (.bin .sub (.tmp 63) (.const (it 1))), some (61, true)⟩,
          ⟨(some 65), (.iaddrs L32 (.tmp 62) (.tmp 64)), some (61, true)⟩,
          ⟨(some 66), (.load L32 (.tmp 65)), some (61, true)⟩,
          ⟨(some 67), (.mv (.tmp 8)), some (61, true)⟩,
          ⟨(some 68), (.bin .sub (.tmp 67) (.const (it 1))), some (61, true)⟩,
          ⟨(some 69), (.conv .u32 (.tmp 68)), some (61, true)⟩,
          ⟨(some 70), (.bin .eql (.tmp 66) (.tmp 69)), some (61, true)⟩,
          ⟨(some 71), (.pick (.tmp 61) (.tmp 70) (.const (.bool false))), none⟩,
          ⟨(some 2), (.mv (.tmp 71)), none⟩])
         .ret))))))))
def r_law21_PortFull : List ARes := [(.tmp 2)]
theorem c_law21_PortFull : o2 Go.Proofs.Try.f3.body (comp Go.Proofs.Try.prog Go.Proofs.Try.f3.ntmps) = some a_law21_PortFull := by kernel_rfl
theorem s_law21_PortFull : cRess Go.Proofs.Try.prog Go.Proofs.Try.f3.results.toList = some r_law21_PortFull := by kernel_rfl
theorem m_law21_PortFull (C : Ctx) (hC : CtxOK C Go.Proofs.Try.prog) : Meets C.glob Go.Proofs.Try.prog 3 (afun C 1 r_law21_PortFull a_law21_PortFull) :=
  fn_sound hC Go.Proofs.Try.func3 c_law21_PortFull s_law21_PortFull (Nat.le_of_ble_eq_true (by kernel_rfl))

/-- curtilage/curtilagelaw21.PortTicks -/
def a_law21_PortTicks : ACode :=
 (.seq
  (.region false [⟨(some 4), (.box (.ar 64 L8) (.tmp 0)), none⟩,
   ⟨(some 8), (.mv (.const (.bool false))), none⟩])
  (.seq
   (.seq
    (.region false [⟨(some 18), (.call 7 []), none⟩,
     ⟨(some 19), (.un .not (.tmp 18)), none⟩])
    (.cond (.tmp 19)
     (.seq
      (.region false [⟨(some 8), (.mv (.const (.bool false))), none⟩])
      .ret)
     .skip))
   (.seq
    (.region false [⟨(some 20), (.call 8 []), none⟩,
     ⟨(some 9), (.mv (.tmp 20)), none⟩])
    (.seq
     (.region false [⟨(some 21), (.mv (.tmp 2)), none⟩,
      ⟨(some 22), (.conv .u32 (.tmp 21)), none⟩,
      ⟨(some 10), (.mv (.tmp 22)), none⟩])
     (.seq
      (.seq
       (.region false [⟨(some 23), (.mv (.tmp 3)), none⟩])
       (.cond (.tmp 23)
        (.region false [⟨(some 10), (.mv (.const (u32 0#32))), none⟩])
        .skip))
      (.seq
       (.seq
        (.region false [⟨(some 24), (.mv (.tmp 10)), none⟩,
         ⟨(some 25), (.call 12 [(.tmp 24)]), none⟩,
         ⟨(some 26), (.len (.tmp 25)), none⟩,
         ⟨(some 27), (.mv (.const (it 0))), none⟩])
        (.block 0
         (.loop
          (.seq
           (.region false [⟨(some 28), (.bin .lss (.tmp 27) (.tmp 26)), none⟩])
           (.seq
            (.cond (.tmp 28)
             .skip
             (.exit 0))
            (.seq
             (.block 1
              (.seq
               (.region false [⟨(some 29), (.mv (.tmp 27)), none⟩,
                ⟨(some 30), (.iaddrs L8 (.tmp 25) (.tmp 27)), none⟩,
                ⟨(some 31), (.load L8 (.tmp 30)), none⟩,
                ⟨(some 11), (.mv (.tmp 29)), none⟩,
                ⟨(some 12), (.mv (.tmp 31)), none⟩])
               (.region false [⟨(some 32), (.mv (.tmp 11)), none⟩,
                ⟨(some 33), (.bin .add (.const (it 12)) (.tmp 32)), none⟩,
                ⟨(some 34), (.mv (.tmp 12)), none⟩,
                ⟨(some 35), (.iaddra 64 L8 (.tmp 4) (.tmp 33)), none⟩,
                ⟨none, (.store L8 (.tmp 35) (.tmp 34)), none⟩])))
             (.region false [⟨(some 36), (.bin .add (.tmp 27) (.const (it 1))), none⟩,
              ⟨(some 27), (.mv (.tmp 36)), none⟩])))))))
       (.seq
        (.region false [⟨(some 37), (.load (.ar 64 L8) (.tmp 4)), none⟩,
         ⟨(some 13), (.alloc (.ar 64 L8) (.agg (.ar 64 L8) (List.replicate 64 (.raw (u8 0#8))))), none⟩,
         ⟨none, (.store (.ar 64 L8) (.tmp 13) (.tmp 37)), none⟩])
        (.seq
         (.seq
          (.region false [⟨(some 14), (.mv (.const (u32 1#32))), none⟩])
          (.block 2
           (.loop
            (.seq
             (.seq
              (.region false [⟨(some 38), (.mv (.tmp 14)), none⟩,
               ⟨(some 39), (.mv (.tmp 1)), none⟩,
               ⟨(some 40), (.conv .u32 (.tmp 39)), none⟩,
               ⟨(some 41), (.bin .leq (.tmp 38) (.tmp 40)), none⟩])
              (.cond (.tmp 41)
               .skip
               (.exit 2)))
             (.seq
              (.block 3
               (.seq
                (.region false [⟨(some 44), (.mv (.tmp 9)), none⟩,
                 ⟨(some 45), (.call 13 [(.tmp 44), (.tmp 4)]), none⟩,
                 ⟨(some 15), (.mv (.tmp 45)), none⟩])
                (.seq
                 (.region false [⟨(some 46), (.mv (.tmp 15)), none⟩,
                  ⟨(some 47), (.mv (.tmp 10)), none⟩,
                  ⟨(some 48), (.bin .neq (.tmp 47) (.const (u32 0#32))), none⟩,
                  ⟨(some 49), (.mv (.tmp 48)), none⟩,
                  ⟨(some 50), (.mv (.tmp 14)), some (49, true)⟩,
                  ⟨(some 51), (.mv (.tmp 10)), some (49, true)⟩,
                  ⟨(some 52), (.bin .geq (.tmp 50) (.tmp 51)), some (49, true)⟩,
                  ⟨(some 53), (.pick (.tmp 49) (.tmp 52) (.const (.bool false))), none⟩,
                  ⟨(some 54), (.beq true (.tmp 46) (.tmp 53)), none⟩,
                  ⟨(some 55), (.mv (.tmp 54)), none⟩,
                  ⟨(some 56), (.mv (.tmp 9)), some (55, false)⟩,
                  ⟨(some 57), (.call 14 [(.tmp 56)]), some (55, false)⟩,
                  ⟨(some 58), (.mv (.tmp 14)), some (55, false)⟩,
                  ⟨(some 59), (.bin .neq (.tmp 57) (.tmp 58)), some (55, false)⟩,
                  ⟨(some 60), (.pick (.tmp 55) (.const (.bool true)) (.tmp 59)), none⟩,
                  ⟨(some 61), (.mv (.tmp 60)), none⟩,
                  ⟨(some 62), (.slicea 64 L8 (.tmp 4) (some (.const (it 16))) (some (.const (it 20))) none), some (61, false)⟩,
                  ⟨(some 63), (.call 15 [(.tmp 62)]), some (61, false)⟩,
                  ⟨(some 64), (.mv (.tmp 14)), some (61, false)⟩,
                  ⟨(some 65), (.bin .neq (.tmp 63) (.tmp 64)), some (61, false)⟩,
                  ⟨(some 66), (.pick (.tmp 61) (.const (.bool true)) (.tmp 65)), none⟩])
                 (.cond (.tmp 66)
                  (.seq
                   (.region false [⟨(some 8), (.mv (.const (.bool false))), none⟩])
                   .ret)
                  .skip))))
              (.region false [⟨(some 42), (.mv (.tmp 14)), none⟩,
               ⟨(some 43), (.bin .add (.tmp 42) (.const (u32 1#32))), none⟩,
               ⟨(some 14), (.mv (.tmp 43)), none⟩]))))))
         (.seq
          (.seq
           (.region false [⟨(some 67), (.mv (.const (it 0))), none⟩])
           (.block 4
            (.loop
             (.seq
              (.region false [⟨(some 68), (.bin .lss (.tmp 67) (.const (it 64))), none⟩])
              (.seq
               (.cond (.tmp 68)
                .skip
                (.exit 4))
               (.seq
                (.block 5
                 (.seq
                  (.region false [⟨(some 69), (.mv (.tmp 67)), none⟩,
                   ⟨(some 16), (.mv (.tmp 69)), none⟩])
                  (.seq
                   (.region true [⟨(some 70), (.mv (.tmp 16)), none⟩,
                    ⟨(some 71), (.bin .lss (.tmp 70) (.const (it 16))), none⟩,
                    ⟨(some 72), (.mv (.tmp 71)), none⟩,
                    ⟨(some 73), (.mv (.tmp 16)), some (72, false)⟩,
                    ⟨(some 74), (.bin .gtr (.tmp 73) (.const (it 19))), some (72, false)⟩,
                    ⟨(some 75), (.pick (.tmp 72) (.const (.bool true)) (.tmp 74)), none⟩,
                    ⟨(some 76), (.mv (.tmp 75)), none⟩,
                    ⟨(some 77), (.mv (.tmp 16)), some (76, true)⟩,
                    ⟨(some 78), (.iaddra 64 L8 (.tmp 4) (.tmp 77)), some (76, true)⟩,
                    ⟨(some 79), (.load L8 (.tmp 78)), some (76, true)⟩,
                    ⟨(some 80), (.mv (.tmp 16)), some (76, true)⟩,
                    ⟨(some 81), (.iaddra 64 L8 (.tmp 13) (.tmp 80)), some (76, true)⟩,
                    ⟨(some 82), (.load L8 (.tmp 81)), some (76, true)⟩,
                    ⟨(some 83), (.bin .neq (.tmp 79) (.tmp 82)), some (76, true)⟩,
                    ⟨(some 84), (.pick (.tmp 76) (.tmp 83) (.const (.bool false))), none⟩])
                   (.cond (.tmp 84)
                    (.seq
                     (.region false [⟨(some 8), (.mv (.const (.bool false))), none⟩])
                     .ret)
                    .skip))))
                (.region false [⟨(some 85), (.bin .add (.tmp 67) (.const (it 1))), none⟩,
                 ⟨(some 67), (.mv (.tmp 85)), none⟩])))))))
          (.seq
           (.region false [⟨(some 86), (.mv (.tmp 9)), none⟩,
            ⟨(some 87), (.call 13 [(.tmp 86), (.const (.pointer none))]), none⟩,
            ⟨(some 17), (.mv (.tmp 87)), none⟩])
           (.seq
            (.region false [⟨(some 88), (.mv (.tmp 17)), none⟩,
             ⟨(some 89), (.un .not (.tmp 88)), none⟩,
             ⟨(some 90), (.mv (.tmp 89)), none⟩,
             ⟨(some 91), (.mv (.tmp 9)), some (90, true)⟩,
             ⟨(some 92), (.call 14 [(.tmp 91)]), some (90, true)⟩,
             ⟨(some 93), (.mv (.tmp 1)), some (90, true)⟩,
             ⟨(some 94), (.conv .u32 (.tmp 93)), some (90, true)⟩,
             ⟨(some 95), (.bin .add (.tmp 94) (.const (u32 1#32))), some (90, true)⟩,
             ⟨(some 96), (.bin .eql (.tmp 92) (.tmp 95)), some (90, true)⟩,
             ⟨(some 97), (.pick (.tmp 90) (.tmp 96) (.const (.bool false))), none⟩,
             ⟨(some 8), (.mv (.tmp 97)), none⟩])
            .ret)))))))))))
def r_law21_PortTicks : List ARes := [(.tmp 8)]
theorem c_law21_PortTicks : o2 Go.Proofs.Try.f4.body (comp Go.Proofs.Try.prog Go.Proofs.Try.f4.ntmps) = some a_law21_PortTicks := by kernel_rfl
theorem s_law21_PortTicks : cRess Go.Proofs.Try.prog Go.Proofs.Try.f4.results.toList = some r_law21_PortTicks := by kernel_rfl
theorem m_law21_PortTicks (C : Ctx) (hC : CtxOK C Go.Proofs.Try.prog) : Meets C.glob Go.Proofs.Try.prog 4 (afun C 4 r_law21_PortTicks a_law21_PortTicks) :=
  fn_sound hC Go.Proofs.Try.func4 c_law21_PortTicks s_law21_PortTicks (Nat.le_of_ble_eq_true (by kernel_rfl))

/-- curtilage/curtilagelaw21.PortOuts -/
def a_law21_PortOuts : ACode :=
 (.seq
  (.region false [⟨(some 2), (.mv (.const (.bool false))), none⟩])
  (.seq
   (.seq
    (.region false [⟨(some 12), (.call 7 []), none⟩,
     ⟨(some 13), (.un .not (.tmp 12)), none⟩])
    (.cond (.tmp 13)
     (.seq
      (.region false [⟨(some 2), (.mv (.const (.bool false))), none⟩])
      .ret)
     .skip))
   (.seq
    (.region false [⟨(some 14), (.call 8 []), none⟩,
     ⟨(some 3), (.mv (.tmp 14)), none⟩])
    (.seq
     (.region false [⟨(some 4), (.mv (.const (.slice none 0 0))), none⟩])
     (.seq
      (.region false [⟨(some 5), (.mv (.const (.slice none 0 0))), none⟩])
      (.seq
       (.seq
        (.region false [⟨(some 15), (.mv (.tmp 0)), none⟩,
         ⟨(some 16), (.len (.tmp 15)), none⟩,
         ⟨(some 17), (.mv (.const (it 0))), none⟩])
        (.block 0
         (.loop
          (.seq
           (.region false [⟨(some 18), (.bin .lss (.tmp 17) (.tmp 16)), none⟩])
           (.seq
            (.cond (.tmp 18)
             .skip
             (.exit 0))
            (.seq
             (.block 1
              (.seq
               (.region false [⟨(some 19), (.mv (.tmp 17)), none⟩,
                ⟨(some 20), (.iaddrs S1 (.tmp 15) (.tmp 17)), none⟩,
                ⟨(some 21), (.load S1 (.tmp 20)), none⟩,
                ⟨(some 7), (.alloc S1 (.agg S1 [(.raw (it 0)), (.raw (it 0)), (.raw (.slice none 0 0))])), none⟩,
                ⟨(some 6), (.mv (.tmp 19)), none⟩,
                ⟨none, (.store S1 (.tmp 7) (.tmp 21)), none⟩])
               (.seq
                (.seq
                 (.region false [⟨(some 22), (.mv (.tmp 6)), none⟩,
                  ⟨(some 23), (.bin .geq (.tmp 22) (.const (it 40))), none⟩])
                 (.cond (.tmp 23)
                  (.exit 0)
                  .skip))
                (.seq
                 (.region false [⟨(some 24), (.faddr S1 (.tmp 7) 2), none⟩,
                  ⟨(some 25), (.load .ref (.tmp 24)), none⟩,
                  ⟨(some 26), (.call 16 [(.tmp 25), (.const (it 20))]), none⟩,
                  ⟨(some 27), (.faddr S1 (.tmp 7) 2), none⟩,
                  ⟨none, (.store .ref (.tmp 27) (.tmp 26)), none⟩])
                 (.seq
                  (.region false [⟨(some 28), (.mv (.tmp 3)), none⟩,
                   ⟨(some 29), (.faddr S1 (.tmp 7) 0), none⟩,
                   ⟨(some 30), (.load LI (.tmp 29)), none⟩,
                   ⟨(some 31), (.faddr S1 (.tmp 7) 1), none⟩,
                   ⟨(some 32), (.load LI (.tmp 31)), none⟩,
                   ⟨(some 33), (.faddr S1 (.tmp 7) 2), none⟩,
                   ⟨(some 34), (.load .ref (.tmp 33)), none⟩,
                   ⟨(some 35), (.call 9 [(.tmp 28), (.tmp 30), (.tmp 32), (.tmp 34)]), none⟩])
                  (.seq
                   (.seq
                    (.region false [⟨(some 36), (.faddr S1 (.tmp 7) 0), none⟩,
                     ⟨(some 37), (.load LI (.tmp 36)), none⟩,
                     ⟨(some 38), (.bin .neq (.tmp 37) (.const (it 1))), none⟩])
                    (.cond (.tmp 38)
                     (.exit 1)
                     .skip))
                   (.seq
                    (.seq
                     (.region false [⟨(some 39), (.faddr S1 (.tmp 7) 2), none⟩,
                      ⟨(some 40), (.load .ref (.tmp 39)), none⟩,
                      ⟨(some 41), (.len (.tmp 40)), none⟩,
                      ⟨(some 42), (.mv (.const (it 0))), none⟩])
                     (.block 2
                      (.loop
                       (.seq
                        (.region false [⟨(some 43), (.bin .lss (.tmp 42) (.tmp 41)), none⟩])
                        (.seq
                         (.cond (.tmp 43)
                          .skip
                          (.exit 2))
                         (.seq
                          (.block 3
                           (.seq
                            (.region false [⟨(some 44), (.mv (.tmp 42)), none⟩,
                             ⟨(some 45), (.iaddrs L8 (.tmp 40) (.tmp 42)), none⟩,
                             ⟨(some 46), (.load L8 (.tmp 45)), none⟩,
                             ⟨(some 8), (.mv (.tmp 44)), none⟩,
                             ⟨(some 9), (.mv (.tmp 46)), none⟩])
                            (.seq
                             (.region false [⟨(some 47), (.faddr S1 (.tmp 7) 1), none⟩,
                              ⟨(some 48), (.load LI (.tmp 47)), none⟩,
                              ⟨(some 49), (.mv (.tmp 8)), none⟩,
                              ⟨(some 50), (.un .neg (.tmp 49)), none⟩,
                              ⟨(some 51), (.bin .eql (.tmp 48) (.tmp 50)), none⟩])
                             (.cond (.tmp 51)
                              (.region false [⟨(some 52), (.mv (.tmp 4)), none⟩,
                               ⟨(some 53), (.mv (.tmp 9)), none⟩,
                               ⟨(some 54), (.bslice L8 1 (.raw (u8 0#8)) [(0, (.tmp 53))]), none⟩,
                               ⟨(some 55), (.append L8 1 (.tmp 52) (.tmp 54)), none⟩,
                               ⟨(some 4), (.mv (.tmp 55)), none⟩])
                              .skip))))
                          (.region false [⟨(some 56), (.bin .add (.tmp 42) (.const (it 1))), none⟩,
                           ⟨(some 42), (.mv (.tmp 56)), none⟩])))))))
                    (.seq
                     (.region false [⟨(some 57), (.faddr S1 (.tmp 7) 1), none⟩,
                      ⟨(some 58), (.load LI (.tmp 57)), none⟩,
                      ⟨(some 59), (.bin .eql (.tmp 58) (.const (it 8))), none⟩,
                      ⟨(some 60), (.mv (.tmp 59)), none⟩,
                      ⟨(some 61), (.faddr S1 (.tmp 7) 2), some (60, true)⟩,
                      ⟨(some 62), (.load .ref (.tmp 61)), some (60, true)⟩,
                      ⟨(some 63), (.len (.tmp 62)), some (60, true)⟩,
                      ⟨(some 64), (.bin .eql (.tmp 63) (.const (it 4))), some (60, true)⟩,
                      ⟨(some 65), (.pick (.tmp 60) (.tmp 64) (.const (.bool false))), none⟩])
                     (.cond (.tmp 65)
                      (.region true [⟨(some 66), (.mv (.tmp 5)), none⟩,
                       ⟨(some 67), (.faddr S1 (.tmp 7) 2), none⟩,
                       ⟨(some 68), (.load .ref (.tmp 67)), none⟩,
                       ⟨(some 69), (.iaddrs L8 (.tmp 68) (.const (it 3))), none⟩,
                       ⟨(some 70), (.load L8 (.tmp 69)), none⟩,
                       ⟨(some 71), (.faddr S1 (.tmp 7) 2), none⟩,
                       ⟨(some 72), (.load .ref (.tmp 71)), none⟩,
                       ⟨(some 73), (.iaddrs L8 (.tmp 72) (.const (it 2))), none⟩,
                       ⟨(some 74), (.load L8 (.tmp 73)), none⟩,
                       ⟨(some 75), (.faddr S1 (.tmp 7) 2), none⟩,
                       ⟨(some 76), (.load .ref (.tmp 75)), none⟩,
                       ⟨(some 77), (.iaddrs L8 (.tmp 76) (.const (it 1))), none⟩,
                       ⟨(some 78), (.load L8 (.tmp 77)), none⟩,
                       ⟨(some 79), (.faddr S1 (.tmp 7) 2), none⟩,
                       ⟨(some 80), (.load .ref (.tmp 79)), none⟩,
                       ⟨(some 81), (.iaddrs L8 (.tmp 80) (.const (it 0))), none⟩,
                       ⟨(some 82), (.load L8 (.tmp 81)), none⟩,
                       ⟨(some 83), (.bslice L8 4 (.raw (u8 0#8)) [(0, (.tmp 70)), (1, (.tmp 74)), (2, (.tmp 78)), (3, (.tmp 82))]), none⟩,
                       ⟨(some 84), (.call 17 [(.tmp 83)]), none⟩,
                       ⟨(some 85), (.conv .u32 (.tmp 84)), none⟩,
                       ⟨(some 86), (.bslice L32 1 (.raw (u32 0#32)) [(0, (.tmp 85))]), none⟩,
                       ⟨(some 87), (.append L32 4 (.tmp 66) (.tmp 86)), none⟩,
                       ⟨(some 5), (.mv (.tmp 87)), none⟩])
                      .skip)))))))))
             (.region false [⟨(some 88), (.bin .add (.tmp 17) (.const (it 1))), none⟩,
              ⟨(some 17), (.mv (.tmp 88)), none⟩])))))))
       (.seq
        (.region false [⟨(some 89), (.mv (.tmp 3)), none⟩,
         ⟨(some 90), (.call 11 [(.tmp 89)]), none⟩,
         ⟨(some 10), (.mv (.tmp 90)), none⟩])
        (.seq
         (.seq
          (.region false [⟨(some 91), (.mv (.tmp 3)), none⟩,
           ⟨(some 92), (.call 10 [(.tmp 91)]), none⟩,
           ⟨(some 93), (.mv (.tmp 4)), none⟩,
           ⟨(some 94), (.call 18 [(.tmp 92), (.tmp 93)]), none⟩,
           ⟨(some 95), (.un .not (.tmp 94)), none⟩,
           ⟨(some 96), (.mv (.tmp 95)), none⟩,
           ⟨(some 97), (.mv (.tmp 10)), some (96, false)⟩,
           ⟨(some 98), (.len (.tmp 97)), some (96, false)⟩,
           ⟨(some 99), (.mv (.tmp 5)), some (96, false)⟩,
           ⟨(some 100), (.len (.tmp 99)), some (96, false)⟩,
           ⟨(some 101), (.bin .neq (.tmp 98) (.tmp 100)), some (96, false)⟩,
           ⟨(some 102), (.pick (.tmp 96) (.const (.bool true)) (.tmp 101)), none⟩])
          (.cond (.tmp 102)
           (.seq
            (.region false [⟨(some 2), (.mv (.const (.bool false))), none⟩])
            .ret)
           .skip))
         (.seq
          (.seq
           (.region false [⟨(some 103), (.mv (.tmp 5)), none⟩,
            ⟨(some 104), (.len (.tmp 103)), none⟩,
            ⟨(some 105), (.mv (.const (it 0))), none⟩])
           (.block 4
            (.loop
             (.seq
              (.region false [⟨(some 106), (.bin .lss (.tmp 105) (.tmp 104)), none⟩])
              (.seq
               (.cond (.tmp 106)
                .skip
                (.exit 4))
               (.seq
                (.block 5
                 (.seq
                  (.region false [⟨(some 107), (.mv (.tmp 105)), none⟩,
                   ⟨(some 11), (.mv (.tmp 107)), none⟩])
                  (.seq
                   (.region true [⟨(some 108), (.mv (.tmp 10)), none⟩,
                    ⟨(some 109), (.mv (.tmp 11)), none⟩,
                    ⟨(some 110), (.iaddrs L32 (.tmp 108) (.tmp 109)), none⟩,
                    ⟨(some 111), (.load L32 (.tmp 110)), none⟩,
                    ⟨(some 112), (.mv (.tmp 5)), none⟩,
                    ⟨(some 113), (.mv (.tmp 11)), none⟩,
                    ⟨(some 114), (.iaddrs L32 (.tmp 112) (.tmp 113)), none⟩,
                    ⟨(some 115), (.load L32 (.tmp 114)), none⟩,
                    ⟨(some 116), (.bin .neq (.tmp 111) (.tmp 115)), none⟩])
                   (.cond (.tmp 116)
                    (.seq
                     (.region false [⟨(some 2), (.mv (.const (.bool false))), none⟩])
                     .ret)
                    .skip))))
                (.region false [⟨(some 117), (.bin .add (.tmp 105) (.const (it 1))), none⟩,
                 ⟨(some 105), (.mv (.tmp 117)), none⟩])))))))
          (.seq
           (.region false [⟨(some 118), (.mv (.tmp 3)), none⟩,
            ⟨(some 119), (.call 19 [(.tmp 118)]), none⟩])
           (.seq
            (.region false [⟨(some 120), (.mv (.tmp 3)), none⟩,
             ⟨(some 121), (.call 10 [(.tmp 120)]), none⟩,
             ⟨(some 122), (.mv (.tmp 4)), none⟩,
             ⟨(some 123), (.call 18 [(.tmp 121), (.tmp 122)]), none⟩,
             ⟨(some 124), (.mv (.tmp 123)), none⟩,
             ⟨(some 125), (.mv (.tmp 3)), some (124, true)⟩,
             ⟨(some 126), (.call 14 [(.tmp 125)]), some (124, true)⟩,
             ⟨(some 127), (.bin .eql (.tmp 126) (.const (u32 0#32))), some (124, true)⟩,
             ⟨(some 128), (.pick (.tmp 124) (.tmp 127) (.const (.bool false))), none⟩,
             ⟨(some 2), (.mv (.tmp 128)), none⟩])
            .ret)))))))))))
def r_law21_PortOuts : List ARes := [(.tmp 2)]
theorem c_law21_PortOuts : o2 Go.Proofs.Try.f5.body (comp Go.Proofs.Try.prog Go.Proofs.Try.f5.ntmps) = some a_law21_PortOuts := by kernel_rfl
theorem s_law21_PortOuts : cRess Go.Proofs.Try.prog Go.Proofs.Try.f5.results.toList = some r_law21_PortOuts := by kernel_rfl
theorem m_law21_PortOuts (C : Ctx) (hC : CtxOK C Go.Proofs.Try.prog) : Meets C.glob Go.Proofs.Try.prog 5 (afun C 1 r_law21_PortOuts a_law21_PortOuts) :=
  fn_sound hC Go.Proofs.Try.func5 c_law21_PortOuts s_law21_PortOuts (Nat.le_of_ble_eq_true (by kernel_rfl))

/-- curtilage/curtilagelaw21.PortNumbers -/
def a_law21_PortNumbers : ACode :=
 (.seq
  (.region false [⟨(some 8), (.mv (.const (.bool false))), none⟩])
  (.seq
   (.seq
    (.region false [⟨(some 14), (.call 7 []), none⟩,
     ⟨(some 15), (.un .not (.tmp 14)), none⟩])
    (.cond (.tmp 15)
     (.seq
      (.region false [⟨(some 8), (.mv (.const (.bool false))), none⟩])
      .ret)
     .skip))
   (.seq
    (.region false [⟨(some 16), (.mv (.tmp 1)), none⟩,
     ⟨(some 17), (.call 16 [(.tmp 16), (.const (it 10))]), none⟩,
     ⟨(some 1), (.mv (.tmp 17)), none⟩])
    (.seq
     (.region false [⟨(some 9), (.mv (.const (u32 0#32))), none⟩])
     (.seq
      (.seq
       (.region false [⟨(some 18), (.mv (.tmp 1)), none⟩,
        ⟨(some 19), (.len (.tmp 18)), none⟩,
        ⟨(some 20), (.minmax false [(.tmp 19), (.const (it 4))]), none⟩,
        ⟨(some 21), (.bin .sub (.tmp 20) (.const (it 1))), none⟩,
        ⟨(some 10), (.mv (.tmp 21)), none⟩])
       (.block 0
        (.loop
         (.seq
          (.seq
           (.region false [⟨(some 22), (.mv (.tmp 10)), none⟩,
            ⟨(some 23), (.bin .geq (.tmp 22) (.const (it 0))), none⟩])
           (.cond (.tmp 23)
            .skip
            (.exit 0)))
          (.seq
           (.block 1
            (.region false [⟨(some 26), (.mv (.tmp 9)), none⟩,
             ⟨(some 27), (.bin .mul (.const (u32 256#32)) (.tmp 26)), none⟩,
             ⟨(some 28), (.mv (.tmp 1)), none⟩,
             ⟨(some 29), (.mv (.tmp 10)), none⟩,
             ⟨(some 30), (.iaddrs L8 (.tmp 28) (.tmp 29)), none⟩,
             ⟨(some 31), (.load L8 (.tmp 30)), none⟩,
             ⟨(some 32), (.conv .u32 (.tmp 31)), none⟩,
             ⟨(some 33), (.bin .add (.tmp 27) (.tmp 32)), none⟩,
             ⟨(some 9), (.mv (.tmp 33)), none⟩]))
           (.region false [⟨(some 24), (.mv (.tmp 10)), none⟩,
            ⟨(some 25), (.bin .sub (.tmp 24) (.const (it 1))), none⟩,
            ⟨(some 10), (.mv (.tmp 25)), none⟩]))))))
      (.seq
       (.region false [⟨(some 34), (.mv (.tmp 0)), none⟩,
        ⟨(some 35), (.call 12 [(.tmp 34)]), none⟩,
        ⟨(some 11), (.mv (.tmp 35)), none⟩])
       (.seq
        (.region false [⟨(some 12), (.mv (.const (.pointer none))), none⟩])
        (.seq
         (.region false [⟨(some 36), (.mv (.tmp 12)), none⟩,
          ⟨(some 37), (.mv (.tmp 2)), none⟩,
          ⟨(some 38), (.mv (.tmp 3)), none⟩,
          ⟨(some 39), (.mv (.tmp 1)), none⟩,
          ⟨(some 40), (.call 9 [(.tmp 36), (.tmp 37), (.tmp 38), (.tmp 39)]), none⟩])
         (.seq
          (.region false [⟨(some 41), (.mv (.tmp 12)), none⟩,
           ⟨(some 42), (.call 19 [(.tmp 41)]), none⟩])
          (.seq
           (.region false [⟨(some 13), (.alloc (.ar 64 L8) (.agg (.ar 64 L8) (List.replicate 64 (.raw (u8 0#8))))), none⟩])
           (.seq
            (.region false [⟨(some 43), (.mv (.tmp 11)), none⟩,
             ⟨(some 44), (.call 15 [(.tmp 43)]), none⟩,
             ⟨(some 45), (.mv (.tmp 0)), none⟩,
             ⟨(some 46), (.bin .eql (.tmp 44) (.tmp 45)), none⟩,
             ⟨(some 47), (.mv (.tmp 46)), none⟩,
             ⟨(some 48), (.mv (.tmp 11)), some (47, true)⟩,
             ⟨(some 49), (.len (.tmp 48)), some (47, true)⟩,
             ⟨(some 50), (.bin .eql (.tmp 49) (.const (it 4))), some (47, true)⟩,
             ⟨(some 51), (.pick (.tmp 47) (.tmp 50) (.const (.bool false))), none⟩,
             ⟨(some 52), (.mv (.tmp 51)), none⟩,
             ⟨(some 53), (.mv (.tmp 1)), some (52, true)⟩,
             ⟨(some 54), (.call 15 [(.tmp 53)]), some (52, true)⟩,
             ⟨(some 55), (.mv (.tmp 9)), some (52, true)⟩,
             ⟨(some 56), (.bin .eql (.tmp 54) (.tmp 55)), some (52, true)⟩,
             ⟨(some 57), (.pick (.tmp 52) (.tmp 56) (.const (.bool false))), none⟩,
             ⟨(some 58), (.mv (.tmp 57)), none⟩,
             ⟨(some 59), (.mv (.tmp 12)), some (58, true)⟩,
             ⟨(some 60), (.call 13 [(.tmp 59), (.tmp 13)]), some (58, true)⟩,
             ⟨(some 61), (.un .not (.tmp 60)), some (58, true)⟩,
             ⟨(some 62), (.pick (.tmp 58) (.tmp 61) (.const (.bool false))), none⟩,
             ⟨(some 63), (.mv (.tmp 62)), none⟩,
             ⟨(some 64), (.mv (.tmp 12)), some (63, true)⟩,
             ⟨(some 65), (.call 10 [(.tmp 64)]), some (63, true)⟩,
             ⟨(some 66), (.len (.tmp 65)), some (63, true)⟩,
             ⟨(some 67), (.mv (.tmp 12)), some (63, true)⟩,
             ⟨(some 68), (.call 11 [(.tmp 67)]), some (63, true)⟩,
             ⟨(some 69), (.len (.tmp 68)), some (63, true)⟩,
             ⟨(some 70), (.bin .add (.tmp 66) (.tmp 69)), some (63, true)⟩,
             ⟨(some 71), (.bin .eql (.tmp 70) (.const (it 0))), some (63, true)⟩,
             ⟨(some 72), (.pick (.tmp 63) (.tmp 71) (.const (.bool false))), none⟩,
             ⟨(some 73), (.mv (.tmp 72)), none⟩,
             ⟨(some 74), (.mv (.tmp 12)), some (73, true)⟩,
             ⟨(some 75), (.call 14 [(.tmp 74)]), some (73, true)⟩,
             ⟨(some 76), (.bin .eql (.tmp 75) (.const (u32 0#32))), some (73, true)⟩,
             ⟨(some 77), (.pick (.tmp 73) (.tmp 76) (.const (.bool false))), none⟩,
             ⟨(some 8), (.mv (.tmp 77)), none⟩])
            .ret)))))))))))
def r_law21_PortNumbers : List ARes := [(.tmp 8)]
theorem c_law21_PortNumbers : o2 Go.Proofs.Try.f6.body (comp Go.Proofs.Try.prog Go.Proofs.Try.f6.ntmps) = some a_law21_PortNumbers := by kernel_rfl
theorem s_law21_PortNumbers : cRess Go.Proofs.Try.prog Go.Proofs.Try.f6.results.toList = some r_law21_PortNumbers := by kernel_rfl
theorem m_law21_PortNumbers (C : Ctx) (hC : CtxOK C Go.Proofs.Try.prog) : Meets C.glob Go.Proofs.Try.prog 6 (afun C 4 r_law21_PortNumbers a_law21_PortNumbers) :=
  fn_sound hC Go.Proofs.Try.func6 c_law21_PortNumbers s_law21_PortNumbers (Nat.le_of_ble_eq_true (by kernel_rfl))

/-- curtilage/curtilagelaw21.awake -/
def a_law21_awake : ACode :=
 (.seq
  (.region false [⟨(some 0), (.mv (.const (.bool false))), none⟩])
  (.seq
   (.region false [⟨(some 2), (.call 8 []), none⟩,
    ⟨(some 1), (.mv (.tmp 2)), none⟩])
   (.seq
    (.region false [⟨(some 3), (.mv (.tmp 1)), none⟩,
     ⟨(some 4), (.bslice L8 1 (.raw (u8 0#8)) [(0, (.const (u8 65#8)))]), none⟩,
     ⟨(some 5), (.call 9 [(.tmp 3), (.const (it 1)), (.const (it 0)), (.tmp 4)]), none⟩])
    (.seq
     (.region false [⟨(some 6), (.mv (.tmp 1)), none⟩,
      ⟨(some 7), (.call 10 [(.tmp 6)]), none⟩,
      ⟨(some 8), (.b2s (.tmp 7)), none⟩,
      ⟨(some 9), (.bin .eql (.tmp 8) (.const (.string ⟨#[65]⟩))), none⟩,
      ⟨(some 0), (.mv (.tmp 9)), none⟩])
     .ret))))
def r_law21_awake : List ARes := [(.tmp 0)]
theorem c_law21_awake : o2 Go.Proofs.Try.f7.body (comp Go.Proofs.Try.prog Go.Proofs.Try.f7.ntmps) = some a_law21_awake := by kernel_rfl
theorem s_law21_awake : cRess Go.Proofs.Try.prog Go.Proofs.Try.f7.results.toList = some r_law21_awake := by kernel_rfl
theorem m_law21_awake (C : Ctx) (hC : CtxOK C Go.Proofs.Try.prog) : Meets C.glob Go.Proofs.Try.prog 7 (afun C 0 r_law21_awake a_law21_awake) :=
  fn_sound hC Go.Proofs.Try.func7 c_law21_awake s_law21_awake (Nat.le_of_ble_eq_true (by kernel_rfl))

/-- curtilage/port.New -/
def a_port_New : ACode :=
 (.seq
  (.region false [⟨(some 0), (.mv (.const (.pointer none))), none⟩])
  (.seq
   (.region false [⟨(some 1), (.build S2 [(.raw (.slice none 0 0)), (.raw (.slice none 0 0)), (.raw (u32 0#32))] []), none⟩,
    ⟨(some 2), (.box S2 (.tmp 1)), none⟩,
    ⟨(some 0), (.mv (.tmp 2)), none⟩])
   .ret))
def r_port_New : List ARes := [(.tmp 0)]
theorem c_port_New : o2 Go.Proofs.Try.f8.body (comp Go.Proofs.Try.prog Go.Proofs.Try.f8.ntmps) = some a_port_New := by kernel_rfl
theorem s_port_New : cRess Go.Proofs.Try.prog Go.Proofs.Try.f8.results.toList = some r_port_New := by kernel_rfl
theorem m_port_New (C : Ctx) (hC : CtxOK C Go.Proofs.Try.prog) : Meets C.glob Go.Proofs.Try.prog 8 (afun C 0 r_port_New a_port_New) :=
  fn_sound hC Go.Proofs.Try.func8 c_port_New s_port_New (Nat.le_of_ble_eq_true (by kernel_rfl))

/-- (*curtilage/port.Port).Wrote -/
def a_port_Port_Wrote : ACode :=
 (.seq
  (.seq
   (.region false [⟨(some 8), (.mv (.tmp 0)), none⟩,
    ⟨(some 9), (.eqnil false (.tmp 8) (.const (.pointer none))), none⟩,
    ⟨(some 10), (.mv (.tmp 9)), none⟩,
    ⟨(some 11), (.mv (.tmp 1)), some (10, false)⟩,
    ⟨(some 12), (.bin .neq (.tmp 11) (.const (it 1))), some (10, false)⟩,
    ⟨(some 13), (.pick (.tmp 10) (.const (.bool true)) (.tmp 12)), none⟩])
   (.cond (.tmp 13)
    .ret
    .skip))
  (.seq
   (.seq
    (.region false [⟨(some 14), (.mv (.tmp 2)), none⟩,
     ⟨(some 15), (.bin .leq (.tmp 14) (.const (it 0))), none⟩,
     ⟨(some 16), (.mv (.tmp 15)), none⟩,
     ⟨(some 17), (.mv (.tmp 2)), some (16, true)⟩,
     ⟨(some 18), (.mv (.tmp 3)), some (16, true)⟩,
     ⟨(some 19), (.len (.tmp 18)), some (16, true)⟩,
     ⟨(some 20), (.bin .sub (.const (it 0)) (.tmp 19)), some (16, true)⟩,
     ⟨(some 21), (.bin .gtr (.tmp 17) (.tmp 20)), some (16, true)⟩,
     ⟨(some 22), (.pick (.tmp 16) (.tmp 21) (.const (.bool false))), none⟩,
     ⟨(some 23), (.mv (.tmp 22)), none⟩,
     ⟨(some 24), (.mv (.tmp 0)), some (23, true)⟩,
     ⟨(some 25), (.nilc (.tmp 24)), some (23, true)⟩,
     ⟨(some 26), (.faddr S2 (.tmp 25) 0), some (23, true)⟩,
     ⟨(some 27), (.load .ref (.tmp 26)), some (23, true)⟩,
     ⟨(some 28), (.len (.tmp 27)), some (23, true)⟩,
     ⟨(some 29), (.bin .lss (.tmp 28) (.const (it 4096))), some (23, true)⟩,
     ⟨(some 30), (.pick (.tmp 23) (.tmp 29) (.const (.bool false))), none⟩])
    (.cond (.tmp 30)
     (.draw [⟨(some 31), (.mv (.tmp 0)), none⟩,
      ⟨(some 32), (.mv (.tmp 0)), none⟩,
      ⟨(some 33), (.nilc (.tmp 32)), none⟩,
      ⟨(some 34), (.faddr S2 (.tmp 33) 0), none⟩,
      ⟨(some 35), (.load .ref (.tmp 34)), none⟩,
      ⟨(some 36), (.mv (.tmp 3)), none⟩,
      ⟨(some 37), (.mv (.tmp 2)), none⟩,
      ⟨(some 38), (.bin .sub (.const (it 0)) (.tmp 37)), none⟩,
      ⟨(some 39), (.iaddrs L8 (.tmp 36) (.tmp 38)), none⟩,
      ⟨(some 40), (.load L8 (.tmp 39)), none⟩,
      ⟨(some 41), (.bslice L8 1 (.raw (u8 0#8)) [(0, (.tmp 40))]), none⟩]
      [⟨(some 31), (.mv (.tmp 0)), none⟩,
      ⟨(some 32), (.mv (.tmp 0)), none⟩,
      ⟨(some 33), (.nilc (.tmp 32)), none⟩,
      ⟨(some 36), (.mv (.tmp 3)), none⟩,
      ⟨(some 37), (.mv (.tmp 2)), none⟩,
      ⟨(some 38), (.bin .sub (.const (it 0)) (.tmp 37)), none⟩,
      ⟨(some 39), (.iaddrs L8 (.tmp 36) (.tmp 38)), none⟩]
      [(⟨(some 42), (.append L8 1 (.tmp 35) (.tmp 41)), none⟩, [⟨(some 31), (.mv (.tmp 0)), none⟩, ⟨(some 32), (.mv (.tmp 0)), none⟩, ⟨(some 33), (.nilc (.tmp 32)), none⟩, ⟨(some 36), (.mv (.tmp 3)), none⟩, ⟨(some 37), (.mv (.tmp 2)), none⟩, ⟨(some 38), (.bin .sub (.const (it 0)) (.tmp 37)), none⟩, ⟨(some 39), (.iaddrs L8 (.tmp 36) (.tmp 38)), none⟩]),
      (⟨(some 43), (.nilc (.tmp 31)), none⟩, []),
      (⟨(some 44), (.faddr S2 (.tmp 43) 0), none⟩, []),
      (⟨none, (.store .ref (.tmp 44) (.tmp 42)), none⟩, [])])
     .skip))
   (.seq
    (.region false [⟨(some 45), (.mv (.tmp 2)), none⟩,
     ⟨(some 46), (.bin .eql (.tmp 45) (.const (it 8))), none⟩,
     ⟨(some 47), (.mv (.tmp 46)), none⟩,
     ⟨(some 48), (.mv (.tmp 3)), some (47, true)⟩,
     ⟨(some 49), (.len (.tmp 48)), some (47, true)⟩,
     ⟨(some 50), (.bin .eql (.tmp 49) (.const (it 4))), some (47, true)⟩,
     ⟨(some 51), (.pick (.tmp 47) (.tmp 50) (.const (.bool false))), none⟩,
     ⟨(some 52), (.mv (.tmp 51)), none⟩,
     ⟨(some 53), (.mv (.tmp 0)), some (52, true)⟩,
     ⟨(some 54), (.nilc (.tmp 53)), some (52, true)⟩,
     ⟨(some 55), (.faddr S2 (.tmp 54) 1), some (52, true)⟩,
     ⟨(some 56), (.load .ref (.tmp 55)), some (52, true)⟩,
     ⟨(some 57), (.len (.tmp 56)), some (52, true)⟩,
     ⟨(some 58), (.bin .lss (.tmp 57) (.const (it 4096))), some (52, true)⟩,
     ⟨(some 59), (.pick (.tmp 52) (.tmp 58) (.const (.bool false))), none⟩])
    (.cond (.tmp 59)
     (.draw [⟨(some 60), (.mv (.tmp 0)), none⟩,
      ⟨(some 61), (.mv (.tmp 0)), none⟩,
      ⟨(some 62), (.nilc (.tmp 61)), none⟩,
      ⟨(some 63), (.faddr S2 (.tmp 62) 1), none⟩,
      ⟨(some 64), (.load .ref (.tmp 63)), none⟩,
      ⟨(some 65), (.mv (.tmp 3)), none⟩,
      ⟨(some 66), (.call 15 [(.tmp 65)]), none⟩,
      ⟨(some 67), (.bslice L32 1 (.raw (u32 0#32)) [(0, (.tmp 66))]), none⟩]
      [⟨(some 60), (.mv (.tmp 0)), none⟩,
      ⟨(some 61), (.mv (.tmp 0)), none⟩,
      ⟨(some 62), (.nilc (.tmp 61)), none⟩]
      [(⟨(some 68), (.append L32 4 (.tmp 64) (.tmp 67)), none⟩, [⟨(some 60), (.mv (.tmp 0)), none⟩, ⟨(some 61), (.mv (.tmp 0)), none⟩, ⟨(some 62), (.nilc (.tmp 61)), none⟩]),
      (⟨(some 69), (.nilc (.tmp 60)), none⟩, []),
      (⟨(some 70), (.faddr S2 (.tmp 69) 1), none⟩, []),
      (⟨none, (.store .ref (.tmp 70) (.tmp 68)), none⟩, [])])
     .skip))))
def r_port_Port_Wrote : List ARes := []
theorem c_port_Port_Wrote : o2 Go.Proofs.Try.f9.body (comp Go.Proofs.Try.prog Go.Proofs.Try.f9.ntmps) = some a_port_Port_Wrote := by kernel_rfl
theorem s_port_Port_Wrote : cRess Go.Proofs.Try.prog Go.Proofs.Try.f9.results.toList = some r_port_Port_Wrote := by kernel_rfl
theorem m_port_Port_Wrote (C : Ctx) (hC : CtxOK C Go.Proofs.Try.prog) : Meets C.glob Go.Proofs.Try.prog 9 (afun C 4 r_port_Port_Wrote a_port_Port_Wrote) :=
  fn_sound hC Go.Proofs.Try.func9 c_port_Port_Wrote s_port_Port_Wrote (Nat.le_of_ble_eq_true (by kernel_rfl))

/-- (*curtilage/port.Port).Out -/
def a_port_Port_Out : ACode :=
 (.seq
  (.region false [⟨(some 2), (.mv (.const (.slice none 0 0))), none⟩])
  (.seq
   (.seq
    (.region false [⟨(some 3), (.mv (.tmp 0)), none⟩,
     ⟨(some 4), (.eqnil false (.tmp 3) (.const (.pointer none))), none⟩])
    (.cond (.tmp 4)
     (.seq
      (.region false [⟨(some 2), (.mv (.const (.slice none 0 0))), none⟩])
      .ret)
     .skip))
   (.seq
    (.region false [⟨(some 5), (.mv (.tmp 0)), none⟩,
     ⟨(some 6), (.nilc (.tmp 5)), none⟩,
     ⟨(some 7), (.faddr S2 (.tmp 6) 0), none⟩,
     ⟨(some 8), (.load .ref (.tmp 7)), none⟩,
     ⟨(some 9), (.call 20 [(.tmp 8)]), none⟩,
     ⟨(some 2), (.mv (.tmp 9)), none⟩])
    .ret)))
def r_port_Port_Out : List ARes := [(.tmp 2)]
theorem c_port_Port_Out : o2 Go.Proofs.Try.f10.body (comp Go.Proofs.Try.prog Go.Proofs.Try.f10.ntmps) = some a_port_Port_Out := by kernel_rfl
theorem s_port_Port_Out : cRess Go.Proofs.Try.prog Go.Proofs.Try.f10.results.toList = some r_port_Port_Out := by kernel_rfl
theorem m_port_Port_Out (C : Ctx) (hC : CtxOK C Go.Proofs.Try.prog) : Meets C.glob Go.Proofs.Try.prog 10 (afun C 1 r_port_Port_Out a_port_Port_Out) :=
  fn_sound hC Go.Proofs.Try.func10 c_port_Port_Out s_port_Port_Out (Nat.le_of_ble_eq_true (by kernel_rfl))

/-- (*curtilage/port.Port).Messages -/
def a_port_Port_Messages : ACode :=
 (.seq
  (.region false [⟨(some 2), (.mv (.const (.slice none 0 0))), none⟩])
  (.seq
   (.seq
    (.region false [⟨(some 3), (.mv (.tmp 0)), none⟩,
     ⟨(some 4), (.eqnil false (.tmp 3) (.const (.pointer none))), none⟩])
    (.cond (.tmp 4)
     (.seq
      (.region false [⟨(some 2), (.mv (.const (.slice none 0 0))), none⟩])
      .ret)
     .skip))
   (.seq
    (.region false [⟨(some 5), (.mv (.tmp 0)), none⟩,
     ⟨(some 6), (.nilc (.tmp 5)), none⟩,
     ⟨(some 7), (.faddr S2 (.tmp 6) 1), none⟩,
     ⟨(some 8), (.load .ref (.tmp 7)), none⟩,
     ⟨(some 9), (.call 21 [(.tmp 8)]), none⟩,
     ⟨(some 2), (.mv (.tmp 9)), none⟩])
    .ret)))
def r_port_Port_Messages : List ARes := [(.tmp 2)]
theorem c_port_Port_Messages : o2 Go.Proofs.Try.f11.body (comp Go.Proofs.Try.prog Go.Proofs.Try.f11.ntmps) = some a_port_Port_Messages := by kernel_rfl
theorem s_port_Port_Messages : cRess Go.Proofs.Try.prog Go.Proofs.Try.f11.results.toList = some r_port_Port_Messages := by kernel_rfl
theorem m_port_Port_Messages (C : Ctx) (hC : CtxOK C Go.Proofs.Try.prog) : Meets C.glob Go.Proofs.Try.prog 11 (afun C 1 r_port_Port_Messages a_port_Port_Messages) :=
  fn_sound hC Go.Proofs.Try.func11 c_port_Port_Messages s_port_Port_Messages (Nat.le_of_ble_eq_true (by kernel_rfl))

/-- curtilage/port.Bytes -/
def a_port_Bytes : ACode :=
 (.seq
  (.region false [⟨(some 2), (.mv (.const (.slice none 0 0))), none⟩])
  (.seq
   (.region false [⟨(some 3), (.mv (.tmp 0)), none⟩,
    ⟨(some 4), (.conv .u8 (.tmp 3)), none⟩,
    ⟨(some 5), (.mv (.tmp 0)), none⟩,
    ⟨(some 6), (.bin .shr (.tmp 5) (.const (u64 8#64))), none⟩,
    ⟨(some 7), (.conv .u8 (.tmp 6)), none⟩,
    ⟨(some 8), (.mv (.tmp 0)), none⟩,
    ⟨(some 9), (.bin .shr (.tmp 8) (.const (u64 16#64))), none⟩,
    ⟨(some 10), (.conv .u8 (.tmp 9)), none⟩,
    ⟨(some 11), (.mv (.tmp 0)), none⟩,
    ⟨(some 12), (.bin .shr (.tmp 11) (.const (u64 24#64))), none⟩,
    ⟨(some 13), (.conv .u8 (.tmp 12)), none⟩,
    ⟨(some 14), (.bslice L8 4 (.raw (u8 0#8)) [(0, (.tmp 4)), (1, (.tmp 7)), (2, (.tmp 10)), (3, (.tmp 13))]), none⟩,
    ⟨(some 2), (.mv (.tmp 14)), none⟩])
   .ret))
def r_port_Bytes : List ARes := [(.tmp 2)]
theorem c_port_Bytes : o2 Go.Proofs.Try.f12.body (comp Go.Proofs.Try.prog Go.Proofs.Try.f12.ntmps) = some a_port_Bytes := by kernel_rfl
theorem s_port_Bytes : cRess Go.Proofs.Try.prog Go.Proofs.Try.f12.results.toList = some r_port_Bytes := by kernel_rfl
theorem m_port_Bytes (C : Ctx) (hC : CtxOK C Go.Proofs.Try.prog) : Meets C.glob Go.Proofs.Try.prog 12 (afun C 1 r_port_Bytes a_port_Bytes) :=
  fn_sound hC Go.Proofs.Try.func12 c_port_Bytes s_port_Bytes (Nat.le_of_ble_eq_true (by kernel_rfl))

/-- (*curtilage/port.Port).Tick -/
def a_port_Port_Tick : ACode :=
 (.seq
  (.region false [⟨(some 4), (.mv (.const (.bool false))), none⟩])
  (.seq
   (.seq
    (.region false [⟨(some 6), (.mv (.tmp 0)), none⟩,
     ⟨(some 7), (.eqnil false (.tmp 6) (.const (.pointer none))), none⟩])
    (.cond (.tmp 7)
     (.seq
      (.region false [⟨(some 4), (.mv (.const (.bool false))), none⟩])
      .ret)
     .skip))
   (.seq
    (.region false [⟨(some 8), (.mv (.tmp 0)), none⟩,
     ⟨(some 9), (.nilc (.tmp 8)), none⟩,
     ⟨(some 10), (.faddr S2 (.tmp 9) 2), none⟩,
     ⟨(some 11), (.load L32 (.tmp 10)), none⟩,
     ⟨(some 12), (.bin .add (.tmp 11) (.const (u32 1#32))), none⟩,
     ⟨(some 13), (.nilc (.tmp 8)), none⟩,
     ⟨(some 14), (.faddr S2 (.tmp 13) 2), none⟩,
     ⟨none, (.store L32 (.tmp 14) (.tmp 12)), none⟩])
    (.seq
     (.seq
      (.region false [⟨(some 15), (.mv (.tmp 1)), none⟩,
       ⟨(some 16), (.eqnil false (.tmp 15) (.const (.pointer none))), none⟩])
      (.cond (.tmp 16)
       (.seq
        (.region false [⟨(some 4), (.mv (.const (.bool false))), none⟩])
        .ret)
       .skip))
     (.seq
      (.region true [⟨(some 17), (.mv (.tmp 1)), none⟩,
       ⟨(some 18), (.nilc (.tmp 17)), none⟩,
       ⟨(some 19), (.slicea 64 L8 (.tmp 18) (some (.const (it 16))) none none), none⟩,
       ⟨(some 20), (.mv (.tmp 0)), none⟩,
       ⟨(some 21), (.nilc (.tmp 20)), none⟩,
       ⟨(some 22), (.faddr S2 (.tmp 21) 2), none⟩,
       ⟨(some 23), (.load L32 (.tmp 22)), none⟩,
       ⟨(some 24), (.call 12 [(.tmp 23)]), none⟩,
       ⟨(some 25), (.copy L8 (.tmp 19) (.tmp 24)), none⟩])
      (.seq
       (.region false [⟨(some 26), (.mv (.tmp 1)), none⟩,
        ⟨(some 27), (.nilc (.tmp 26)), none⟩,
        ⟨(some 28), (.slicea 64 L8 (.tmp 27) (some (.const (it 12))) (some (.const (it 16))) none), none⟩,
        ⟨(some 29), (.call 15 [(.tmp 28)]), none⟩,
        ⟨(some 5), (.mv (.tmp 29)), none⟩])
       (.seq
        (.region false [⟨(some 30), (.mv (.tmp 5)), none⟩,
         ⟨(some 31), (.bin .neq (.tmp 30) (.const (u32 0#32))), none⟩,
         ⟨(some 32), (.mv (.tmp 31)), none⟩,
         ⟨(some 33), (.mv (.tmp 5)), some (32, true)⟩,
         ⟨(some 34), (.mv (.tmp 0)), some (32, true)⟩,
         ⟨(some 35), (.nilc (.tmp 34)), some (32, true)⟩,
         ⟨(some 36), (.faddr S2 (.tmp 35) 2), some (32, true)⟩,
         ⟨(some 37), (.load L32 (.tmp 36)), some (32, true)⟩,
         ⟨(some 38), (.bin .leq (.tmp 33) (.tmp 37)), some (32, true)⟩,
         ⟨(some 39), (.pick (.tmp 32) (.tmp 38) (.const (.bool false))), none⟩,
         ⟨(some 4), (.mv (.tmp 39)), none⟩])
        .ret)))))))
def r_port_Port_Tick : List ARes := [(.tmp 4)]
theorem c_port_Port_Tick : o2 Go.Proofs.Try.f13.body (comp Go.Proofs.Try.prog Go.Proofs.Try.f13.ntmps) = some a_port_Port_Tick := by kernel_rfl
theorem s_port_Port_Tick : cRess Go.Proofs.Try.prog Go.Proofs.Try.f13.results.toList = some r_port_Port_Tick := by kernel_rfl
theorem m_port_Port_Tick (C : Ctx) (hC : CtxOK C Go.Proofs.Try.prog) : Meets C.glob Go.Proofs.Try.prog 13 (afun C 2 r_port_Port_Tick a_port_Port_Tick) :=
  fn_sound hC Go.Proofs.Try.func13 c_port_Port_Tick s_port_Port_Tick (Nat.le_of_ble_eq_true (by kernel_rfl))

/-- (*curtilage/port.Port).Time -/
def a_port_Port_Time : ACode :=
 (.seq
  (.region false [⟨(some 2), (.mv (.const (u32 0#32))), none⟩])
  (.seq
   (.seq
    (.region false [⟨(some 3), (.mv (.tmp 0)), none⟩,
     ⟨(some 4), (.eqnil false (.tmp 3) (.const (.pointer none))), none⟩])
    (.cond (.tmp 4)
     (.seq
      (.region false [⟨(some 2), (.mv (.const (u32 0#32))), none⟩])
      .ret)
     .skip))
   (.seq
    (.region false [⟨(some 5), (.mv (.tmp 0)), none⟩,
     ⟨(some 6), (.nilc (.tmp 5)), none⟩,
     ⟨(some 7), (.faddr S2 (.tmp 6) 2), none⟩,
     ⟨(some 8), (.load L32 (.tmp 7)), none⟩,
     ⟨(some 2), (.mv (.tmp 8)), none⟩])
    .ret)))
def r_port_Port_Time : List ARes := [(.tmp 2)]
theorem c_port_Port_Time : o2 Go.Proofs.Try.f14.body (comp Go.Proofs.Try.prog Go.Proofs.Try.f14.ntmps) = some a_port_Port_Time := by kernel_rfl
theorem s_port_Port_Time : cRess Go.Proofs.Try.prog Go.Proofs.Try.f14.results.toList = some r_port_Port_Time := by kernel_rfl
theorem m_port_Port_Time (C : Ctx) (hC : CtxOK C Go.Proofs.Try.prog) : Meets C.glob Go.Proofs.Try.prog 14 (afun C 1 r_port_Port_Time a_port_Port_Time) :=
  fn_sound hC Go.Proofs.Try.func14 c_port_Port_Time s_port_Port_Time (Nat.le_of_ble_eq_true (by kernel_rfl))

/-- curtilage/port.Number -/
def a_port_Number : ACode :=
 (.seq
  (.region false [⟨(some 2), (.mv (.const (u32 0#32))), none⟩])
  (.seq
   (.region false [⟨(some 3), (.mv (.const (u32 0#32))), none⟩])
   (.seq
    (.seq
     (.region false [⟨(some 6), (.mv (.tmp 0)), none⟩,
      ⟨(some 7), (.len (.tmp 6)), none⟩,
      ⟨(some 8), (.mv (.const (it 0))), none⟩])
     (.block 0
      (.loop
       (.seq
        (.region false [⟨(some 9), (.bin .lss (.tmp 8) (.tmp 7)), none⟩])
        (.seq
         (.cond (.tmp 9)
          .skip
          (.exit 0))
         (.seq
          (.block 1
           (.seq
            (.region false [⟨(some 10), (.mv (.tmp 8)), none⟩,
             ⟨(some 11), (.iaddrs L8 (.tmp 6) (.tmp 8)), none⟩,
             ⟨(some 12), (.load L8 (.tmp 11)), none⟩,
             ⟨(some 4), (.mv (.tmp 10)), none⟩,
             ⟨(some 5), (.mv (.tmp 12)), none⟩])
            (.seq
             (.region false [⟨(some 13), (.mv (.tmp 4)), none⟩,
              ⟨(some 14), (.bin .lss (.tmp 13) (.const (it 4))), none⟩])
             (.cond (.tmp 14)
              (.region false [⟨(some 15), (.mv (.tmp 3)), none⟩,
               ⟨(some 16), (.mv (.tmp 5)), none⟩,
               ⟨(some 17), (.conv .u32 (.tmp 16)), none⟩,
               ⟨(some 18), (.mv (.tmp 4)), none⟩,
               ⟨(some 19), (.bin .mul (.const (it 8)) (.tmp 18)), none⟩,
               ⟨(some 20), (.bin .shl (.tmp 17) (.tmp 19)), none⟩,
               ⟨(some 21), (.bin .or (.tmp 15) (.tmp 20)), none⟩,
               ⟨(some 3), (.mv (.tmp 21)), none⟩])
              .skip))))
          (.region false [⟨(some 22), (.bin .add (.tmp 8) (.const (it 1))), none⟩,
           ⟨(some 8), (.mv (.tmp 22)), none⟩])))))))
    (.seq
     (.region false [⟨(some 23), (.mv (.tmp 3)), none⟩,
      ⟨(some 2), (.mv (.tmp 23)), none⟩])
     .ret))))
def r_port_Number : List ARes := [(.tmp 2)]
theorem c_port_Number : o2 Go.Proofs.Try.f15.body (comp Go.Proofs.Try.prog Go.Proofs.Try.f15.ntmps) = some a_port_Number := by kernel_rfl
theorem s_port_Number : cRess Go.Proofs.Try.prog Go.Proofs.Try.f15.results.toList = some r_port_Number := by kernel_rfl
theorem m_port_Number (C : Ctx) (hC : CtxOK C Go.Proofs.Try.prog) : Meets C.glob Go.Proofs.Try.prog 15 (afun C 1 r_port_Number a_port_Number) :=
  fn_sound hC Go.Proofs.Try.func15 c_port_Number s_port_Number (Nat.le_of_ble_eq_true (by kernel_rfl))

/-- curtilage/curtilageref01.Cut -/
def a_ref01_Cut : ACode :=
 (.seq
  (.region false [⟨(some 4), (.mv (.const (.slice none 0 0))), none⟩])
  (.seq
   (.region false [⟨(some 5), (.mv (.const (.slice none 0 0))), none⟩])
   (.seq
    (.seq
     (.region false [⟨(some 8), (.mv (.tmp 0)), none⟩,
      ⟨(some 9), (.len (.tmp 8)), none⟩,
      ⟨(some 10), (.mv (.const (it 0))), none⟩])
     (.block 0
      (.loop
       (.seq
        (.region false [⟨(some 11), (.bin .lss (.tmp 10) (.tmp 9)), none⟩])
        (.seq
         (.cond (.tmp 11)
          .skip
          (.exit 0))
         (.seq
          (.block 1
           (.seq
            (.region false [⟨(some 12), (.mv (.tmp 10)), none⟩,
             ⟨(some 13), (.iaddrs L8 (.tmp 8) (.tmp 10)), none⟩,
             ⟨(some 14), (.load L8 (.tmp 13)), none⟩,
             ⟨(some 6), (.mv (.tmp 12)), none⟩,
             ⟨(some 7), (.mv (.tmp 14)), none⟩])
            (.seq
             (.region false [⟨(some 15), (.mv (.tmp 6)), none⟩,
              ⟨(some 16), (.mv (.tmp 1)), none⟩,
              ⟨(some 17), (.bin .lss (.tmp 15) (.tmp 16)), none⟩])
             (.cond (.tmp 17)
              (.region false [⟨(some 18), (.mv (.tmp 5)), none⟩,
               ⟨(some 19), (.mv (.tmp 7)), none⟩,
               ⟨(some 20), (.bslice L8 1 (.raw (u8 0#8)) [(0, (.tmp 19))]), none⟩,
               ⟨(some 21), (.append L8 1 (.tmp 18) (.tmp 20)), none⟩,
               ⟨(some 5), (.mv (.tmp 21)), none⟩])
              .skip))))
          (.region false [⟨(some 22), (.bin .add (.tmp 10) (.const (it 1))), none⟩,
           ⟨(some 10), (.mv (.tmp 22)), none⟩])))))))
    (.seq
     (.region false [⟨(some 23), (.mv (.tmp 5)), none⟩,
      ⟨(some 4), (.mv (.tmp 23)), none⟩])
     .ret))))
def r_ref01_Cut : List ARes := [(.tmp 4)]
theorem c_ref01_Cut : o2 Go.Proofs.Try.f16.body (comp Go.Proofs.Try.prog Go.Proofs.Try.f16.ntmps) = some a_ref01_Cut := by kernel_rfl
theorem s_ref01_Cut : cRess Go.Proofs.Try.prog Go.Proofs.Try.f16.results.toList = some r_ref01_Cut := by kernel_rfl
theorem m_ref01_Cut (C : Ctx) (hC : CtxOK C Go.Proofs.Try.prog) : Meets C.glob Go.Proofs.Try.prog 16 (afun C 2 r_ref01_Cut a_ref01_Cut) :=
  fn_sound hC Go.Proofs.Try.func16 c_ref01_Cut s_ref01_Cut (Nat.le_of_ble_eq_true (by kernel_rfl))

/-- curtilage/curtilageref01.Value -/
def a_ref01_Value : ACode :=
 (.seq
  (.region false [⟨(some 2), (.mv (.const (u64 0#64))), none⟩])
  (.seq
   (.region false [⟨(some 3), (.mv (.const (u64 0#64))), none⟩])
   (.seq
    (.seq
     (.region false [⟨(some 6), (.mv (.tmp 0)), none⟩,
      ⟨(some 7), (.len (.tmp 6)), none⟩,
      ⟨(some 8), (.mv (.const (it 0))), none⟩])
     (.block 0
      (.loop
       (.seq
        (.region false [⟨(some 9), (.bin .lss (.tmp 8) (.tmp 7)), none⟩])
        (.seq
         (.cond (.tmp 9)
          .skip
          (.exit 0))
         (.seq
          (.block 1
           (.seq
            (.region false [⟨(some 10), (.iaddrs L8 (.tmp 6) (.tmp 8)), none⟩,
             ⟨(some 11), (.load L8 (.tmp 10)), none⟩,
             ⟨(some 5), (.mv (.tmp 11)), none⟩])
            (.region false [⟨(some 12), (.mv (.tmp 3)), none⟩,
             ⟨(some 13), (.bin .mul (.const (u64 256#64)) (.tmp 12)), none⟩,
             ⟨(some 14), (.mv (.tmp 5)), none⟩,
             ⟨(some 15), (.conv .u64 (.tmp 14)), none⟩,
             ⟨(some 16), (.bin .add (.tmp 13) (.tmp 15)), none⟩,
             ⟨(some 3), (.mv (.tmp 16)), none⟩])))
          (.region false [⟨(some 17), (.bin .add (.tmp 8) (.const (it 1))), none⟩,
           ⟨(some 8), (.mv (.tmp 17)), none⟩])))))))
    (.seq
     (.region false [⟨(some 18), (.mv (.tmp 3)), none⟩,
      ⟨(some 2), (.mv (.tmp 18)), none⟩])
     .ret))))
def r_ref01_Value : List ARes := [(.tmp 2)]
theorem c_ref01_Value : o2 Go.Proofs.Try.f17.body (comp Go.Proofs.Try.prog Go.Proofs.Try.f17.ntmps) = some a_ref01_Value := by kernel_rfl
theorem s_ref01_Value : cRess Go.Proofs.Try.prog Go.Proofs.Try.f17.results.toList = some r_ref01_Value := by kernel_rfl
theorem m_ref01_Value (C : Ctx) (hC : CtxOK C Go.Proofs.Try.prog) : Meets C.glob Go.Proofs.Try.prog 17 (afun C 1 r_ref01_Value a_ref01_Value) :=
  fn_sound hC Go.Proofs.Try.func17 c_ref01_Value s_ref01_Value (Nat.le_of_ble_eq_true (by kernel_rfl))

/-- curtilage/curtilageref01.Same -/
def a_ref01_Same : ACode :=
 (.seq
  (.region false [⟨(some 4), (.mv (.const (.bool false))), none⟩])
  (.seq
   (.seq
    (.region false [⟨(some 6), (.mv (.tmp 0)), none⟩,
     ⟨(some 7), (.len (.tmp 6)), none⟩,
     ⟨(some 8), (.mv (.tmp 1)), none⟩,
     ⟨(some 9), (.len (.tmp 8)), none⟩,
     ⟨(some 10), (.bin .neq (.tmp 7) (.tmp 9)), none⟩])
    (.cond (.tmp 10)
     (.seq
      (.region false [⟨(some 4), (.mv (.const (.bool false))), none⟩])
      .ret)
     .skip))
   (.seq
    (.seq
     (.region false [⟨(some 11), (.mv (.tmp 0)), none⟩,
      ⟨(some 12), (.len (.tmp 11)), none⟩,
      ⟨(some 13), (.mv (.const (it 0))), none⟩])
     (.block 0
      (.loop
       (.seq
        (.region false [⟨(some 14), (.bin .lss (.tmp 13) (.tmp 12)), none⟩])
        (.seq
         (.cond (.tmp 14)
          .skip
          (.exit 0))
         (.seq
          (.block 1
           (.seq
            (.region false [⟨(some 15), (.mv (.tmp 13)), none⟩,
             ⟨(some 5), (.mv (.tmp 15)), none⟩])
            (.seq
             (.region true [⟨(some 16), (.mv (.tmp 0)), none⟩,
              ⟨(some 17), (.mv (.tmp 5)), none⟩,
              ⟨(some 18), (.iaddrs L8 (.tmp 16) (.tmp 17)), none⟩,
              ⟨(some 19), (.load L8 (.tmp 18)), none⟩,
              ⟨(some 20), (.mv (.tmp 1)), none⟩,
              ⟨(some 21), (.mv (.tmp 5)), none⟩,
              ⟨(some 22), (.iaddrs L8 (.tmp 20) (.tmp 21)), none⟩,
              ⟨(some 23), (.load L8 (.tmp 22)), none⟩,
              ⟨(some 24), (.bin .neq (.tmp 19) (.tmp 23)), none⟩])
             (.cond (.tmp 24)
              (.seq
               (.region false [⟨(some 4), (.mv (.const (.bool false))), none⟩])
               .ret)
              .skip))))
          (.region false [⟨(some 25), (.bin .add (.tmp 13) (.const (it 1))), none⟩,
           ⟨(some 13), (.mv (.tmp 25)), none⟩])))))))
    (.seq
     (.region false [⟨(some 4), (.mv (.const (.bool true))), none⟩])
     .ret))))
def r_ref01_Same : List ARes := [(.tmp 4)]
theorem c_ref01_Same : o2 Go.Proofs.Try.f18.body (comp Go.Proofs.Try.prog Go.Proofs.Try.f18.ntmps) = some a_ref01_Same := by kernel_rfl
theorem s_ref01_Same : cRess Go.Proofs.Try.prog Go.Proofs.Try.f18.results.toList = some r_ref01_Same := by kernel_rfl
theorem m_ref01_Same (C : Ctx) (hC : CtxOK C Go.Proofs.Try.prog) : Meets C.glob Go.Proofs.Try.prog 18 (afun C 2 r_ref01_Same a_ref01_Same) :=
  fn_sound hC Go.Proofs.Try.func18 c_ref01_Same s_ref01_Same (Nat.le_of_ble_eq_true (by kernel_rfl))

/-- (*curtilage/port.Port).Reset -/
def a_port_Port_Reset : ACode :=
 (.seq
  (.region false [⟨(some 2), (.mv (.tmp 0)), none⟩,
   ⟨(some 3), (.eqnil true (.tmp 2) (.const (.pointer none))), none⟩])
  (.cond (.tmp 3)
   (.region false [⟨(some 4), (.mv (.tmp 0)), none⟩,
    ⟨(some 5), (.nilc (.tmp 4)), none⟩,
    ⟨(some 6), (.faddr S2 (.tmp 5) 2), none⟩,
    ⟨none, (.store L32 (.tmp 6) (.const (u32 0#32))), none⟩])
   .skip))
def r_port_Port_Reset : List ARes := []
theorem c_port_Port_Reset : o2 Go.Proofs.Try.f19.body (comp Go.Proofs.Try.prog Go.Proofs.Try.f19.ntmps) = some a_port_Port_Reset := by kernel_rfl
theorem s_port_Port_Reset : cRess Go.Proofs.Try.prog Go.Proofs.Try.f19.results.toList = some r_port_Port_Reset := by kernel_rfl
theorem m_port_Port_Reset (C : Ctx) (hC : CtxOK C Go.Proofs.Try.prog) : Meets C.glob Go.Proofs.Try.prog 19 (afun C 1 r_port_Port_Reset a_port_Port_Reset) :=
  fn_sound hC Go.Proofs.Try.func19 c_port_Port_Reset s_port_Port_Reset (Nat.le_of_ble_eq_true (by kernel_rfl))

/-- bytes.Clone -/
def a_bytes_Clone : ACode :=
 (.seq
  (.region false [⟨(some 2), (.mv (.const (.slice none 0 0))), none⟩])
  (.seq
   (.seq
    (.region false [⟨(some 3), (.mv (.tmp 0)), none⟩,
     ⟨(some 4), (.eqsn false (.tmp 3) (.const (.slice none 0 0))), none⟩])
    (.cond (.tmp 4)
     (.seq
      (.region false [⟨(some 2), (.mv (.const (.slice none 0 0))), none⟩])
      .ret)
     .skip))
   (.seq
    (.region false [⟨(some 5), (.bslice L8 0 (.raw (u8 0#8)) []), none⟩,
     ⟨(some 6), (.mv (.tmp 0)), none⟩,
     ⟨(some 7), (.append L8 1 (.tmp 5) (.tmp 6)), none⟩,
     ⟨(some 2), (.mv (.tmp 7)), none⟩])
    .ret)))
def r_bytes_Clone : List ARes := [(.tmp 2)]
theorem c_bytes_Clone : o2 Go.Proofs.Try.f20.body (comp Go.Proofs.Try.prog Go.Proofs.Try.f20.ntmps) = some a_bytes_Clone := by kernel_rfl
theorem s_bytes_Clone : cRess Go.Proofs.Try.prog Go.Proofs.Try.f20.results.toList = some r_bytes_Clone := by kernel_rfl
theorem m_bytes_Clone (C : Ctx) (hC : CtxOK C Go.Proofs.Try.prog) : Meets C.glob Go.Proofs.Try.prog 20 (afun C 1 r_bytes_Clone a_bytes_Clone) :=
  fn_sound hC Go.Proofs.Try.func20 c_bytes_Clone s_bytes_Clone (Nat.le_of_ble_eq_true (by kernel_rfl))

/-- slices.Clone[[]uint32,uint32] -/
def a_slices_Clone_uint32_uint32 : ACode :=
 (.seq
  (.region false [⟨(some 2), (.mv (.const (.slice none 0 0))), none⟩])
  (.seq
   (.seq
    (.region false [⟨(some 3), (.mv (.tmp 0)), none⟩,
     ⟨(some 4), (.eqsn false (.tmp 3) (.const (.slice none 0 0))), none⟩])
    (.cond (.tmp 4)
     (.seq
      (.region false [⟨(some 2), (.mv (.const (.slice none 0 0))), none⟩])
      .ret)
     .skip))
   (.seq
    (.region false [⟨(some 5), (.bslice L32 0 (.raw (u32 0#32)) []), none⟩,
     ⟨(some 6), (.mv (.tmp 0)), none⟩,
     ⟨(some 7), (.append L32 4 (.tmp 5) (.tmp 6)), none⟩,
     ⟨(some 2), (.mv (.tmp 7)), none⟩])
    .ret)))
def r_slices_Clone_uint32_uint32 : List ARes := [(.tmp 2)]
theorem c_slices_Clone_uint32_uint32 : o2 Go.Proofs.Try.f21.body (comp Go.Proofs.Try.prog Go.Proofs.Try.f21.ntmps) = some a_slices_Clone_uint32_uint32 := by kernel_rfl
theorem s_slices_Clone_uint32_uint32 : cRess Go.Proofs.Try.prog Go.Proofs.Try.f21.results.toList = some r_slices_Clone_uint32_uint32 := by kernel_rfl
theorem m_slices_Clone_uint32_uint32 (C : Ctx) (hC : CtxOK C Go.Proofs.Try.prog) : Meets C.glob Go.Proofs.Try.prog 21 (afun C 1 r_slices_Clone_uint32_uint32 a_slices_Clone_uint32_uint32) :=
  fn_sound hC Go.Proofs.Try.func21 c_slices_Clone_uint32_uint32 s_slices_Clone_uint32_uint32 (Nat.le_of_ble_eq_true (by kernel_rfl))

end Go.Am.F
