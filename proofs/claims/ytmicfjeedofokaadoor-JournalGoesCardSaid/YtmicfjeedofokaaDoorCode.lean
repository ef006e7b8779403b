/- The functions as the abstract machine has them: printed. -/
import Derived.Test.YtmicfjeedofokaaDoorProg
import Derived.Test.YtmicfjeedofokaaDoorAm24
namespace Go.Am.F
set_option linter.unusedVariables false
set_option linter.unusedSimpArgs false
abbrev S1 : Sh := .cons L32 (.cons LI (.cons LI (.cons LI .nil)))
abbrev S2 : Sh := .cons L8 (.cons LI (.cons LI (.cons .ref (.cons LI (.cons L32 .nil)))))
abbrev S3 : Sh := .cons .ref .nil
abbrev S4 : Sh := .cons LI (.cons L32 .nil)
abbrev S5 : Sh := .cons .ref (.cons LB .nil)
abbrev S6 : Sh := .cons (.ar 8 L32) (.cons (.ar 64 L8) (.cons L64 .nil))
abbrev S7 : Sh := .cons L32 (.cons LB .nil)
/-- gosem.cut.init -/
def a_gosem_cut_init : ACode :=
 (.region false [⟨(some 0), .fail, none⟩])
def r_gosem_cut_init : List ARes := []
theorem c_gosem_cut_init : o2 Go.Proofs.Tryd.f2.body (comp Go.Proofs.Tryd.prog Go.Proofs.Tryd.f2.ntmps) = some a_gosem_cut_init := by kernel_rfl
theorem s_gosem_cut_init : cRess Go.Proofs.Tryd.prog Go.Proofs.Tryd.f2.results.toList = some r_gosem_cut_init := by kernel_rfl
theorem m_gosem_cut_init (C : Ctx) (hC : CtxOK C Go.Proofs.Tryd.prog) : Meets C.glob Go.Proofs.Tryd.prog 2 (afun C 0 r_gosem_cut_init a_gosem_cut_init) :=
  fn_sound hC Go.Proofs.Tryd.func2 c_gosem_cut_init s_gosem_cut_init (Nat.le_of_ble_eq_true (by kernel_rfl))

/-- curtilage/curtilagelaw22.JournalForms -/
def a_law22_JournalForms : ACode :=
 (.seq
  (.region false [⟨(some 4), (.box S1 (.tmp 0)), none⟩,
   ⟨(some 8), (.mv (.const (.bool false))), none⟩])
  (.seq
   (.seq
    (.region false [⟨(some 18), (.call 8 []), none⟩,
     ⟨(some 19), (.un .not (.tmp 18)), none⟩])
    (.cond (.tmp 19)
     (.seq
      (.region false [⟨(some 8), (.mv (.const (.bool false))), none⟩])
      .ret)
     .skip))
   (.seq
    (.region false [⟨(some 20), (.mv (.tmp 1)), none⟩,
     ⟨(some 21), (.call 9 [(.tmp 20), (.const (it 40))]), none⟩,
     ⟨(some 1), (.mv (.tmp 21)), none⟩])
    (.seq
     (.region false [⟨(some 22), (.load S1 (.tmp 4)), none⟩,
      ⟨(some 23), (.call 10 [(.tmp 22)]), none⟩,
      ⟨(some 9), (.mv (.tmp 23)), none⟩])
     (.seq
      (.region false [⟨(some 24), (.load S1 (.tmp 4)), none⟩,
       ⟨(some 25), (.call 11 [(.tmp 24)]), none⟩,
       ⟨(some 10), (.mv (.tmp 25)), none⟩])
      (.seq
       (.seq
        (.region false [⟨(some 26), (.load S1 (.tmp 4)), none⟩,
         ⟨(some 27), (.call 12 [(.tmp 26)]), none⟩,
         ⟨(some 28), (.mv (.tmp 10)), none⟩,
         ⟨(some 29), (.beq true (.tmp 27) (.tmp 28)), none⟩,
         ⟨(some 30), (.mv (.tmp 29)), none⟩,
         ⟨(some 31), (.mv (.tmp 10)), some (30, false)⟩,
         ⟨(some 32), (.un .not (.tmp 31)), some (30, false)⟩,
         ⟨(some 33), (.mv (.tmp 32)), some (30, false)⟩,
         ⟨(some 34), (.mv (.tmp 9)), some (33, true)⟩,
         ⟨(some 35), (.len (.tmp 34)), some (33, true)⟩,
         ⟨(some 36), (.bin .neq (.tmp 35) (.const (it 0))), some (33, true)⟩,
         ⟨(some 37), (.pick (.tmp 33) (.tmp 36) (.const (.bool false))), some (30, false)⟩,
         ⟨(some 38), (.pick (.tmp 30) (.const (.bool true)) (.tmp 37)), none⟩,
         ⟨(some 39), (.mv (.tmp 38)), none⟩,
         ⟨(some 40), (.mv (.tmp 10)), some (39, false)⟩,
         ⟨(some 41), (.mv (.tmp 40)), some (39, false)⟩,
         ⟨(some 42), (.mv (.tmp 9)), some (41, true)⟩,
         ⟨(some 43), (.load S1 (.tmp 4)), some (41, true)⟩,
         ⟨(some 44), (.call 14 [(.tmp 43)]), some (41, true)⟩,
         ⟨(some 45), (.call 13 [(.tmp 42), (.tmp 44)]), some (41, true)⟩,
         ⟨(some 46), (.un .not (.tmp 45)), some (41, true)⟩,
         ⟨(some 47), (.pick (.tmp 41) (.tmp 46) (.const (.bool false))), some (39, false)⟩,
         ⟨(some 48), (.pick (.tmp 39) (.const (.bool true)) (.tmp 47)), none⟩])
        (.cond (.tmp 48)
         (.seq
          (.region false [⟨(some 8), (.mv (.const (.bool false))), none⟩])
          .ret)
         .skip))
       (.seq
        (.region false [⟨(some 49), (.mv (.tmp 9)), none⟩,
         ⟨(some 50), (.bslice .ref 1 (.raw (.slice none 0 0)) [(0, (.tmp 49))]), none⟩,
         ⟨(some 51), (.call 15 [(.tmp 50)]), none⟩,
         ⟨(some 11), (.mv (.tmp 51)), none⟩])
        (.seq
         (.seq
          (.region false [⟨(some 52), (.mv (.tmp 10)), none⟩])
          (.cond (.tmp 52)
           (.region false [⟨(some 53), (.mv (.tmp 11)), none⟩,
            ⟨(some 54), (.mv (.tmp 2)), none⟩,
            ⟨(some 55), (.bin .rem (.tmp 54) (.const (u8 32#8))), none⟩,
            ⟨(some 56), (.iaddrs L8 (.tmp 53) (.tmp 55)), none⟩,
            ⟨(some 57), (.load L8 (.tmp 56)), none⟩,
            ⟨(some 58), (.mv (.tmp 3)), none⟩,
            ⟨(some 59), (.bin .xor (.tmp 57) (.tmp 58)), none⟩,
            ⟨(some 60), (.iaddrs L8 (.tmp 53) (.tmp 55)), none⟩,
            ⟨none, (.store L8 (.tmp 60) (.tmp 59)), none⟩])
           .skip))
         (.seq
          (.seq
           (.region false [⟨(some 61), (.mv (.tmp 1)), none⟩,
            ⟨(some 62), (.mv (.tmp 11)), none⟩,
            ⟨(some 63), (.mv (.tmp 9)), none⟩,
            ⟨(some 64), (.mv (.tmp 9)), none⟩,
            ⟨(some 65), (.mv (.tmp 1)), none⟩,
            ⟨(some 66), (.bslice .ref 2 (.raw (.slice none 0 0)) [(0, (.tmp 64)), (1, (.tmp 65))]), none⟩,
            ⟨(some 67), (.call 15 [(.tmp 66)]), none⟩,
            ⟨(some 68), (.bslice .ref 4 (.raw (.slice none 0 0)) [(0, (.tmp 61)), (1, (.tmp 62)), (2, (.tmp 63)), (3, (.tmp 67))]), none⟩,
            ⟨(some 69), (.len (.tmp 68)), none⟩,
            ⟨(some 70), (.mv (.const (it 0))), none⟩])
           (.block 0
            (.loop
             (.seq
              (.region false [⟨(some 71), (.bin .lss (.tmp 70) (.tmp 69)), none⟩])
              (.seq
               (.cond (.tmp 71)
                .skip
                (.exit 0))
               (.seq
                (.block 1
                 (.seq
                  (.region false [⟨(some 72), (.iaddrs .ref (.tmp 68) (.tmp 70)), none⟩,
                   ⟨(some 73), (.load .ref (.tmp 72)), none⟩,
                   ⟨(some 13), (.mv (.tmp 73)), none⟩])
                  (.seq
                   (.region false [⟨(some 75), (.mv (.tmp 13)), none⟩,
                    ⟨(some 76), (.call 16 [(.tmp 75)]), none⟩,
                    ⟨(some 74), (.mv (.tmp 76)), none⟩,
                    ⟨(some 77), (.ext (.tmp 74) 0), none⟩,
                    ⟨(some 78), (.ext (.tmp 74) 1), none⟩,
                    ⟨(some 14), (.alloc S1 (.agg S1 [(.raw (u32 0#32)), (.raw (it 0)), (.raw (it 0)), (.raw (it 0))])), none⟩,
                    ⟨none, (.store S1 (.tmp 14) (.tmp 77)), none⟩,
                    ⟨(some 15), (.mv (.tmp 78)), none⟩])
                   (.seq
                    (.region false [⟨(some 80), (.mv (.tmp 13)), none⟩,
                     ⟨(some 81), (.call 17 [(.tmp 80)]), none⟩,
                     ⟨(some 79), (.mv (.tmp 81)), none⟩,
                     ⟨(some 82), (.ext (.tmp 79) 0), none⟩,
                     ⟨(some 83), (.ext (.tmp 79) 1), none⟩,
                     ⟨(some 16), (.alloc S1 (.agg S1 [(.raw (u32 0#32)), (.raw (it 0)), (.raw (it 0)), (.raw (it 0))])), none⟩,
                     ⟨none, (.store S1 (.tmp 16) (.tmp 82)), none⟩,
                     ⟨(some 17), (.mv (.tmp 83)), none⟩])
                    (.seq
                     (.region false [⟨(some 84), (.mv (.tmp 15)), none⟩,
                      ⟨(some 85), (.mv (.tmp 17)), none⟩,
                      ⟨(some 86), (.beq true (.tmp 84) (.tmp 85)), none⟩,
                      ⟨(some 87), (.mv (.tmp 86)), none⟩,
                      ⟨(some 88), (.load S1 (.tmp 14)), some (87, false)⟩,
                      ⟨(some 89), (.load S1 (.tmp 16)), some (87, false)⟩,
                      ⟨(some 90), (.eqa S1 true (.tmp 88) (.tmp 89)), some (87, false)⟩,
                      ⟨(some 91), (.pick (.tmp 87) (.const (.bool true)) (.tmp 90)), none⟩])
                     (.cond (.tmp 91)
                      (.seq
                       (.region false [⟨(some 8), (.mv (.const (.bool false))), none⟩])
                       .ret)
                      .skip))))))
                (.region false [⟨(some 92), (.bin .add (.tmp 70) (.const (it 1))), none⟩,
                 ⟨(some 70), (.mv (.tmp 92)), none⟩])))))))
          (.seq
           (.region false [⟨(some 8), (.mv (.const (.bool true))), none⟩])
           .ret))))))))))
def r_law22_JournalForms : List ARes := [(.tmp 8)]
theorem c_law22_JournalForms : o2 Go.Proofs.Tryd.f3.body (comp Go.Proofs.Tryd.prog Go.Proofs.Tryd.f3.ntmps) = some a_law22_JournalForms := by kernel_rfl
theorem s_law22_JournalForms : cRess Go.Proofs.Tryd.prog Go.Proofs.Tryd.f3.results.toList = some r_law22_JournalForms := by kernel_rfl
theorem m_law22_JournalForms (C : Ctx) (hC : CtxOK C Go.Proofs.Tryd.prog) : Meets C.glob Go.Proofs.Tryd.prog 3 (afun C 4 r_law22_JournalForms a_law22_JournalForms) :=
  fn_sound hC Go.Proofs.Tryd.func3 c_law22_JournalForms s_law22_JournalForms (Nat.le_of_ble_eq_true (by kernel_rfl))

/-- curtilage/curtilagelaw22.JournalGoes -/
def a_law22_JournalGoes : ACode :=
 (.seq
  (.region false [⟨(some 2), (.mv (.const (.bool false))), none⟩])
  (.seq
   (.seq
    (.region false [⟨(some 15), (.call 8 []), none⟩,
     ⟨(some 16), (.un .not (.tmp 15)), none⟩])
    (.cond (.tmp 16)
     (.seq
      (.region false [⟨(some 2), (.mv (.const (.bool false))), none⟩])
      .ret)
     .skip))
   (.seq
    (.region false [⟨(some 18), (.call 18 [(.const (it 40))]), none⟩,
     ⟨(some 17), (.mv (.tmp 18)), none⟩,
     ⟨(some 19), (.ext (.tmp 17) 0), none⟩,
     ⟨(some 20), (.ext (.tmp 17) 1), none⟩,
     ⟨(some 3), (.mv (.tmp 19)), none⟩,
     ⟨(some 4), (.mv (.tmp 20)), none⟩])
    (.seq
     (.region false [⟨(some 5), (.mv (.const (u32 0#32))), none⟩])
     (.seq
      (.region false [⟨(some 21), (.call 19 []), none⟩,
       ⟨(some 6), (.alloc S1 (.agg S1 [(.raw (u32 0#32)), (.raw (it 0)), (.raw (it 0)), (.raw (it 0))])), none⟩,
       ⟨none, (.store S1 (.tmp 6) (.tmp 21)), none⟩])
      (.seq
       (.seq
        (.region false [⟨(some 22), (.mv (.tmp 0)), none⟩,
         ⟨(some 23), (.len (.tmp 22)), none⟩,
         ⟨(some 24), (.mv (.const (it 0))), none⟩])
        (.block 0
         (.loop
          (.seq
           (.region false [⟨(some 25), (.bin .lss (.tmp 24) (.tmp 23)), none⟩])
           (.seq
            (.cond (.tmp 25)
             .skip
             (.exit 0))
            (.seq
             (.block 1
              (.seq
               (.region false [⟨(some 26), (.mv (.tmp 24)), none⟩,
                ⟨(some 27), (.iaddrs S1 (.tmp 22) (.tmp 24)), none⟩,
                ⟨(some 28), (.load S1 (.tmp 27)), none⟩,
                ⟨(some 8), (.alloc S1 (.agg S1 [(.raw (u32 0#32)), (.raw (it 0)), (.raw (it 0)), (.raw (it 0))])), none⟩,
                ⟨(some 7), (.mv (.tmp 26)), none⟩,
                ⟨none, (.store S1 (.tmp 8) (.tmp 28)), none⟩])
               (.seq
                (.seq
                 (.region false [⟨(some 29), (.mv (.tmp 7)), none⟩,
                  ⟨(some 30), (.bin .geq (.tmp 29) (.const (it 10))), none⟩])
                 (.cond (.tmp 30)
                  (.exit 0)
                  .skip))
                (.seq
                 (.region false [⟨(some 31), (.mv (.tmp 3)), none⟩,
                  ⟨(some 32), (.load S1 (.tmp 8)), none⟩,
                  ⟨(some 33), (.call 20 [(.tmp 31), (.tmp 32)]), none⟩,
                  ⟨(some 9), (.mv (.tmp 33)), none⟩])
                 (.seq
                  (.seq
                   (.region false [⟨(some 34), (.load S1 (.tmp 8)), none⟩,
                    ⟨(some 35), (.call 11 [(.tmp 34)]), none⟩,
                    ⟨(some 36), (.un .not (.tmp 35)), none⟩])
                   (.cond (.tmp 36)
                    (.seq
                     (.seq
                      (.region false [⟨(some 37), (.mv (.tmp 9)), none⟩,
                       ⟨(some 38), (.len (.tmp 37)), none⟩,
                       ⟨(some 39), (.bin .neq (.tmp 38) (.const (it 0))), none⟩])
                      (.cond (.tmp 39)
                       (.seq
                        (.region false [⟨(some 2), (.mv (.const (.bool false))), none⟩])
                        .ret)
                       .skip))
                     (.exit 1))
                    .skip))
                  (.seq
                   (.region false [⟨(some 40), (.mv (.tmp 5)), none⟩,
                    ⟨(some 41), (.bin .add (.tmp 40) (.const (u32 1#32))), none⟩,
                    ⟨(some 5), (.mv (.tmp 41)), none⟩])
                   (.seq
                    (.region false [⟨(some 42), (.mv (.tmp 5)), none⟩,
                     ⟨(some 43), (.faddr S1 (.tmp 8) 0), none⟩,
                     ⟨none, (.store L32 (.tmp 43) (.tmp 42)), none⟩])
                    (.seq
                     (.region false [⟨(some 44), (.load S1 (.tmp 6)), none⟩,
                      ⟨(some 10), (.alloc S1 (.agg S1 [(.raw (u32 0#32)), (.raw (it 0)), (.raw (it 0)), (.raw (it 0))])), none⟩,
                      ⟨none, (.store S1 (.tmp 10) (.tmp 44)), none⟩])
                     (.seq
                      (.seq
                       (.region false [⟨(some 45), (.mv (.tmp 3)), none⟩,
                        ⟨(some 46), (.mv (.tmp 9)), none⟩,
                        ⟨(some 47), (.call 21 [(.tmp 45), (.const (.pointer none)), (.tmp 46)]), none⟩,
                        ⟨(some 48), (.bin .neq (.tmp 47) (.const (it 0))), none⟩])
                       (.cond (.tmp 48)
                        (.seq
                         (.region false [⟨(some 2), (.mv (.const (.bool false))), none⟩])
                         .ret)
                        .skip))
                      (.seq
                       (.region false [⟨(some 50), (.mv (.tmp 3)), none⟩,
                        ⟨(some 51), (.call 22 [(.tmp 50)]), none⟩,
                        ⟨(some 49), (.mv (.tmp 51)), none⟩,
                        ⟨(some 52), (.ext (.tmp 49) 0), none⟩,
                        ⟨(some 53), (.ext (.tmp 49) 1), none⟩,
                        ⟨(some 11), (.alloc S1 (.agg S1 [(.raw (u32 0#32)), (.raw (it 0)), (.raw (it 0)), (.raw (it 0))])), none⟩,
                        ⟨none, (.store S1 (.tmp 11) (.tmp 52)), none⟩,
                        ⟨(some 12), (.mv (.tmp 53)), none⟩])
                       (.seq
                        (.region false [⟨(some 55), (.mv (.tmp 3)), none⟩,
                         ⟨(some 56), (.mv (.tmp 12)), none⟩,
                         ⟨(some 57), (.bin .sub (.const (it 65)) (.tmp 56)), none⟩,
                         ⟨(some 58), (.bslice LI 1 (.raw (it 0)) [(0, (.tmp 57))]), none⟩,
                         ⟨(some 59), (.call 23 [(.tmp 55), (.tmp 58)]), none⟩,
                         ⟨(some 60), (.slice L8 (.tmp 59) none (some (.const (it 32))) none), none⟩,
                         ⟨(some 61), (.call 16 [(.tmp 60)]), none⟩,
                         ⟨(some 54), (.mv (.tmp 61)), none⟩,
                         ⟨(some 62), (.ext (.tmp 54) 0), none⟩,
                         ⟨(some 63), (.ext (.tmp 54) 1), none⟩,
                         ⟨(some 13), (.alloc S1 (.agg S1 [(.raw (u32 0#32)), (.raw (it 0)), (.raw (it 0)), (.raw (it 0))])), none⟩,
                         ⟨none, (.store S1 (.tmp 13) (.tmp 62)), none⟩,
                         ⟨(some 14), (.mv (.tmp 63)), none⟩])
                        (.seq
                         (.seq
                          (.region false [⟨(some 64), (.load S1 (.tmp 11)), none⟩,
                           ⟨(some 65), (.load S1 (.tmp 8)), none⟩,
                           ⟨(some 66), (.eqa S1 true (.tmp 64) (.tmp 65)), none⟩,
                           ⟨(some 67), (.mv (.tmp 66)), none⟩,
                           ⟨(some 68), (.mv (.tmp 12)), some (67, false)⟩,
                           ⟨(some 69), (.mv (.tmp 5)), some (67, false)⟩,
                           ⟨(some 70), (.bin .rem (.tmp 69) (.const (u32 2#32))), some (67, false)⟩,
                           ⟨(some 71), (.conv .i64 (.tmp 70)), some (67, false)⟩,
                           ⟨(some 72), (.bin .sub (.const (it 33)) (.tmp 71)), some (67, false)⟩,
                           ⟨(some 73), (.bin .neq (.tmp 68) (.tmp 72)), some (67, false)⟩,
                           ⟨(some 74), (.pick (.tmp 67) (.const (.bool true)) (.tmp 73)), none⟩,
                           ⟨(some 75), (.mv (.tmp 74)), none⟩,
                           ⟨(some 76), (.mv (.tmp 14)), some (75, false)⟩,
                           ⟨(some 77), (.mv (.tmp 5)), some (75, false)⟩,
                           ⟨(some 78), (.bin .gtr (.tmp 77) (.const (u32 1#32))), some (75, false)⟩,
                           ⟨(some 79), (.beq true (.tmp 76) (.tmp 78)), some (75, false)⟩,
                           ⟨(some 80), (.pick (.tmp 75) (.const (.bool true)) (.tmp 79)), none⟩,
                           ⟨(some 81), (.mv (.tmp 80)), none⟩,
                           ⟨(some 82), (.mv (.tmp 14)), some (81, false)⟩,
                           ⟨(some 83), (.mv (.tmp 82)), some (81, false)⟩,
                           ⟨(some 84), (.load S1 (.tmp 13)), some (83, true)⟩,
                           ⟨(some 85), (.load S1 (.tmp 10)), some (83, true)⟩,
                           ⟨(some 86), (.eqa S1 true (.tmp 84) (.tmp 85)), some (83, true)⟩,
                           ⟨(some 87), (.pick (.tmp 83) (.tmp 86) (.const (.bool false))), some (81, false)⟩,
                           ⟨(some 88), (.pick (.tmp 81) (.const (.bool true)) (.tmp 87)), none⟩])
                          (.cond (.tmp 88)
                           (.seq
                            (.region false [⟨(some 2), (.mv (.const (.bool false))), none⟩])
                            .ret)
                           .skip))
                         (.region false [⟨(some 89), (.load S1 (.tmp 11)), none⟩,
                          ⟨none, (.store S1 (.tmp 6) (.tmp 89)), none⟩])))))))))))))
             (.region false [⟨(some 90), (.bin .add (.tmp 24) (.const (it 1))), none⟩,
              ⟨(some 24), (.mv (.tmp 90)), none⟩])))))))
       (.seq
        (.region false [⟨(some 2), (.mv (.const (.bool true))), none⟩])
        .ret)))))))
def r_law22_JournalGoes : List ARes := [(.tmp 2)]
theorem c_law22_JournalGoes : o2 Go.Proofs.Tryd.f4.body (comp Go.Proofs.Tryd.prog Go.Proofs.Tryd.f4.ntmps) = some a_law22_JournalGoes := by kernel_rfl
theorem s_law22_JournalGoes : cRess Go.Proofs.Tryd.prog Go.Proofs.Tryd.f4.results.toList = some r_law22_JournalGoes := by kernel_rfl
theorem m_law22_JournalGoes (C : Ctx) (hC : CtxOK C Go.Proofs.Tryd.prog) : Meets C.glob Go.Proofs.Tryd.prog 4 (afun C 1 r_law22_JournalGoes a_law22_JournalGoes) :=
  fn_sound hC Go.Proofs.Tryd.func4 c_law22_JournalGoes s_law22_JournalGoes (Nat.le_of_ble_eq_true (by kernel_rfl))

/-- curtilage/curtilagelaw22.JournalReads -/
def a_law22_JournalReads : ACode :=
 (.seq
  (.region false [⟨(some 7), (.box S1 (.tmp 2)), none⟩,
   ⟨(some 8), (.box S1 (.tmp 3)), none⟩,
   ⟨(some 10), (.mv (.const (.bool false))), none⟩])
  (.seq
   (.seq
    (.region false [⟨(some 18), (.call 8 []), none⟩,
     ⟨(some 19), (.un .not (.tmp 18)), none⟩])
    (.cond (.tmp 19)
     (.seq
      (.region false [⟨(some 10), (.mv (.const (.bool false))), none⟩])
      .ret)
     .skip))
   (.seq
    (.seq
     (.region false [⟨(some 20), (.mv (.tmp 4)), none⟩,
      ⟨(some 21), (.bin .rem (.tmp 20) (.const (u8 2#8))), none⟩,
      ⟨(some 22), (.bin .eql (.tmp 21) (.const (u8 1#8))), none⟩])
     (.cond (.tmp 22)
      (.region false [⟨(some 23), (.load S1 (.tmp 7)), none⟩,
       ⟨(some 24), (.call 10 [(.tmp 23)]), none⟩,
       ⟨(some 25), (.mv (.tmp 0)), none⟩,
       ⟨(some 26), (.call 9 [(.tmp 25), (.const (it 20))]), none⟩,
       ⟨(some 27), (.bslice .ref 2 (.raw (.slice none 0 0)) [(0, (.tmp 24)), (1, (.tmp 26))]), none⟩,
       ⟨(some 28), (.call 15 [(.tmp 27)]), none⟩,
       ⟨(some 0), (.mv (.tmp 28)), none⟩])
      .skip))
    (.seq
     (.seq
      (.region false [⟨(some 29), (.mv (.tmp 4)), none⟩,
       ⟨(some 30), (.bin .quo (.tmp 29) (.const (u8 2#8))), none⟩,
       ⟨(some 31), (.bin .rem (.tmp 30) (.const (u8 2#8))), none⟩,
       ⟨(some 32), (.bin .eql (.tmp 31) (.const (u8 1#8))), none⟩])
      (.cond (.tmp 32)
       (.region false [⟨(some 33), (.load S1 (.tmp 8)), none⟩,
        ⟨(some 34), (.call 10 [(.tmp 33)]), none⟩,
        ⟨(some 35), (.mv (.tmp 1)), none⟩,
        ⟨(some 36), (.call 9 [(.tmp 35), (.const (it 20))]), none⟩,
        ⟨(some 37), (.bslice .ref 2 (.raw (.slice none 0 0)) [(0, (.tmp 34)), (1, (.tmp 36))]), none⟩,
        ⟨(some 38), (.call 15 [(.tmp 37)]), none⟩,
        ⟨(some 1), (.mv (.tmp 38)), none⟩])
       .skip))
     (.seq
      (.region false [⟨(some 39), (.mv (.tmp 0)), none⟩,
       ⟨(some 40), (.mv (.tmp 1)), none⟩,
       ⟨(some 41), (.call 24 [(.tmp 39), (.tmp 40)]), none⟩,
       ⟨(some 11), (.mv (.tmp 41)), none⟩])
      (.seq
       (.region false [⟨(some 43), (.mv (.tmp 11)), none⟩,
        ⟨(some 44), (.call 22 [(.tmp 43)]), none⟩,
        ⟨(some 42), (.mv (.tmp 44)), none⟩,
        ⟨(some 45), (.ext (.tmp 42) 0), none⟩,
        ⟨(some 46), (.ext (.tmp 42) 1), none⟩,
        ⟨(some 12), (.alloc S1 (.agg S1 [(.raw (u32 0#32)), (.raw (it 0)), (.raw (it 0)), (.raw (it 0))])), none⟩,
        ⟨none, (.store S1 (.tmp 12) (.tmp 45)), none⟩,
        ⟨(some 13), (.mv (.tmp 46)), none⟩])
       (.seq
        (.region false [⟨(some 48), (.mv (.tmp 11)), none⟩,
         ⟨(some 49), (.call 26 [(.tmp 48)]), none⟩,
         ⟨(some 50), (.call 25 [(.tmp 49)]), none⟩,
         ⟨(some 47), (.mv (.tmp 50)), none⟩,
         ⟨(some 51), (.ext (.tmp 47) 0), none⟩,
         ⟨(some 52), (.ext (.tmp 47) 1), none⟩,
         ⟨(some 14), (.alloc S1 (.agg S1 [(.raw (u32 0#32)), (.raw (it 0)), (.raw (it 0)), (.raw (it 0))])), none⟩,
         ⟨none, (.store S1 (.tmp 14) (.tmp 51)), none⟩,
         ⟨(some 15), (.mv (.tmp 52)), none⟩])
        (.seq
         (.region false [⟨(some 54), (.call 22 [(.const (.pointer none))]), none⟩,
          ⟨(some 53), (.mv (.tmp 54)), none⟩,
          ⟨(some 55), (.ext (.tmp 53) 0), none⟩,
          ⟨(some 56), (.ext (.tmp 53) 1), none⟩,
          ⟨(some 16), (.alloc S1 (.agg S1 [(.raw (u32 0#32)), (.raw (it 0)), (.raw (it 0)), (.raw (it 0))])), none⟩,
          ⟨none, (.store S1 (.tmp 16) (.tmp 55)), none⟩,
          ⟨(some 17), (.mv (.tmp 56)), none⟩])
         (.seq
          (.region true [⟨(some 57), (.load S1 (.tmp 12)), none⟩,
           ⟨(some 58), (.load S1 (.tmp 14)), none⟩,
           ⟨(some 59), (.eqa S1 false (.tmp 57) (.tmp 58)), none⟩,
           ⟨(some 60), (.mv (.tmp 59)), none⟩,
           ⟨(some 61), (.mv (.tmp 13)), some (60, true)⟩,
           ⟨(some 62), (.mv (.tmp 15)), some (60, true)⟩,
           ⟨(some 63), (.bin .eql (.tmp 61) (.tmp 62)), some (60, true)⟩,
           ⟨(some 64), (.pick (.tmp 60) (.tmp 63) (.const (.bool false))), none⟩,
           ⟨(some 65), (.mv (.tmp 64)), none⟩,
           ⟨(some 66), (.load S1 (.tmp 16)), some (65, true)⟩,
           ⟨(some 67), (.call 19 []), some (65, true)⟩,
           ⟨(some 68), (.eqa S1 false (.tmp 66) (.tmp 67)), some (65, true)⟩,
           ⟨(some 69), (.pick (.tmp 65) (.tmp 68) (.const (.bool false))), none⟩,
           ⟨(some 70), (.mv (.tmp 69)), none⟩,
           ⟨(some 71), (.mv (.tmp 17)), some (70, true)⟩,
           ⟨(some 72), (.bin .eql (.tmp 71) (.const (it (-1)))), some (70, true)⟩,
           ⟨(some 73), (.pick (.tmp 70) (.tmp 72) (.const (.bool false))), none⟩,
           ⟨(some 10), (.mv (.tmp 73)), none⟩])
          .ret)))))))))
def r_law22_JournalReads : List ARes := [(.tmp 10)]
theorem c_law22_JournalReads : o2 Go.Proofs.Tryd.f5.body (comp Go.Proofs.Tryd.prog Go.Proofs.Tryd.f5.ntmps) = some a_law22_JournalReads := by kernel_rfl
theorem s_law22_JournalReads : cRess Go.Proofs.Tryd.prog Go.Proofs.Tryd.f5.results.toList = some r_law22_JournalReads := by kernel_rfl
theorem m_law22_JournalReads (C : Ctx) (hC : CtxOK C Go.Proofs.Tryd.prog) : Meets C.glob Go.Proofs.Tryd.prog 5 (afun C 5 r_law22_JournalReads a_law22_JournalReads) :=
  fn_sound hC Go.Proofs.Tryd.func5 c_law22_JournalReads s_law22_JournalReads (Nat.le_of_ble_eq_true (by kernel_rfl))

/-- curtilage/curtilagelaw22.JournalNext -/
def a_law22_JournalNext : ACode :=
 (.seq
  (.region false [⟨(some 6), (.box S1 (.tmp 1)), none⟩,
   ⟨(some 7), (.box S1 (.tmp 2)), none⟩,
   ⟨(some 8), (.box S1 (.tmp 3)), none⟩,
   ⟨(some 10), (.mv (.const (.bool false))), none⟩])
  (.seq
   (.seq
    (.region false [⟨(some 21), (.call 8 []), none⟩,
     ⟨(some 22), (.un .not (.tmp 21)), none⟩])
    (.cond (.tmp 22)
     (.seq
      (.region false [⟨(some 10), (.mv (.const (.bool false))), none⟩])
      .ret)
     .skip))
   (.seq
    (.region false [⟨(some 11), (.mv (.const (.slice none 0 0))), none⟩])
    (.seq
     (.seq
      (.region false [⟨(some 23), (.mv (.tmp 4)), none⟩,
       ⟨(some 24), (.bin .rem (.tmp 23) (.const (u8 2#8))), none⟩,
       ⟨(some 25), (.bin .eql (.tmp 24) (.const (u8 1#8))), none⟩])
      (.cond (.tmp 25)
       (.region false [⟨(some 26), (.load S1 (.tmp 6)), none⟩,
        ⟨(some 27), (.call 10 [(.tmp 26)]), none⟩,
        ⟨(some 0), (.mv (.tmp 27)), none⟩])
       .skip))
     (.seq
      (.seq
       (.region false [⟨(some 28), (.mv (.tmp 4)), none⟩,
        ⟨(some 29), (.bin .quo (.tmp 28) (.const (u8 2#8))), none⟩,
        ⟨(some 30), (.bin .rem (.tmp 29) (.const (u8 2#8))), none⟩,
        ⟨(some 31), (.bin .eql (.tmp 30) (.const (u8 1#8))), none⟩])
       (.cond (.tmp 31)
        (.region false [⟨(some 32), (.load S1 (.tmp 7)), none⟩,
         ⟨(some 33), (.call 10 [(.tmp 32)]), none⟩,
         ⟨(some 11), (.mv (.tmp 33)), none⟩])
        .skip))
      (.seq
       (.region false [⟨(some 34), (.mv (.tmp 0)), none⟩,
        ⟨(some 35), (.mv (.tmp 11)), none⟩,
        ⟨(some 36), (.call 24 [(.tmp 34), (.tmp 35)]), none⟩,
        ⟨(some 12), (.mv (.tmp 36)), none⟩])
       (.seq
        (.region false [⟨(some 37), (.mv (.tmp 12)), none⟩,
         ⟨(some 38), (.call 26 [(.tmp 37)]), none⟩,
         ⟨(some 13), (.mv (.tmp 38)), none⟩])
        (.seq
         (.region false [⟨(some 40), (.mv (.tmp 13)), none⟩,
          ⟨(some 41), (.call 25 [(.tmp 40)]), none⟩,
          ⟨(some 39), (.mv (.tmp 41)), none⟩,
          ⟨(some 42), (.ext (.tmp 39) 0), none⟩,
          ⟨(some 43), (.ext (.tmp 39) 1), none⟩,
          ⟨(some 14), (.alloc S1 (.agg S1 [(.raw (u32 0#32)), (.raw (it 0)), (.raw (it 0)), (.raw (it 0))])), none⟩,
          ⟨none, (.store S1 (.tmp 14) (.tmp 42)), none⟩,
          ⟨(some 15), (.mv (.tmp 43)), none⟩])
         (.seq
          (.region false [⟨(some 44), (.mv (.tmp 12)), none⟩,
           ⟨(some 45), (.load S1 (.tmp 8)), none⟩,
           ⟨(some 46), (.call 20 [(.tmp 44), (.tmp 45)]), none⟩,
           ⟨(some 16), (.mv (.tmp 46)), none⟩])
          (.seq
           (.seq
            (.region false [⟨(some 47), (.load S1 (.tmp 8)), none⟩,
             ⟨(some 48), (.call 11 [(.tmp 47)]), none⟩,
             ⟨(some 49), (.un .not (.tmp 48)), none⟩,
             ⟨(some 50), (.mv (.tmp 49)), none⟩,
             ⟨(some 51), (.faddr S1 (.tmp 14) 0), some (50, false)⟩,
             ⟨(some 52), (.load L32 (.tmp 51)), some (50, false)⟩,
             ⟨(some 53), (.bin .eql (.tmp 52) (.const (u32 4294967295#32))), some (50, false)⟩,
             ⟨(some 54), (.pick (.tmp 50) (.const (.bool true)) (.tmp 53)), none⟩])
            (.cond (.tmp 54)
             (.seq
              (.region false [⟨(some 55), (.mv (.tmp 16)), none⟩,
               ⟨(some 56), (.len (.tmp 55)), none⟩,
               ⟨(some 57), (.bin .eql (.tmp 56) (.const (it 0))), none⟩,
               ⟨(some 10), (.mv (.tmp 57)), none⟩])
              .ret)
             .skip))
           (.seq
            (.seq
             (.region false [⟨(some 58), (.mv (.tmp 12)), none⟩,
              ⟨(some 59), (.mv (.tmp 16)), none⟩,
              ⟨(some 60), (.call 21 [(.tmp 58), (.const (.pointer none)), (.tmp 59)]), none⟩,
              ⟨(some 61), (.bin .neq (.tmp 60) (.const (it 0))), none⟩])
             (.cond (.tmp 61)
              (.seq
               (.region false [⟨(some 10), (.mv (.const (.bool false))), none⟩])
               .ret)
              .skip))
            (.seq
             (.region false [⟨(some 62), (.mv (.tmp 12)), none⟩,
              ⟨(some 63), (.call 26 [(.tmp 62)]), none⟩,
              ⟨(some 17), (.mv (.tmp 63)), none⟩])
             (.seq
              (.region false [⟨(some 65), (.mv (.tmp 17)), none⟩,
               ⟨(some 66), (.call 25 [(.tmp 65)]), none⟩,
               ⟨(some 64), (.mv (.tmp 66)), none⟩,
               ⟨(some 67), (.ext (.tmp 64) 0), none⟩,
               ⟨(some 68), (.ext (.tmp 64) 1), none⟩,
               ⟨(some 18), (.alloc S1 (.agg S1 [(.raw (u32 0#32)), (.raw (it 0)), (.raw (it 0)), (.raw (it 0))])), none⟩,
               ⟨none, (.store S1 (.tmp 18) (.tmp 67)), none⟩,
               ⟨(some 19), (.mv (.tmp 68)), none⟩])
              (.seq
               (.region false [⟨(some 69), (.faddr S1 (.tmp 14) 0), none⟩,
                ⟨(some 70), (.load L32 (.tmp 69)), none⟩,
                ⟨(some 71), (.bin .add (.tmp 70) (.const (u32 1#32))), none⟩,
                ⟨(some 72), (.faddr S1 (.tmp 8) 0), none⟩,
                ⟨none, (.store L32 (.tmp 72) (.tmp 71)), none⟩])
               (.seq
                (.region false [⟨(some 20), (.mv (.const (it 32))), none⟩])
                (.seq
                 (.seq
                  (.region false [⟨(some 73), (.mv (.tmp 15)), none⟩,
                   ⟨(some 74), (.bin .eql (.tmp 73) (.const (it 32))), none⟩])
                  (.cond (.tmp 74)
                   (.region false [⟨(some 20), (.mv (.const (it 33))), none⟩])
                   .skip))
                 (.seq
                  (.draw1 [⟨(some 75), (.load S1 (.tmp 18)), none⟩,
                   ⟨(some 76), (.load S1 (.tmp 8)), none⟩,
                   ⟨(some 77), (.eqa S1 false (.tmp 75) (.tmp 76)), none⟩,
                   ⟨(some 78), (.mv (.tmp 77)), none⟩,
                   ⟨(some 79), (.mv (.tmp 19)), some (78, true)⟩,
                   ⟨(some 80), (.mv (.tmp 20)), some (78, true)⟩,
                   ⟨(some 81), (.bin .eql (.tmp 79) (.tmp 80)), some (78, true)⟩,
                   ⟨(some 82), (.pick (.tmp 78) (.tmp 81) (.const (.bool false))), none⟩,
                   ⟨(some 83), (.mv (.tmp 82)), none⟩,
                   ⟨(some 84), (.mv (.tmp 13)), some (83, true)⟩,
                   ⟨(some 85), (.slice L8 (.tmp 84) none (some (.const (it 8192))) none), some (83, true)⟩,
                   ⟨(some 86), (.mv (.tmp 17)), some (83, true)⟩,
                   ⟨(some 87), (.slice L8 (.tmp 86) none (some (.const (it 8192))) none), some (83, true)⟩,
                   ⟨(some 88), (.call 13 [(.tmp 85), (.tmp 87)]), some (83, true)⟩,
                   ⟨(some 89), (.pick (.tmp 83) (.tmp 88) (.const (.bool false))), none⟩,
                   ⟨(some 90), (.mv (.tmp 89)), none⟩,
                   ⟨(some 91), (.mv (.tmp 13)), some (90, true)⟩,
                   ⟨(some 92), (.slice L8 (.tmp 91) (some (.const (it 8704))) none none), some (90, true)⟩,
                   ⟨(some 93), (.mv (.tmp 17)), some (90, true)⟩,
                   ⟨(some 94), (.slice L8 (.tmp 93) (some (.const (it 8704))) none none), some (90, true)⟩,
                   ⟨(some 95), (.call 13 [(.tmp 92), (.tmp 94)]), some (90, true)⟩,
                   ⟨(some 96), (.pick (.tmp 90) (.tmp 95) (.const (.bool false))), none⟩,
                   ⟨(some 97), (.mv (.tmp 96)), none⟩,
                   ⟨(some 98), (.mv (.tmp 13)), some (97, true)⟩,
                   ⟨(some 99), (.mv (.tmp 20)), some (97, true)⟩,
                   ⟨(some 100), (.bin .sub (.const (it 65)) (.tmp 99)), some (97, true)⟩,
                   ⟨(some 101), (.bin .mul (.tmp 100) (.const (it 256))), some (97, true)⟩,
                   ⟨(some 102), (.mv (.tmp 20)), some (97, true)⟩,
                   ⟨(some 103), (.bin .sub (.const (it 66)) (.tmp 102)), some (97, true)⟩,
                   ⟨(some 104), (.bin .mul (.tmp 103) (.const (it 256))), some (97, true)⟩,
                   ⟨(some 105), (.slice L8 (.tmp 98) (some (.tmp 101)) (some (.tmp 104)) none), some (97, true)⟩,
                   ⟨(some 106), (.mv (.tmp 17)), some (97, true)⟩,
                   ⟨(some 107), (.mv (.tmp 20)), some (97, true)⟩,
                   ⟨(some 108), (.bin .sub (.const (it 65)) (.tmp 107)), some (97, true)⟩,
                   ⟨(some 109), (.bin .mul (.tmp 108) (.const (it 256))), some (97, true)⟩,
                   ⟨(some 110), (.mv (.tmp 20)), some (97, true)⟩,
                   ⟨(some 111), (.bin .sub (.const (it 66)) (.tmp 110)), some (97, true)⟩,
                   ⟨(some 112), (.bin .mul (.tmp 111) (.const (it 256))), some (97, true)⟩,
                   ⟨(some 113), (.slice L8 (.tmp 106) (some (.tmp 109)) (some (.tmp 112)) none), some (97, true)⟩]
                   [⟨(some 114), (.call 13 [(.tmp 105), (.tmp 113)]), some (97, true)⟩,
                   ⟨(some 115), (.pick (.tmp 97) (.tmp 114) (.const (.bool false))), none⟩,
                   ⟨(some 10), (.mv (.tmp 115)), none⟩])
                  .ret)))))))))))))))))
def r_law22_JournalNext : List ARes := [(.tmp 10)]
theorem c_law22_JournalNext : o2 Go.Proofs.Tryd.f6.body (comp Go.Proofs.Tryd.prog Go.Proofs.Tryd.f6.ntmps) = some a_law22_JournalNext := by kernel_rfl
theorem s_law22_JournalNext : cRess Go.Proofs.Tryd.prog Go.Proofs.Tryd.f6.results.toList = some r_law22_JournalNext := by kernel_rfl
theorem m_law22_JournalNext (C : Ctx) (hC : CtxOK C Go.Proofs.Tryd.prog) : Meets C.glob Go.Proofs.Tryd.prog 6 (afun C 5 r_law22_JournalNext a_law22_JournalNext) :=
  fn_sound hC Go.Proofs.Tryd.func6 c_law22_JournalNext s_law22_JournalNext (Nat.le_of_ble_eq_true (by kernel_rfl))

/-- curtilage/curtilagelaw22.JournalTorn -/
def a_law22_JournalTorn : ACode :=
 (.seq
  (.region false [⟨(some 5), (.box S1 (.tmp 0)), none⟩,
   ⟨(some 6), (.box S1 (.tmp 1)), none⟩,
   ⟨(some 7), (.box S1 (.tmp 2)), none⟩,
   ⟨(some 10), (.mv (.const (.bool false))), none⟩])
  (.seq
   (.seq
    (.region false [⟨(some 25), (.call 8 []), none⟩,
     ⟨(some 26), (.un .not (.tmp 25)), none⟩])
    (.cond (.tmp 26)
     (.seq
      (.region false [⟨(some 10), (.mv (.const (.bool false))), none⟩])
      .ret)
     .skip))
   (.seq
    (.draw1 [⟨(some 27), (.load S1 (.tmp 5)), none⟩,
     ⟨(some 28), (.call 10 [(.tmp 27)]), none⟩,
     ⟨(some 29), (.load S1 (.tmp 6)), none⟩]
     [⟨(some 30), (.call 10 [(.tmp 29)]), none⟩,
     ⟨(some 31), (.call 24 [(.tmp 28), (.tmp 30)]), none⟩,
     ⟨(some 11), (.mv (.tmp 31)), none⟩])
    (.seq
     (.seq
      (.region false [⟨(some 32), (.mv (.tmp 3)), none⟩,
       ⟨(some 33), (.len (.tmp 32)), none⟩,
       ⟨(some 34), (.mv (.const (it 0))), none⟩])
      (.block 0
       (.loop
        (.seq
         (.region false [⟨(some 35), (.bin .lss (.tmp 34) (.tmp 33)), none⟩])
         (.seq
          (.cond (.tmp 35)
           .skip
           (.exit 0))
          (.seq
           (.block 1
            (.seq
             (.region false [⟨(some 36), (.mv (.tmp 34)), none⟩,
              ⟨(some 37), (.iaddrs .ref (.tmp 32) (.tmp 34)), none⟩,
              ⟨(some 38), (.load .ref (.tmp 37)), none⟩,
              ⟨(some 12), (.mv (.tmp 36)), none⟩,
              ⟨(some 13), (.mv (.tmp 38)), none⟩])
             (.seq
              (.seq
               (.region false [⟨(some 39), (.mv (.tmp 12)), none⟩,
                ⟨(some 40), (.bin .geq (.tmp 39) (.const (it 8))), none⟩])
               (.cond (.tmp 40)
                (.exit 0)
                .skip))
              (.seq
               (.region false [⟨(some 42), (.mv (.tmp 11)), none⟩,
                ⟨(some 43), (.call 26 [(.tmp 42)]), none⟩,
                ⟨(some 44), (.call 25 [(.tmp 43)]), none⟩,
                ⟨(some 41), (.mv (.tmp 44)), none⟩,
                ⟨(some 45), (.ext (.tmp 41) 0), none⟩,
                ⟨(some 46), (.ext (.tmp 41) 1), none⟩,
                ⟨(some 14), (.alloc S1 (.agg S1 [(.raw (u32 0#32)), (.raw (it 0)), (.raw (it 0)), (.raw (it 0))])), none⟩,
                ⟨none, (.store S1 (.tmp 14) (.tmp 45)), none⟩,
                ⟨(some 15), (.mv (.tmp 46)), none⟩])
               (.seq
                (.region false [⟨(some 47), (.mv (.tmp 11)), none⟩,
                 ⟨(some 48), (.load S1 (.tmp 7)), none⟩,
                 ⟨(some 49), (.call 20 [(.tmp 47), (.tmp 48)]), none⟩,
                 ⟨(some 16), (.mv (.tmp 49)), none⟩])
                (.seq
                 (.seq
                  (.region false [⟨(some 50), (.mv (.tmp 16)), none⟩,
                   ⟨(some 51), (.len (.tmp 50)), none⟩,
                   ⟨(some 52), (.bin .neq (.tmp 51) (.const (it 2))), none⟩])
                  (.cond (.tmp 52)
                   (.seq
                    (.region false [⟨(some 10), (.mv (.const (.bool true))), none⟩])
                    .ret)
                   .skip))
                 (.seq
                  (.region false [⟨(some 53), (.load S1 (.tmp 7)), none⟩,
                   ⟨(some 17), (.alloc S1 (.agg S1 [(.raw (u32 0#32)), (.raw (it 0)), (.raw (it 0)), (.raw (it 0))])), none⟩,
                   ⟨none, (.store S1 (.tmp 17) (.tmp 53)), none⟩])
                  (.seq
                   (.region false [⟨(some 54), (.faddr S1 (.tmp 14) 0), none⟩,
                    ⟨(some 55), (.load L32 (.tmp 54)), none⟩,
                    ⟨(some 56), (.bin .add (.tmp 55) (.const (u32 1#32))), none⟩,
                    ⟨(some 57), (.faddr S1 (.tmp 17) 0), none⟩,
                    ⟨none, (.store L32 (.tmp 57) (.tmp 56)), none⟩])
                   (.seq
                    (.region false [⟨(some 58), (.mv (.tmp 13)), none⟩,
                     ⟨(some 59), (.call 9 [(.tmp 58), (.const (it 256))]), none⟩,
                     ⟨(some 13), (.mv (.tmp 59)), none⟩])
                    (.seq
                     (.region false [⟨(some 60), (.mv (.tmp 12)), none⟩,
                      ⟨(some 61), (.mv (.tmp 4)), none⟩,
                      ⟨(some 62), (.len (.tmp 61)), none⟩,
                      ⟨(some 63), (.bin .lss (.tmp 60) (.tmp 62)), none⟩,
                      ⟨(some 64), (.mv (.tmp 63)), none⟩,
                      ⟨(some 65), (.mv (.tmp 4)), some (64, true)⟩,
                      ⟨(some 66), (.mv (.tmp 12)), some (64, true)⟩,
                      ⟨(some 67), (.iaddrs LB (.tmp 65) (.tmp 66)), some (64, true)⟩,
                      ⟨(some 68), (.load LB (.tmp 67)), some (64, true)⟩,
                      ⟨(some 69), (.pick (.tmp 64) (.tmp 68) (.const (.bool false))), none⟩,
                      ⟨(some 18), (.mv (.tmp 69)), none⟩])
                     (.seq
                      (.seq
                       (.region false [⟨(some 70), (.mv (.tmp 18)), none⟩,
                        ⟨(some 71), (.mv (.tmp 70)), none⟩,
                        ⟨(some 72), (.mv (.tmp 11)), some (71, true)⟩,
                        ⟨(some 73), (.mv (.tmp 16)), some (71, true)⟩,
                        ⟨(some 74), (.iaddrs S2 (.tmp 73) (.const (it 0))), some (71, true)⟩,
                        ⟨(some 75), (.load S2 (.tmp 74)), some (71, true)⟩,
                        ⟨(some 76), (.bslice S2 1 (.agg S2 [(.raw (u8 0#8)), (.raw (it 0)), (.raw (it 0)), (.raw (.slice none 0 0)), (.raw (it 0)), (.raw (u32 0#32))]) [(0, (.tmp 75))]), some (71, true)⟩,
                        ⟨(some 77), (.call 21 [(.tmp 72), (.const (.pointer none)), (.tmp 76)]), some (71, true)⟩,
                        ⟨(some 78), (.bin .neq (.tmp 77) (.const (it 0))), some (71, true)⟩,
                        ⟨(some 79), (.pick (.tmp 71) (.tmp 78) (.const (.bool false))), none⟩])
                       (.cond (.tmp 79)
                        (.seq
                         (.region false [⟨(some 10), (.mv (.const (.bool false))), none⟩])
                         .ret)
                        .skip))
                      (.seq
                       (.region false [⟨(some 19), (.mv (.const (it 0))), none⟩])
                       (.seq
                        (.seq
                         (.region false [⟨(some 80), (.mv (.tmp 18)), none⟩])
                         (.cond (.tmp 80)
                          (.region false [⟨(some 19), (.mv (.const (it 1))), none⟩])
                          .skip))
                        (.seq
                         (.seq
                          (.region false [⟨(some 81), (.mv (.tmp 11)), none⟩,
                           ⟨(some 82), (.mv (.tmp 16)), none⟩,
                           ⟨(some 83), (.mv (.tmp 19)), none⟩,
                           ⟨(some 84), (.iaddrs S2 (.tmp 82) (.tmp 83)), none⟩,
                           ⟨(some 85), (.load S2 (.tmp 84)), none⟩,
                           ⟨(some 86), (.mv (.tmp 13)), none⟩,
                           ⟨(some 87), (.call 27 [(.tmp 81), (.const (.pointer none)), (.tmp 85), (.tmp 86)]), none⟩,
                           ⟨(some 88), (.bin .neq (.tmp 87) (.const (it 0))), none⟩])
                          (.cond (.tmp 88)
                           (.seq
                            (.region false [⟨(some 10), (.mv (.const (.bool false))), none⟩])
                            .ret)
                           .skip))
                         (.seq
                          (.region false [⟨(some 90), (.mv (.tmp 11)), none⟩,
                           ⟨(some 91), (.call 26 [(.tmp 90)]), none⟩,
                           ⟨(some 92), (.call 25 [(.tmp 91)]), none⟩,
                           ⟨(some 89), (.mv (.tmp 92)), none⟩,
                           ⟨(some 93), (.ext (.tmp 89) 0), none⟩,
                           ⟨(some 94), (.ext (.tmp 89) 1), none⟩,
                           ⟨(some 20), (.alloc S1 (.agg S1 [(.raw (u32 0#32)), (.raw (it 0)), (.raw (it 0)), (.raw (it 0))])), none⟩,
                           ⟨none, (.store S1 (.tmp 20) (.tmp 93)), none⟩,
                           ⟨(some 21), (.mv (.tmp 94)), none⟩])
                          (.seq
                           (.seq
                            (.region false [⟨(some 95), (.load S1 (.tmp 20)), none⟩,
                             ⟨(some 96), (.load S1 (.tmp 14)), none⟩,
                             ⟨(some 97), (.eqa S1 false (.tmp 95) (.tmp 96)), none⟩,
                             ⟨(some 98), (.mv (.tmp 97)), none⟩,
                             ⟨(some 99), (.load S1 (.tmp 20)), some (98, false)⟩,
                             ⟨(some 100), (.load S1 (.tmp 17)), some (98, false)⟩,
                             ⟨(some 101), (.eqa S1 false (.tmp 99) (.tmp 100)), some (98, false)⟩,
                             ⟨(some 102), (.pick (.tmp 98) (.const (.bool true)) (.tmp 101)), none⟩])
                            (.cond (.tmp 102)
                             (.exit 1)
                             .skip))
                           (.seq
                            (.region false [⟨(some 103), (.mv (.tmp 11)), none⟩,
                             ⟨(some 104), (.mv (.tmp 16)), none⟩,
                             ⟨(some 105), (.mv (.tmp 19)), none⟩,
                             ⟨(some 106), (.iaddrs S2 (.tmp 104) (.tmp 105)), none⟩,
                             ⟨(some 107), (.faddr S2 (.tmp 106) 1), none⟩,
                             ⟨(some 108), (.load LI (.tmp 107)), none⟩,
                             ⟨(some 109), (.bslice LI 1 (.raw (it 0)) [(0, (.tmp 108))]), none⟩,
                             ⟨(some 110), (.call 23 [(.tmp 103), (.tmp 109)]), none⟩,
                             ⟨(some 22), (.mv (.tmp 110)), none⟩])
                            (.seq
                             (.region false [⟨(some 112), (.mv (.tmp 22)), none⟩,
                              ⟨(some 113), (.slice L8 (.tmp 112) none (some (.const (it 32))) none), none⟩,
                              ⟨(some 114), (.call 17 [(.tmp 113)]), none⟩,
                              ⟨(some 111), (.mv (.tmp 114)), none⟩,
                              ⟨(some 115), (.ext (.tmp 111) 0), none⟩,
                              ⟨(some 116), (.ext (.tmp 111) 1), none⟩,
                              ⟨(some 23), (.alloc S1 (.agg S1 [(.raw (u32 0#32)), (.raw (it 0)), (.raw (it 0)), (.raw (it 0))])), none⟩,
                              ⟨none, (.store S1 (.tmp 23) (.tmp 115)), none⟩,
                              ⟨(some 24), (.mv (.tmp 116)), none⟩])
                             (.seq
                              (.region false [⟨(some 117), (.mv (.tmp 24)), none⟩,
                               ⟨(some 118), (.mv (.tmp 117)), none⟩,
                               ⟨(some 119), (.load S1 (.tmp 23)), some (118, true)⟩,
                               ⟨(some 120), (.load S1 (.tmp 20)), some (118, true)⟩,
                               ⟨(some 121), (.eqa S1 false (.tmp 119) (.tmp 120)), some (118, true)⟩,
                               ⟨(some 122), (.pick (.tmp 118) (.tmp 121) (.const (.bool false))), none⟩,
                               ⟨(some 123), (.mv (.tmp 122)), none⟩,
                               ⟨(some 124), (.mv (.tmp 16)), some (123, true)⟩,
                               ⟨(some 125), (.mv (.tmp 19)), some (123, true)⟩,
                               ⟨(some 126), (.iaddrs S2 (.tmp 124) (.tmp 125)), some (123, true)⟩,
                               ⟨(some 127), (.faddr S2 (.tmp 126) 1), some (123, true)⟩,
                               ⟨(some 128), (.load LI (.tmp 127)), some (123, true)⟩,
                               ⟨(some 129), (.mv (.tmp 15)), some (123, true)⟩,
                               ⟨(some 130), (.bin .neq (.tmp 128) (.tmp 129)), some (123, true)⟩,
                               ⟨(some 131), (.pick (.tmp 123) (.tmp 130) (.const (.bool false))), none⟩,
                               ⟨(some 10), (.mv (.tmp 131)), none⟩])
                              .ret)))))))))))))))))))
           (.region false [⟨(some 132), (.bin .add (.tmp 34) (.const (it 1))), none⟩,
            ⟨(some 34), (.mv (.tmp 132)), none⟩])))))))
     (.seq
      (.region false [⟨(some 10), (.mv (.const (.bool true))), none⟩])
      .ret)))))
def r_law22_JournalTorn : List ARes := [(.tmp 10)]
theorem c_law22_JournalTorn : o2 Go.Proofs.Tryd.f7.body (comp Go.Proofs.Tryd.prog Go.Proofs.Tryd.f7.ntmps) = some a_law22_JournalTorn := by kernel_rfl
theorem s_law22_JournalTorn : cRess Go.Proofs.Tryd.prog Go.Proofs.Tryd.f7.results.toList = some r_law22_JournalTorn := by kernel_rfl
theorem m_law22_JournalTorn (C : Ctx) (hC : CtxOK C Go.Proofs.Tryd.prog) : Meets C.glob Go.Proofs.Tryd.prog 7 (afun C 5 r_law22_JournalTorn a_law22_JournalTorn) :=
  fn_sound hC Go.Proofs.Tryd.func7 c_law22_JournalTorn s_law22_JournalTorn (Nat.le_of_ble_eq_true (by kernel_rfl))

/-- curtilage/curtilagelaw22.awake -/
def a_law22_awake : ACode :=
 (.seq
  (.region false [⟨(some 0), (.mv (.const (.bool false))), none⟩])
  (.seq
   (.region false [⟨(some 8), (.call 18 [(.const (it 40))]), none⟩,
    ⟨(some 7), (.mv (.tmp 8)), none⟩,
    ⟨(some 9), (.ext (.tmp 7) 0), none⟩,
    ⟨(some 10), (.ext (.tmp 7) 1), none⟩,
    ⟨(some 1), (.mv (.tmp 9)), none⟩,
    ⟨(some 2), (.mv (.tmp 10)), none⟩])
   (.seq
    (.region false [⟨(some 11), (.mv (.tmp 1)), none⟩,
     ⟨(some 12), (.build S1 [(.raw (u32 0#32)), (.raw (it 0)), (.raw (it 0)), (.raw (it 0))] [(1, (.const (it 1))), (2, (.const (it 0)))]), none⟩,
     ⟨(some 13), (.call 20 [(.tmp 11), (.tmp 12)]), none⟩,
     ⟨(some 3), (.mv (.tmp 13)), none⟩])
    (.seq
     (.region false [⟨(some 14), (.mv (.tmp 1)), none⟩,
      ⟨(some 15), (.mv (.tmp 3)), none⟩,
      ⟨(some 16), (.call 21 [(.tmp 14), (.const (.pointer none)), (.tmp 15)]), none⟩,
      ⟨(some 4), (.mv (.tmp 16)), none⟩])
     (.seq
      (.region false [⟨(some 18), (.mv (.tmp 1)), none⟩,
       ⟨(some 19), (.call 22 [(.tmp 18)]), none⟩,
       ⟨(some 17), (.mv (.tmp 19)), none⟩,
       ⟨(some 20), (.ext (.tmp 17) 0), none⟩,
       ⟨(some 21), (.ext (.tmp 17) 1), none⟩,
       ⟨(some 5), (.alloc S1 (.agg S1 [(.raw (u32 0#32)), (.raw (it 0)), (.raw (it 0)), (.raw (it 0))])), none⟩,
       ⟨none, (.store S1 (.tmp 5) (.tmp 20)), none⟩,
       ⟨(some 6), (.mv (.tmp 21)), none⟩])
      (.seq
       (.region false [⟨(some 22), (.mv (.tmp 3)), none⟩,
        ⟨(some 23), (.len (.tmp 22)), none⟩,
        ⟨(some 24), (.bin .eql (.tmp 23) (.const (it 2))), none⟩,
        ⟨(some 25), (.mv (.tmp 24)), none⟩,
        ⟨(some 26), (.mv (.tmp 4)), some (25, true)⟩,
        ⟨(some 27), (.bin .eql (.tmp 26) (.const (it 0))), some (25, true)⟩,
        ⟨(some 28), (.pick (.tmp 25) (.tmp 27) (.const (.bool false))), none⟩,
        ⟨(some 29), (.mv (.tmp 28)), none⟩,
        ⟨(some 30), (.mv (.tmp 6)), some (29, true)⟩,
        ⟨(some 31), (.bin .eql (.tmp 30) (.const (it 32))), some (29, true)⟩,
        ⟨(some 32), (.pick (.tmp 29) (.tmp 31) (.const (.bool false))), none⟩,
        ⟨(some 33), (.mv (.tmp 32)), none⟩,
        ⟨(some 34), (.load S1 (.tmp 5)), some (33, true)⟩,
        ⟨(some 35), (.build S1 [(.raw (u32 0#32)), (.raw (it 0)), (.raw (it 0)), (.raw (it 0))] [(0, (.const (u32 1#32))), (1, (.const (it 1))), (2, (.const (it 0)))]), some (33, true)⟩,
        ⟨(some 36), (.eqa S1 false (.tmp 34) (.tmp 35)), some (33, true)⟩,
        ⟨(some 37), (.pick (.tmp 33) (.tmp 36) (.const (.bool false))), none⟩,
        ⟨(some 0), (.mv (.tmp 37)), none⟩])
       .ret))))))
def r_law22_awake : List ARes := [(.tmp 0)]
theorem c_law22_awake : o2 Go.Proofs.Tryd.f8.body (comp Go.Proofs.Tryd.prog Go.Proofs.Tryd.f8.ntmps) = some a_law22_awake := by kernel_rfl
theorem s_law22_awake : cRess Go.Proofs.Tryd.prog Go.Proofs.Tryd.f8.results.toList = some r_law22_awake := by kernel_rfl
theorem m_law22_awake (C : Ctx) (hC : CtxOK C Go.Proofs.Tryd.prog) : Meets C.glob Go.Proofs.Tryd.prog 8 (afun C 0 r_law22_awake a_law22_awake) :=
  fn_sound hC Go.Proofs.Tryd.func8 c_law22_awake s_law22_awake (Nat.le_of_ble_eq_true (by kernel_rfl))

/-- curtilage/curtilageref01.Cut -/
def a_ref01_Cut : ACode :=
 (.seq
  (.region false [⟨(some 4), (.mv (.const (.slice none 0 0))), none⟩])
  (.seq
   (.region false [⟨(some 5), (.mv (.const (.slice none 0 0))), none⟩])
   (.seq
    (.seq
     (.region false [⟨(some 8), (.mv (.tmp 0)), none⟩,
      ⟨(some 9), (.len (.tmp 8)), none⟩,
      ⟨(some 10), (.mv (.const (it 0))), none⟩])
     (.block 0
      (.loop
       (.seq
        (.region false [⟨(some 11), (.bin .lss (.tmp 10) (.tmp 9)), none⟩])
        (.seq
         (.cond (.tmp 11)
          .skip
          (.exit 0))
         (.seq
          (.block 1
           (.seq
            (.region false [⟨(some 12), (.mv (.tmp 10)), none⟩,
             ⟨(some 13), (.iaddrs L8 (.tmp 8) (.tmp 10)), none⟩,
             ⟨(some 14), (.load L8 (.tmp 13)), none⟩,
             ⟨(some 6), (.mv (.tmp 12)), none⟩,
             ⟨(some 7), (.mv (.tmp 14)), none⟩])
            (.seq
             (.region false [⟨(some 15), (.mv (.tmp 6)), none⟩,
              ⟨(some 16), (.mv (.tmp 1)), none⟩,
              ⟨(some 17), (.bin .lss (.tmp 15) (.tmp 16)), none⟩])
             (.cond (.tmp 17)
              (.region false [⟨(some 18), (.mv (.tmp 5)), none⟩,
               ⟨(some 19), (.mv (.tmp 7)), none⟩,
               ⟨(some 20), (.bslice L8 1 (.raw (u8 0#8)) [(0, (.tmp 19))]), none⟩,
               ⟨(some 21), (.append L8 1 (.tmp 18) (.tmp 20)), none⟩,
               ⟨(some 5), (.mv (.tmp 21)), none⟩])
              .skip))))
          (.region false [⟨(some 22), (.bin .add (.tmp 10) (.const (it 1))), none⟩,
           ⟨(some 10), (.mv (.tmp 22)), none⟩])))))))
    (.seq
     (.region false [⟨(some 23), (.mv (.tmp 5)), none⟩,
      ⟨(some 4), (.mv (.tmp 23)), none⟩])
     .ret))))
def r_ref01_Cut : List ARes := [(.tmp 4)]
theorem c_ref01_Cut : o2 Go.Proofs.Tryd.f9.body (comp Go.Proofs.Tryd.prog Go.Proofs.Tryd.f9.ntmps) = some a_ref01_Cut := by kernel_rfl
theorem s_ref01_Cut : cRess Go.Proofs.Tryd.prog Go.Proofs.Tryd.f9.results.toList = some r_ref01_Cut := by kernel_rfl
theorem m_ref01_Cut (C : Ctx) (hC : CtxOK C Go.Proofs.Tryd.prog) : Meets C.glob Go.Proofs.Tryd.prog 9 (afun C 2 r_ref01_Cut a_ref01_Cut) :=
  fn_sound hC Go.Proofs.Tryd.func9 c_ref01_Cut s_ref01_Cut (Nat.le_of_ble_eq_true (by kernel_rfl))

/-- (curtilage/journal.State).Bytes -/
def a_journal_State_Bytes : ACode :=
 (.seq
  (.region false [⟨(some 1), (.box S1 (.tmp 0)), none⟩,
   ⟨(some 2), (.mv (.const (.slice none 0 0))), none⟩])
  (.seq
   (.seq
    (.region false [⟨(some 6), (.load S1 (.tmp 1)), none⟩,
     ⟨(some 7), (.call 12 [(.tmp 6)]), none⟩,
     ⟨(some 8), (.un .not (.tmp 7)), none⟩])
    (.cond (.tmp 8)
     (.seq
      (.region false [⟨(some 2), (.mv (.const (.slice none 0 0))), none⟩])
      .ret)
     .skip))
   (.seq
    (.region false [⟨(some 9), (.faddr S1 (.tmp 1) 0), none⟩,
     ⟨(some 10), (.load L32 (.tmp 9)), none⟩,
     ⟨(some 3), (.mv (.tmp 10)), none⟩])
    (.seq
     (.region false [⟨(some 11), (.bslice L8 4 (.raw (u8 0#8)) [(0, (.const (u8 66#8))), (1, (.const (u8 67#8))), (2, (.const (u8 84#8))), (3, (.const (u8 76#8)))]), none⟩,
      ⟨(some 12), (.frzb L8 (.tmp 11)), none⟩,
      ⟨(some 13), (.mv (.tmp 3)), none⟩,
      ⟨(some 14), (.bin .shr (.tmp 13) (.const (u64 24#64))), none⟩,
      ⟨(some 15), (.conv .u8 (.tmp 14)), none⟩,
      ⟨(some 16), (.mv (.tmp 3)), none⟩,
      ⟨(some 17), (.bin .shr (.tmp 16) (.const (u64 16#64))), none⟩,
      ⟨(some 18), (.conv .u8 (.tmp 17)), none⟩,
      ⟨(some 19), (.mv (.tmp 3)), none⟩,
      ⟨(some 20), (.bin .shr (.tmp 19) (.const (u64 8#64))), none⟩,
      ⟨(some 21), (.conv .u8 (.tmp 20)), none⟩,
      ⟨(some 22), (.mv (.tmp 3)), none⟩,
      ⟨(some 23), (.conv .u8 (.tmp 22)), none⟩,
      ⟨(some 24), (.faddr S1 (.tmp 1) 1), none⟩,
      ⟨(some 25), (.load LI (.tmp 24)), none⟩,
      ⟨(some 26), (.conv .u8 (.tmp 25)), none⟩,
      ⟨(some 27), (.faddr S1 (.tmp 1) 2), none⟩,
      ⟨(some 28), (.load LI (.tmp 27)), none⟩,
      ⟨(some 29), (.bin .add (.tmp 28) (.const (it 1))), none⟩,
      ⟨(some 30), (.conv .u8 (.tmp 29)), none⟩,
      ⟨(some 31), (.faddr S1 (.tmp 1) 3), none⟩,
      ⟨(some 32), (.load LI (.tmp 31)), none⟩,
      ⟨(some 33), (.conv .u8 (.tmp 32)), none⟩,
      ⟨(some 34), (.bslice L8 8 (.raw (u8 0#8)) [(0, (.tmp 15)), (1, (.tmp 18)), (2, (.tmp 21)), (3, (.tmp 23)), (4, (.tmp 26)), (5, (.tmp 30)), (6, (.tmp 33)), (7, (.const (u8 0#8)))]), none⟩,
      ⟨(some 35), (.append L8 1 (.tmp 12) (.tmp 34)), none⟩,
      ⟨(some 4), (.mv (.tmp 35)), none⟩])
     (.seq
      (.region false [⟨(some 36), (.mv (.tmp 4)), none⟩,
       ⟨(some 37), (.bslice .ref 1 (.raw (.slice none 0 0)) [(0, (.tmp 36))]), none⟩,
       ⟨(some 38), (.call 28 [(.tmp 37)]), none⟩,
       ⟨(some 5), (.alloc (.ar 32 L8) (.agg (.ar 32 L8) (List.replicate 32 (.raw (u8 0#8))))), none⟩,
       ⟨none, (.store (.ar 32 L8) (.tmp 5) (.tmp 38)), none⟩])
      (.seq
       (.region false [⟨(some 39), (.mv (.tmp 4)), none⟩,
        ⟨(some 40), (.slicea 32 L8 (.tmp 5) none (some (.const (it 20))) none), none⟩,
        ⟨(some 41), (.append L8 1 (.tmp 39) (.tmp 40)), none⟩,
        ⟨(some 2), (.mv (.tmp 41)), none⟩])
       .ret))))))
def r_journal_State_Bytes : List ARes := [(.tmp 2)]
theorem c_journal_State_Bytes : o2 Go.Proofs.Tryd.f10.body (comp Go.Proofs.Tryd.prog Go.Proofs.Tryd.f10.ntmps) = some a_journal_State_Bytes := by kernel_rfl
theorem s_journal_State_Bytes : cRess Go.Proofs.Tryd.prog Go.Proofs.Tryd.f10.results.toList = some r_journal_State_Bytes := by kernel_rfl
theorem m_journal_State_Bytes (C : Ctx) (hC : CtxOK C Go.Proofs.Tryd.prog) : Meets C.glob Go.Proofs.Tryd.prog 10 (afun C 1 r_journal_State_Bytes a_journal_State_Bytes) :=
  fn_sound hC Go.Proofs.Tryd.func10 c_journal_State_Bytes s_journal_State_Bytes (Nat.le_of_ble_eq_true (by kernel_rfl))

/-- curtilage/curtilageref22.Right -/
def a_ref22_Right : ACode :=
 (.seq
  (.region false [⟨(some 1), (.box S1 (.tmp 0)), none⟩,
   ⟨(some 2), (.mv (.const (.bool false))), none⟩])
  (.seq
   (.seq
    (.region false [⟨(some 3), (.faddr S1 (.tmp 1) 1), none⟩,
     ⟨(some 4), (.load LI (.tmp 3)), none⟩,
     ⟨(some 5), (.bin .lss (.tmp 4) (.const (it 0))), none⟩,
     ⟨(some 6), (.mv (.tmp 5)), none⟩,
     ⟨(some 7), (.faddr S1 (.tmp 1) 1), some (6, false)⟩,
     ⟨(some 8), (.load LI (.tmp 7)), some (6, false)⟩,
     ⟨(some 9), (.bin .gtr (.tmp 8) (.const (it 1))), some (6, false)⟩,
     ⟨(some 10), (.pick (.tmp 6) (.const (.bool true)) (.tmp 9)), none⟩,
     ⟨(some 11), (.mv (.tmp 10)), none⟩,
     ⟨(some 12), (.faddr S1 (.tmp 1) 3), some (11, false)⟩,
     ⟨(some 13), (.load LI (.tmp 12)), some (11, false)⟩,
     ⟨(some 14), (.bin .lss (.tmp 13) (.const (it 0))), some (11, false)⟩,
     ⟨(some 15), (.pick (.tmp 11) (.const (.bool true)) (.tmp 14)), none⟩,
     ⟨(some 16), (.mv (.tmp 15)), none⟩,
     ⟨(some 17), (.faddr S1 (.tmp 1) 3), some (16, false)⟩,
     ⟨(some 18), (.load LI (.tmp 17)), some (16, false)⟩,
     ⟨(some 19), (.bin .gtr (.tmp 18) (.const (it 3))), some (16, false)⟩,
     ⟨(some 20), (.pick (.tmp 16) (.const (.bool true)) (.tmp 19)), none⟩])
    (.cond (.tmp 20)
     (.seq
      (.region false [⟨(some 2), (.mv (.const (.bool false))), none⟩])
      .ret)
     .skip))
   (.seq
    (.region false [⟨(some 21), (.faddr S1 (.tmp 1) 2), none⟩,
     ⟨(some 22), (.load LI (.tmp 21)), none⟩,
     ⟨(some 23), (.bin .eql (.tmp 22) (.const (it (-1)))), none⟩,
     ⟨(some 24), (.mv (.tmp 23)), none⟩,
     ⟨(some 25), (.faddr S1 (.tmp 1) 3), some (24, true)⟩,
     ⟨(some 26), (.load LI (.tmp 25)), some (24, true)⟩,
     ⟨(some 27), (.bin .eql (.tmp 26) (.const (it 0))), some (24, true)⟩,
     ⟨(some 28), (.pick (.tmp 24) (.tmp 27) (.const (.bool false))), none⟩,
     ⟨(some 29), (.mv (.tmp 28)), none⟩,
     ⟨(some 30), (.faddr S1 (.tmp 1) 2), some (29, false)⟩,
     ⟨(some 31), (.load LI (.tmp 30)), some (29, false)⟩,
     ⟨(some 32), (.bin .eql (.tmp 31) (.const (it 0))), some (29, false)⟩,
     ⟨(some 33), (.pick (.tmp 29) (.const (.bool true)) (.tmp 32)), none⟩,
     ⟨(some 34), (.mv (.tmp 33)), none⟩,
     ⟨(some 35), (.faddr S1 (.tmp 1) 2), some (34, false)⟩,
     ⟨(some 36), (.load LI (.tmp 35)), some (34, false)⟩,
     ⟨(some 37), (.bin .eql (.tmp 36) (.const (it 1))), some (34, false)⟩,
     ⟨(some 38), (.pick (.tmp 34) (.const (.bool true)) (.tmp 37)), none⟩,
     ⟨(some 2), (.mv (.tmp 38)), none⟩])
    .ret)))
def r_ref22_Right : List ARes := [(.tmp 2)]
theorem c_ref22_Right : o2 Go.Proofs.Tryd.f11.body (comp Go.Proofs.Tryd.prog Go.Proofs.Tryd.f11.ntmps) = some a_ref22_Right := by kernel_rfl
theorem s_ref22_Right : cRess Go.Proofs.Tryd.prog Go.Proofs.Tryd.f11.results.toList = some r_ref22_Right := by kernel_rfl
theorem m_ref22_Right (C : Ctx) (hC : CtxOK C Go.Proofs.Tryd.prog) : Meets C.glob Go.Proofs.Tryd.prog 11 (afun C 1 r_ref22_Right a_ref22_Right) :=
  fn_sound hC Go.Proofs.Tryd.func11 c_ref22_Right s_ref22_Right (Nat.le_of_ble_eq_true (by kernel_rfl))

/-- (curtilage/journal.State).Right -/
def a_journal_State_Right : ACode :=
 (.seq
  (.region false [⟨(some 1), (.box S1 (.tmp 0)), none⟩,
   ⟨(some 2), (.mv (.const (.bool false))), none⟩])
  (.seq
   (.region false [⟨(some 4), (.faddr S1 (.tmp 1) 2), none⟩,
    ⟨(some 5), (.load LI (.tmp 4)), none⟩,
    ⟨(some 6), (.call 29 [(.tmp 5)]), none⟩,
    ⟨(some 7), (.mv (.tmp 6)), none⟩,
    ⟨(some 8), (.faddr S1 (.tmp 1) 2), some (7, false)⟩,
    ⟨(some 9), (.load LI (.tmp 8)), some (7, false)⟩,
    ⟨(some 10), (.bin .eql (.tmp 9) (.const (it (-1)))), some (7, false)⟩,
    ⟨(some 11), (.mv (.tmp 10)), some (7, false)⟩,
    ⟨(some 12), (.faddr S1 (.tmp 1) 3), some (11, true)⟩,
    ⟨(some 13), (.load LI (.tmp 12)), some (11, true)⟩,
    ⟨(some 14), (.bin .eql (.tmp 13) (.const (it 0))), some (11, true)⟩,
    ⟨(some 15), (.pick (.tmp 11) (.tmp 14) (.const (.bool false))), some (7, false)⟩,
    ⟨(some 16), (.pick (.tmp 7) (.const (.bool true)) (.tmp 15)), none⟩,
    ⟨(some 3), (.mv (.tmp 16)), none⟩])
   (.seq
    (.region false [⟨(some 17), (.faddr S1 (.tmp 1) 1), none⟩,
     ⟨(some 18), (.load LI (.tmp 17)), none⟩,
     ⟨(some 19), (.call 29 [(.tmp 18)]), none⟩,
     ⟨(some 20), (.mv (.tmp 19)), none⟩,
     ⟨(some 21), (.mv (.tmp 3)), some (20, true)⟩,
     ⟨(some 22), (.pick (.tmp 20) (.tmp 21) (.const (.bool false))), none⟩,
     ⟨(some 23), (.mv (.tmp 22)), none⟩,
     ⟨(some 24), (.faddr S1 (.tmp 1) 3), some (23, true)⟩,
     ⟨(some 25), (.load LI (.tmp 24)), some (23, true)⟩,
     ⟨(some 26), (.bin .geq (.tmp 25) (.const (it 0))), some (23, true)⟩,
     ⟨(some 27), (.pick (.tmp 23) (.tmp 26) (.const (.bool false))), none⟩,
     ⟨(some 28), (.mv (.tmp 27)), none⟩,
     ⟨(some 29), (.faddr S1 (.tmp 1) 3), some (28, true)⟩,
     ⟨(some 30), (.load LI (.tmp 29)), some (28, true)⟩,
     ⟨(some 31), (.bin .leq (.tmp 30) (.const (it 3))), some (28, true)⟩,
     ⟨(some 32), (.pick (.tmp 28) (.tmp 31) (.const (.bool false))), none⟩,
     ⟨(some 2), (.mv (.tmp 32)), none⟩])
    .ret)))
def r_journal_State_Right : List ARes := [(.tmp 2)]
theorem c_journal_State_Right : o2 Go.Proofs.Tryd.f12.body (comp Go.Proofs.Tryd.prog Go.Proofs.Tryd.f12.ntmps) = some a_journal_State_Right := by kernel_rfl
theorem s_journal_State_Right : cRess Go.Proofs.Tryd.prog Go.Proofs.Tryd.f12.results.toList = some r_journal_State_Right := by kernel_rfl
theorem m_journal_State_Right (C : Ctx) (hC : CtxOK C Go.Proofs.Tryd.prog) : Meets C.glob Go.Proofs.Tryd.prog 12 (afun C 1 r_journal_State_Right a_journal_State_Right) :=
  fn_sound hC Go.Proofs.Tryd.func12 c_journal_State_Right s_journal_State_Right (Nat.le_of_ble_eq_true (by kernel_rfl))

/-- curtilage/curtilageref01.Same -/
def a_ref01_Same : ACode :=
 (.seq
  (.region false [⟨(some 4), (.mv (.const (.bool false))), none⟩])
  (.seq
   (.seq
    (.region false [⟨(some 6), (.mv (.tmp 0)), none⟩,
     ⟨(some 7), (.len (.tmp 6)), none⟩,
     ⟨(some 8), (.mv (.tmp 1)), none⟩,
     ⟨(some 9), (.len (.tmp 8)), none⟩,
     ⟨(some 10), (.bin .neq (.tmp 7) (.tmp 9)), none⟩])
    (.cond (.tmp 10)
     (.seq
      (.region false [⟨(some 4), (.mv (.const (.bool false))), none⟩])
      .ret)
     .skip))
   (.seq
    (.seq
     (.region false [⟨(some 11), (.mv (.tmp 0)), none⟩,
      ⟨(some 12), (.len (.tmp 11)), none⟩,
      ⟨(some 13), (.mv (.const (it 0))), none⟩])
     (.block 0
      (.loop
       (.seq
        (.region false [⟨(some 14), (.bin .lss (.tmp 13) (.tmp 12)), none⟩])
        (.seq
         (.cond (.tmp 14)
          .skip
          (.exit 0))
         (.seq
          (.block 1
           (.seq
            (.region false [⟨(some 15), (.mv (.tmp 13)), none⟩,
             ⟨(some 5), (.mv (.tmp 15)), none⟩])
            (.seq
             (.region true [⟨(some 16), (.mv (.tmp 0)), none⟩,
              ⟨(some 17), (.mv (.tmp 5)), none⟩,
              ⟨(some 18), (.iaddrs L8 (.tmp 16) (.tmp 17)), none⟩,
              ⟨(some 19), (.load L8 (.tmp 18)), none⟩,
              ⟨(some 20), (.mv (.tmp 1)), none⟩,
              ⟨(some 21), (.mv (.tmp 5)), none⟩,
              ⟨(some 22), (.iaddrs L8 (.tmp 20) (.tmp 21)), none⟩,
              ⟨(some 23), (.load L8 (.tmp 22)), none⟩,
              ⟨(some 24), (.bin .neq (.tmp 19) (.tmp 23)), none⟩])
             (.cond (.tmp 24)
              (.seq
               (.region false [⟨(some 4), (.mv (.const (.bool false))), none⟩])
               .ret)
              .skip))))
          (.region false [⟨(some 25), (.bin .add (.tmp 13) (.const (it 1))), none⟩,
           ⟨(some 13), (.mv (.tmp 25)), none⟩])))))))
    (.seq
     (.region false [⟨(some 4), (.mv (.const (.bool true))), none⟩])
     .ret))))
def r_ref01_Same : List ARes := [(.tmp 4)]
theorem c_ref01_Same : o2 Go.Proofs.Tryd.f13.body (comp Go.Proofs.Tryd.prog Go.Proofs.Tryd.f13.ntmps) = some a_ref01_Same := by kernel_rfl
theorem s_ref01_Same : cRess Go.Proofs.Tryd.prog Go.Proofs.Tryd.f13.results.toList = some r_ref01_Same := by kernel_rfl
theorem m_ref01_Same (C : Ctx) (hC : CtxOK C Go.Proofs.Tryd.prog) : Meets C.glob Go.Proofs.Tryd.prog 13 (afun C 2 r_ref01_Same a_ref01_Same) :=
  fn_sound hC Go.Proofs.Tryd.func13 c_ref01_Same s_ref01_Same (Nat.le_of_ble_eq_true (by kernel_rfl))

/-- curtilage/curtilageref22.Bytes -/
def a_ref22_Bytes : ACode :=
 (.seq
  (.region false [⟨(some 1), (.box S1 (.tmp 0)), none⟩,
   ⟨(some 2), (.mv (.const (.slice none 0 0))), none⟩])
  (.seq
   (.draw1 [⟨(some 5), (.bslice L8 4 (.raw (u8 0#8)) [(0, (.const (u8 66#8))), (1, (.const (u8 67#8))), (2, (.const (u8 84#8))), (3, (.const (u8 76#8)))]), none⟩,
    ⟨(some 6), (.frzb L8 (.tmp 5)), none⟩,
    ⟨(some 7), (.faddr S1 (.tmp 1) 0), none⟩,
    ⟨(some 8), (.load L32 (.tmp 7)), none⟩,
    ⟨(some 9), (.conv .u64 (.tmp 8)), none⟩,
    ⟨(some 10), (.call 30 [(.tmp 9), (.const (it 4))]), none⟩,
    ⟨(some 11), (.faddr S1 (.tmp 1) 1), none⟩,
    ⟨(some 12), (.load LI (.tmp 11)), none⟩,
    ⟨(some 13), (.conv .u8 (.tmp 12)), none⟩,
    ⟨(some 14), (.faddr S1 (.tmp 1) 2), none⟩,
    ⟨(some 15), (.load LI (.tmp 14)), none⟩,
    ⟨(some 16), (.bin .add (.tmp 15) (.const (it 1))), none⟩,
    ⟨(some 17), (.conv .u8 (.tmp 16)), none⟩,
    ⟨(some 18), (.faddr S1 (.tmp 1) 3), none⟩,
    ⟨(some 19), (.load LI (.tmp 18)), none⟩,
    ⟨(some 20), (.conv .u8 (.tmp 19)), none⟩,
    ⟨(some 21), (.bslice L8 4 (.raw (u8 0#8)) [(0, (.tmp 13)), (1, (.tmp 17)), (2, (.tmp 20)), (3, (.const (u8 0#8)))]), none⟩]
    [⟨(some 22), (.bslice .ref 3 (.raw (.slice none 0 0)) [(0, (.tmp 6)), (1, (.tmp 10)), (2, (.tmp 21))]), none⟩,
    ⟨(some 23), (.call 15 [(.tmp 22)]), none⟩,
    ⟨(some 3), (.mv (.tmp 23)), none⟩])
   (.seq
    (.region false [⟨(some 24), (.mv (.tmp 3)), none⟩,
     ⟨(some 25), (.call 31 [(.tmp 24)]), none⟩,
     ⟨(some 4), (.alloc (.ar 32 L8) (.agg (.ar 32 L8) (List.replicate 32 (.raw (u8 0#8))))), none⟩,
     ⟨none, (.store (.ar 32 L8) (.tmp 4) (.tmp 25)), none⟩])
    (.seq
     (.region false [⟨(some 26), (.mv (.tmp 3)), none⟩,
      ⟨(some 27), (.slicea 32 L8 (.tmp 4) none (some (.const (it 20))) none), none⟩,
      ⟨(some 28), (.bslice .ref 2 (.raw (.slice none 0 0)) [(0, (.tmp 26)), (1, (.tmp 27))]), none⟩,
      ⟨(some 29), (.call 15 [(.tmp 28)]), none⟩,
      ⟨(some 2), (.mv (.tmp 29)), none⟩])
     .ret))))
def r_ref22_Bytes : List ARes := [(.tmp 2)]
theorem c_ref22_Bytes : o2 Go.Proofs.Tryd.f14.body (comp Go.Proofs.Tryd.prog Go.Proofs.Tryd.f14.ntmps) = some a_ref22_Bytes := by kernel_rfl
theorem s_ref22_Bytes : cRess Go.Proofs.Tryd.prog Go.Proofs.Tryd.f14.results.toList = some r_ref22_Bytes := by kernel_rfl
theorem m_ref22_Bytes (C : Ctx) (hC : CtxOK C Go.Proofs.Tryd.prog) : Meets C.glob Go.Proofs.Tryd.prog 14 (afun C 1 r_ref22_Bytes a_ref22_Bytes) :=
  fn_sound hC Go.Proofs.Tryd.func14 c_ref22_Bytes s_ref22_Bytes (Nat.le_of_ble_eq_true (by kernel_rfl))

/-- curtilage/curtilageref01.Join -/
def a_ref01_Join : ACode :=
 (.seq
  (.region false [⟨(some 2), (.mv (.const (.slice none 0 0))), none⟩])
  (.seq
   (.region false [⟨(some 3), (.mv (.const (.slice none 0 0))), none⟩])
   (.seq
    (.seq
     (.region false [⟨(some 6), (.mv (.tmp 0)), none⟩,
      ⟨(some 7), (.len (.tmp 6)), none⟩,
      ⟨(some 8), (.mv (.const (it 0))), none⟩])
     (.block 0
      (.loop
       (.seq
        (.region false [⟨(some 9), (.bin .lss (.tmp 8) (.tmp 7)), none⟩])
        (.seq
         (.cond (.tmp 9)
          .skip
          (.exit 0))
         (.seq
          (.block 1
           (.seq
            (.region false [⟨(some 10), (.iaddrs .ref (.tmp 6) (.tmp 8)), none⟩,
             ⟨(some 11), (.load .ref (.tmp 10)), none⟩,
             ⟨(some 5), (.mv (.tmp 11)), none⟩])
            (.region false [⟨(some 12), (.mv (.tmp 3)), none⟩,
             ⟨(some 13), (.mv (.tmp 5)), none⟩,
             ⟨(some 14), (.append L8 1 (.tmp 12) (.tmp 13)), none⟩,
             ⟨(some 3), (.mv (.tmp 14)), none⟩])))
          (.region false [⟨(some 15), (.bin .add (.tmp 8) (.const (it 1))), none⟩,
           ⟨(some 8), (.mv (.tmp 15)), none⟩])))))))
    (.seq
     (.region false [⟨(some 16), (.mv (.tmp 3)), none⟩,
      ⟨(some 2), (.mv (.tmp 16)), none⟩])
     .ret))))
def r_ref01_Join : List ARes := [(.tmp 2)]
theorem c_ref01_Join : o2 Go.Proofs.Tryd.f15.body (comp Go.Proofs.Tryd.prog Go.Proofs.Tryd.f15.ntmps) = some a_ref01_Join := by kernel_rfl
theorem s_ref01_Join : cRess Go.Proofs.Tryd.prog Go.Proofs.Tryd.f15.results.toList = some r_ref01_Join := by kernel_rfl
theorem m_ref01_Join (C : Ctx) (hC : CtxOK C Go.Proofs.Tryd.prog) : Meets C.glob Go.Proofs.Tryd.prog 15 (afun C 1 r_ref01_Join a_ref01_Join) :=
  fn_sound hC Go.Proofs.Tryd.func15 c_ref01_Join s_ref01_Join (Nat.le_of_ble_eq_true (by kernel_rfl))

/-- curtilage/journal.Parse -/
def a_journal_Parse : ACode :=
 (.seq
  (.region false [⟨(some 2), (.alloc S1 (.agg S1 [(.raw (u32 0#32)), (.raw (it 0)), (.raw (it 0)), (.raw (it 0))])), none⟩,
   ⟨(some 3), (.mv (.const (.bool false))), none⟩])
  (.seq
   (.seq
    (.region false [⟨(some 6), (.mv (.tmp 0)), none⟩,
     ⟨(some 7), (.len (.tmp 6)), none⟩,
     ⟨(some 8), (.bin .neq (.tmp 7) (.const (it 32))), none⟩])
    (.cond (.tmp 8)
     (.seq
      (.region false [⟨(some 9), (.build S1 [(.raw (u32 0#32)), (.raw (it 0)), (.raw (it 0)), (.raw (it 0))] []), none⟩,
       ⟨none, (.store S1 (.tmp 2) (.tmp 9)), none⟩,
       ⟨(some 3), (.mv (.const (.bool false))), none⟩])
      .ret)
     .skip))
   (.seq
    (.region true [⟨(some 10), (.mv (.tmp 0)), none⟩,
     ⟨(some 11), (.iaddrs L8 (.tmp 10) (.const (it 4))), none⟩,
     ⟨(some 12), (.load L8 (.tmp 11)), none⟩,
     ⟨(some 13), (.conv .u32 (.tmp 12)), none⟩,
     ⟨(some 14), (.bin .shl (.tmp 13) (.const (u64 24#64))), none⟩,
     ⟨(some 15), (.mv (.tmp 0)), none⟩,
     ⟨(some 16), (.iaddrs L8 (.tmp 15) (.const (it 5))), none⟩,
     ⟨(some 17), (.load L8 (.tmp 16)), none⟩,
     ⟨(some 18), (.conv .u32 (.tmp 17)), none⟩,
     ⟨(some 19), (.bin .shl (.tmp 18) (.const (u64 16#64))), none⟩,
     ⟨(some 20), (.bin .or (.tmp 14) (.tmp 19)), none⟩,
     ⟨(some 21), (.mv (.tmp 0)), none⟩,
     ⟨(some 22), (.iaddrs L8 (.tmp 21) (.const (it 6))), none⟩,
     ⟨(some 23), (.load L8 (.tmp 22)), none⟩,
     ⟨(some 24), (.conv .u32 (.tmp 23)), none⟩,
     ⟨(some 25), (.bin .shl (.tmp 24) (.const (u64 8#64))), none⟩,
     ⟨(some 26), (.bin .or (.tmp 20) (.tmp 25)), none⟩,
     ⟨(some 27), (.mv (.tmp 0)), none⟩,
     ⟨(some 28), (.iaddrs L8 (.tmp 27) (.const (it 7))), none⟩,
     ⟨(some 29), (.load L8 (.tmp 28)), none⟩,
     ⟨(some 30), (.conv .u32 (.tmp 29)), none⟩,
     ⟨(some 31), (.bin .or (.tmp 26) (.tmp 30)), none⟩,
     ⟨(some 4), (.mv (.tmp 31)), none⟩])
    (.seq
     (.region true [⟨(some 32), (.mv (.tmp 4)), none⟩,
      ⟨(some 33), (.mv (.tmp 0)), none⟩,
      ⟨(some 34), (.iaddrs L8 (.tmp 33) (.const (it 8))), none⟩,
      ⟨(some 35), (.load L8 (.tmp 34)), none⟩,
      ⟨(some 36), (.conv .i64 (.tmp 35)), none⟩,
      ⟨(some 37), (.mv (.tmp 0)), none⟩,
      ⟨(some 38), (.iaddrs L8 (.tmp 37) (.const (it 9))), none⟩,
      ⟨(some 39), (.load L8 (.tmp 38)), none⟩,
      ⟨(some 40), (.conv .i64 (.tmp 39)), none⟩,
      ⟨(some 41), (.bin .sub (.tmp 40) (.const (it 1))), none⟩,
      ⟨(some 42), (.mv (.tmp 0)), none⟩,
      ⟨(some 43), (.iaddrs L8 (.tmp 42) (.const (it 10))), none⟩,
      ⟨(some 44), (.load L8 (.tmp 43)), none⟩,
      ⟨(some 45), (.conv .i64 (.tmp 44)), none⟩,
      ⟨(some 46), (.build S1 [(.raw (u32 0#32)), (.raw (it 0)), (.raw (it 0)), (.raw (it 0))] [(0, (.tmp 32)), (1, (.tmp 36)), (2, (.tmp 41)), (3, (.tmp 45))]), none⟩,
      ⟨(some 5), (.alloc S1 (.agg S1 [(.raw (u32 0#32)), (.raw (it 0)), (.raw (it 0)), (.raw (it 0))])), none⟩,
      ⟨none, (.store S1 (.tmp 5) (.tmp 46)), none⟩])
     (.seq
      (.seq
       (.region false [⟨(some 47), (.load S1 (.tmp 5)), none⟩,
        ⟨(some 48), (.call 10 [(.tmp 47)]), none⟩,
        ⟨(some 49), (.mv (.tmp 0)), none⟩,
        ⟨(some 50), (.call 32 [(.tmp 48), (.tmp 49)]), none⟩,
        ⟨(some 51), (.un .not (.tmp 50)), none⟩])
       (.cond (.tmp 51)
        (.seq
         (.region false [⟨(some 52), (.build S1 [(.raw (u32 0#32)), (.raw (it 0)), (.raw (it 0)), (.raw (it 0))] []), none⟩,
          ⟨none, (.store S1 (.tmp 2) (.tmp 52)), none⟩,
          ⟨(some 3), (.mv (.const (.bool false))), none⟩])
         .ret)
        .skip))
      (.seq
       (.region false [⟨(some 53), (.load S1 (.tmp 5)), none⟩,
        ⟨none, (.store S1 (.tmp 2) (.tmp 53)), none⟩,
        ⟨(some 3), (.mv (.const (.bool true))), none⟩])
       .ret))))))
def r_journal_Parse : List ARes := [(.cell 2 S1), (.tmp 3)]
theorem c_journal_Parse : o2 Go.Proofs.Tryd.f16.body (comp Go.Proofs.Tryd.prog Go.Proofs.Tryd.f16.ntmps) = some a_journal_Parse := by kernel_rfl
theorem s_journal_Parse : cRess Go.Proofs.Tryd.prog Go.Proofs.Tryd.f16.results.toList = some r_journal_Parse := by kernel_rfl
theorem m_journal_Parse (C : Ctx) (hC : CtxOK C Go.Proofs.Tryd.prog) : Meets C.glob Go.Proofs.Tryd.prog 16 (afun C 1 r_journal_Parse a_journal_Parse) :=
  fn_sound hC Go.Proofs.Tryd.func16 c_journal_Parse s_journal_Parse (Nat.le_of_ble_eq_true (by kernel_rfl))

/-- curtilage/curtilageref22.Parse -/
def a_ref22_Parse : ACode :=
 (.seq
  (.region false [⟨(some 2), (.alloc S1 (.agg S1 [(.raw (u32 0#32)), (.raw (it 0)), (.raw (it 0)), (.raw (it 0))])), none⟩,
   ⟨(some 3), (.mv (.const (.bool false))), none⟩])
  (.seq
   (.seq
    (.region false [⟨(some 6), (.mv (.tmp 0)), none⟩,
     ⟨(some 7), (.len (.tmp 6)), none⟩,
     ⟨(some 8), (.bin .neq (.tmp 7) (.const (it 32))), none⟩,
     ⟨(some 9), (.mv (.tmp 8)), none⟩,
     ⟨(some 10), (.mv (.tmp 0)), some (9, false)⟩,
     ⟨(some 11), (.slice L8 (.tmp 10) none (some (.const (it 4))) none), some (9, false)⟩,
     ⟨(some 12), (.b2s (.tmp 11)), some (9, false)⟩,
     ⟨(some 13), (.bin .neq (.tmp 12) (.const (.string ⟨#[66, 67, 84, 76]⟩))), some (9, false)⟩,
     ⟨(some 14), (.pick (.tmp 9) (.const (.bool true)) (.tmp 13)), none⟩,
     ⟨(some 15), (.mv (.tmp 14)), none⟩,
     ⟨(some 16), (.mv (.tmp 0)), some (15, false)⟩,
     ⟨(some 17), (.iaddrs L8 (.tmp 16) (.const (it 11))), some (15, false)⟩,
     ⟨(some 18), (.load L8 (.tmp 17)), some (15, false)⟩,
     ⟨(some 19), (.bin .neq (.tmp 18) (.const (u8 0#8))), some (15, false)⟩,
     ⟨(some 20), (.pick (.tmp 15) (.const (.bool true)) (.tmp 19)), none⟩])
    (.cond (.tmp 20)
     (.seq
      (.region false [⟨(some 21), (.build S1 [(.raw (u32 0#32)), (.raw (it 0)), (.raw (it 0)), (.raw (it 0))] []), none⟩,
       ⟨none, (.store S1 (.tmp 2) (.tmp 21)), none⟩,
       ⟨(some 3), (.mv (.const (.bool false))), none⟩])
      .ret)
     .skip))
   (.seq
    (.region false [⟨(some 22), (.mv (.tmp 0)), none⟩,
     ⟨(some 23), (.slice L8 (.tmp 22) none (some (.const (it 12))) none), none⟩,
     ⟨(some 24), (.call 31 [(.tmp 23)]), none⟩,
     ⟨(some 4), (.alloc (.ar 32 L8) (.agg (.ar 32 L8) (List.replicate 32 (.raw (u8 0#8))))), none⟩,
     ⟨none, (.store (.ar 32 L8) (.tmp 4) (.tmp 24)), none⟩])
    (.seq
     (.region true [⟨(some 25), (.mv (.tmp 0)), none⟩,
      ⟨(some 26), (.slice L8 (.tmp 25) (some (.const (it 4))) (some (.const (it 8))) none), none⟩,
      ⟨(some 27), (.call 33 [(.tmp 26)]), none⟩,
      ⟨(some 28), (.conv .u32 (.tmp 27)), none⟩,
      ⟨(some 29), (.mv (.tmp 0)), none⟩,
      ⟨(some 30), (.iaddrs L8 (.tmp 29) (.const (it 8))), none⟩,
      ⟨(some 31), (.load L8 (.tmp 30)), none⟩,
      ⟨(some 32), (.conv .i64 (.tmp 31)), none⟩,
      ⟨(some 33), (.mv (.tmp 0)), none⟩,
      ⟨(some 34), (.iaddrs L8 (.tmp 33) (.const (it 9))), none⟩,
      ⟨(some 35), (.load L8 (.tmp 34)), none⟩,
      ⟨(some 36), (.conv .i64 (.tmp 35)), none⟩,
      ⟨(some 37), (.bin .sub (.tmp 36) (.const (it 1))), none⟩,
      ⟨(some 38), (.mv (.tmp 0)), none⟩,
      ⟨(some 39), (.iaddrs L8 (.tmp 38) (.const (it 10))), none⟩,
      ⟨(some 40), (.load L8 (.tmp 39)), none⟩,
      ⟨(some 41), (.conv .i64 (.tmp 40)), none⟩,
      ⟨(some 42), (.build S1 [(.raw (u32 0#32)), (.raw (it 0)), (.raw (it 0)), (.raw (it 0))] [(0, (.tmp 28)), (1, (.tmp 32)), (2, (.tmp 37)), (3, (.tmp 41))]), none⟩,
      ⟨(some 5), (.alloc S1 (.agg S1 [(.raw (u32 0#32)), (.raw (it 0)), (.raw (it 0)), (.raw (it 0))])), none⟩,
      ⟨none, (.store S1 (.tmp 5) (.tmp 42)), none⟩])
     (.seq
      (.seq
       (.draw1 [⟨(some 43), (.mv (.tmp 0)), none⟩,
        ⟨(some 44), (.slice L8 (.tmp 43) (some (.const (it 12))) none none), none⟩,
        ⟨(some 45), (.slicea 32 L8 (.tmp 4) none (some (.const (it 20))) none), none⟩]
        [⟨(some 46), (.call 13 [(.tmp 44), (.tmp 45)]), none⟩,
        ⟨(some 47), (.un .not (.tmp 46)), none⟩,
        ⟨(some 48), (.mv (.tmp 47)), none⟩,
        ⟨(some 49), (.load S1 (.tmp 5)), some (48, false)⟩,
        ⟨(some 50), (.call 11 [(.tmp 49)]), some (48, false)⟩,
        ⟨(some 51), (.un .not (.tmp 50)), some (48, false)⟩,
        ⟨(some 52), (.pick (.tmp 48) (.const (.bool true)) (.tmp 51)), none⟩])
       (.cond (.tmp 52)
        (.seq
         (.region false [⟨(some 53), (.build S1 [(.raw (u32 0#32)), (.raw (it 0)), (.raw (it 0)), (.raw (it 0))] []), none⟩,
          ⟨none, (.store S1 (.tmp 2) (.tmp 53)), none⟩,
          ⟨(some 3), (.mv (.const (.bool false))), none⟩])
         .ret)
        .skip))
      (.seq
       (.region false [⟨(some 54), (.load S1 (.tmp 5)), none⟩,
        ⟨none, (.store S1 (.tmp 2) (.tmp 54)), none⟩,
        ⟨(some 3), (.mv (.const (.bool true))), none⟩])
       .ret))))))
def r_ref22_Parse : List ARes := [(.cell 2 S1), (.tmp 3)]
theorem c_ref22_Parse : o2 Go.Proofs.Tryd.f17.body (comp Go.Proofs.Tryd.prog Go.Proofs.Tryd.f17.ntmps) = some a_ref22_Parse := by kernel_rfl
theorem s_ref22_Parse : cRess Go.Proofs.Tryd.prog Go.Proofs.Tryd.f17.results.toList = some r_ref22_Parse := by kernel_rfl
theorem m_ref22_Parse (C : Ctx) (hC : CtxOK C Go.Proofs.Tryd.prog) : Meets C.glob Go.Proofs.Tryd.prog 17 (afun C 1 r_ref22_Parse a_ref22_Parse) :=
  fn_sound hC Go.Proofs.Tryd.func17 c_ref22_Parse s_ref22_Parse (Nat.le_of_ble_eq_true (by kernel_rfl))

/-- curtilage/flash.New -/
def a_flash_New : ACode :=
 (.seq
  (.region false [⟨(some 2), (.mv (.const (.pointer none))), none⟩,
   ⟨(some 3), (.mv (.const (it 0))), none⟩])
  (.seq
   (.seq
    (.region false [⟨(some 4), (.mv (.tmp 0)), none⟩,
     ⟨(some 5), (.bin .lss (.tmp 4) (.const (it 0))), none⟩,
     ⟨(some 6), (.mv (.tmp 5)), none⟩,
     ⟨(some 7), (.mv (.tmp 0)), some (6, false)⟩,
     ⟨(some 8), (.bin .gtr (.tmp 7) (.const (it 1024))), some (6, false)⟩,
     ⟨(some 9), (.pick (.tmp 6) (.const (.bool true)) (.tmp 8)), none⟩])
    (.cond (.tmp 9)
     (.seq
      (.region false [⟨(some 2), (.mv (.const (.pointer none))), none⟩,
       ⟨(some 3), (.mv (.const (it 1))), none⟩])
      .ret)
     .skip))
   (.seq
    (.region false [⟨(some 10), (.bslice L8 1 (.raw (u8 0#8)) [(0, (.const (u8 255#8)))]), none⟩,
     ⟨(some 11), (.mv (.tmp 0)), none⟩,
     ⟨(some 12), (.bin .mul (.const (it 256)) (.tmp 11)), none⟩,
     ⟨(some 13), (.call 34 [(.tmp 10), (.tmp 12)]), none⟩,
     ⟨(some 14), (.build S3 [(.raw (.slice none 0 0))] [(0, (.tmp 13))]), none⟩,
     ⟨(some 15), (.box S3 (.tmp 14)), none⟩,
     ⟨(some 2), (.mv (.tmp 15)), none⟩,
     ⟨(some 3), (.mv (.const (it 0))), none⟩])
    .ret)))
def r_flash_New : List ARes := [(.tmp 2), (.tmp 3)]
theorem c_flash_New : o2 Go.Proofs.Tryd.f18.body (comp Go.Proofs.Tryd.prog Go.Proofs.Tryd.f18.ntmps) = some a_flash_New := by kernel_rfl
theorem s_flash_New : cRess Go.Proofs.Tryd.prog Go.Proofs.Tryd.f18.results.toList = some r_flash_New := by kernel_rfl
theorem m_flash_New (C : Ctx) (hC : CtxOK C Go.Proofs.Tryd.prog) : Meets C.glob Go.Proofs.Tryd.prog 18 (afun C 1 r_flash_New a_flash_New) :=
  fn_sound hC Go.Proofs.Tryd.func18 c_flash_New s_flash_New (Nat.le_of_ble_eq_true (by kernel_rfl))

/-- curtilage/journal.First -/
def a_journal_First : ACode :=
 (.seq
  (.region false [⟨(some 0), (.alloc S1 (.agg S1 [(.raw (u32 0#32)), (.raw (it 0)), (.raw (it 0)), (.raw (it 0))])), none⟩])
  (.seq
   (.region false [⟨(some 1), (.build S1 [(.raw (u32 0#32)), (.raw (it 0)), (.raw (it 0)), (.raw (it 0))] [(2, (.const (it (-1))))]), none⟩,
    ⟨none, (.store S1 (.tmp 0) (.tmp 1)), none⟩])
   .ret))
def r_journal_First : List ARes := [(.cell 0 S1)]
theorem c_journal_First : o2 Go.Proofs.Tryd.f19.body (comp Go.Proofs.Tryd.prog Go.Proofs.Tryd.f19.ntmps) = some a_journal_First := by kernel_rfl
theorem s_journal_First : cRess Go.Proofs.Tryd.prog Go.Proofs.Tryd.f19.results.toList = some r_journal_First := by kernel_rfl
theorem m_journal_First (C : Ctx) (hC : CtxOK C Go.Proofs.Tryd.prog) : Meets C.glob Go.Proofs.Tryd.prog 19 (afun C 0 r_journal_First a_journal_First) :=
  fn_sound hC Go.Proofs.Tryd.func19 c_journal_First s_journal_First (Nat.le_of_ble_eq_true (by kernel_rfl))

/-- curtilage/journal.Next -/
def a_journal_Next : ACode :=
 (.seq
  (.region false [⟨(some 3), (.box S1 (.tmp 1)), none⟩,
   ⟨(some 4), (.mv (.const (.slice none 0 0))), none⟩])
  (.seq
   (.region false [⟨(some 9), (.mv (.tmp 0)), none⟩,
    ⟨(some 10), (.call 22 [(.tmp 9)]), none⟩,
    ⟨(some 8), (.mv (.tmp 10)), none⟩,
    ⟨(some 11), (.ext (.tmp 8) 0), none⟩,
    ⟨(some 12), (.ext (.tmp 8) 1), none⟩,
    ⟨(some 5), (.alloc S1 (.agg S1 [(.raw (u32 0#32)), (.raw (it 0)), (.raw (it 0)), (.raw (it 0))])), none⟩,
    ⟨none, (.store S1 (.tmp 5) (.tmp 11)), none⟩,
    ⟨(some 6), (.mv (.tmp 12)), none⟩])
   (.seq
    (.region false [⟨(some 13), (.faddr S1 (.tmp 5) 0), none⟩,
     ⟨(some 14), (.load L32 (.tmp 13)), none⟩,
     ⟨(some 15), (.bin .add (.tmp 14) (.const (u32 1#32))), none⟩,
     ⟨(some 16), (.faddr S1 (.tmp 3) 0), none⟩,
     ⟨none, (.store L32 (.tmp 16) (.tmp 15)), none⟩])
    (.seq
     (.seq
      (.region false [⟨(some 17), (.faddr S1 (.tmp 3) 0), none⟩,
       ⟨(some 18), (.load L32 (.tmp 17)), none⟩,
       ⟨(some 19), (.bin .eql (.tmp 18) (.const (u32 0#32))), none⟩,
       ⟨(some 20), (.mv (.tmp 19)), none⟩,
       ⟨(some 21), (.load S1 (.tmp 3)), some (20, false)⟩,
       ⟨(some 22), (.call 12 [(.tmp 21)]), some (20, false)⟩,
       ⟨(some 23), (.un .not (.tmp 22)), some (20, false)⟩,
       ⟨(some 24), (.pick (.tmp 20) (.const (.bool true)) (.tmp 23)), none⟩])
      (.cond (.tmp 24)
       (.seq
        (.region false [⟨(some 4), (.mv (.const (.slice none 0 0))), none⟩])
        .ret)
       .skip))
     (.seq
      (.region false [⟨(some 7), (.mv (.const (it 32))), none⟩])
      (.seq
       (.seq
        (.region false [⟨(some 25), (.mv (.tmp 6)), none⟩,
         ⟨(some 26), (.bin .eql (.tmp 25) (.const (it 32))), none⟩])
        (.cond (.tmp 26)
         (.region false [⟨(some 7), (.mv (.const (it 33))), none⟩])
         .skip))
       (.seq
        (.region false [⟨(some 27), (.mv (.tmp 7)), none⟩,
         ⟨(some 28), (.build S2 [(.raw (u8 0#8)), (.raw (it 0)), (.raw (it 0)), (.raw (.slice none 0 0)), (.raw (it 0)), (.raw (u32 0#32))] [(0, (.const (u8 1#8))), (1, (.tmp 27))]), none⟩,
         ⟨(some 29), (.mv (.tmp 7)), none⟩,
         ⟨(some 30), (.load S1 (.tmp 3)), none⟩,
         ⟨(some 31), (.call 10 [(.tmp 30)]), none⟩,
         ⟨(some 32), (.build S2 [(.raw (u8 0#8)), (.raw (it 0)), (.raw (it 0)), (.raw (.slice none 0 0)), (.raw (it 0)), (.raw (u32 0#32))] [(0, (.const (u8 2#8))), (1, (.tmp 29)), (3, (.tmp 31))]), none⟩,
         ⟨(some 33), (.bslice S2 2 (.agg S2 [(.raw (u8 0#8)), (.raw (it 0)), (.raw (it 0)), (.raw (.slice none 0 0)), (.raw (it 0)), (.raw (u32 0#32))]) [(0, (.tmp 28)), (1, (.tmp 32))]), none⟩,
         ⟨(some 4), (.mv (.tmp 33)), none⟩])
        .ret)))))))
def r_journal_Next : List ARes := [(.tmp 4)]
theorem c_journal_Next : o2 Go.Proofs.Tryd.f20.body (comp Go.Proofs.Tryd.prog Go.Proofs.Tryd.f20.ntmps) = some a_journal_Next := by kernel_rfl
theorem s_journal_Next : cRess Go.Proofs.Tryd.prog Go.Proofs.Tryd.f20.results.toList = some r_journal_Next := by kernel_rfl
theorem m_journal_Next (C : Ctx) (hC : CtxOK C Go.Proofs.Tryd.prog) : Meets C.glob Go.Proofs.Tryd.prog 20 (afun C 2 r_journal_Next a_journal_Next) :=
  fn_sound hC Go.Proofs.Tryd.func20 c_journal_Next s_journal_Next (Nat.le_of_ble_eq_true (by kernel_rfl))

/-- curtilage/journal.Do -/
def a_journal_Do : ACode :=
 (.seq
  (.region false [⟨(some 6), (.mv (.const (it 0))), none⟩])
  (.seq
   (.seq
    (.region false [⟨(some 10), (.mv (.tmp 2)), none⟩,
     ⟨(some 11), (.len (.tmp 10)), none⟩,
     ⟨(some 12), (.mv (.const (it 0))), none⟩])
    (.block 0
     (.loop
      (.seq
       (.region false [⟨(some 13), (.bin .lss (.tmp 12) (.tmp 11)), none⟩])
       (.seq
        (.cond (.tmp 13)
         .skip
         (.exit 0))
        (.seq
         (.block 1
          (.seq
           (.region false [⟨(some 14), (.iaddrs S2 (.tmp 10) (.tmp 12)), none⟩,
            ⟨(some 15), (.load S2 (.tmp 14)), none⟩,
            ⟨(some 8), (.alloc S2 (.agg S2 [(.raw (u8 0#8)), (.raw (it 0)), (.raw (it 0)), (.raw (.slice none 0 0)), (.raw (it 0)), (.raw (u32 0#32))])), none⟩,
            ⟨none, (.store S2 (.tmp 8) (.tmp 15)), none⟩])
           (.seq
            (.draw1 [⟨(some 16), (.mv (.tmp 0)), none⟩,
             ⟨(some 17), (.mv (.tmp 1)), none⟩,
             ⟨(some 18), (.load S2 (.tmp 8)), none⟩,
             ⟨(some 19), (.call 35 []), none⟩]
             [⟨(some 20), (.call 27 [(.tmp 16), (.tmp 17), (.tmp 18), (.tmp 19)]), none⟩,
             ⟨(some 9), (.mv (.tmp 20)), none⟩])
            (.seq
             (.region false [⟨(some 21), (.mv (.tmp 9)), none⟩,
              ⟨(some 22), (.bin .neq (.tmp 21) (.const (it 0))), none⟩])
             (.cond (.tmp 22)
              (.seq
               (.region false [⟨(some 23), (.mv (.tmp 9)), none⟩,
                ⟨(some 6), (.mv (.tmp 23)), none⟩])
               .ret)
              .skip)))))
         (.region false [⟨(some 24), (.bin .add (.tmp 12) (.const (it 1))), none⟩,
          ⟨(some 12), (.mv (.tmp 24)), none⟩])))))))
   (.seq
    (.region false [⟨(some 6), (.mv (.const (it 0))), none⟩])
    .ret)))
def r_journal_Do : List ARes := [(.tmp 6)]
theorem c_journal_Do : o2 Go.Proofs.Tryd.f21.body (comp Go.Proofs.Tryd.prog Go.Proofs.Tryd.f21.ntmps) = some a_journal_Do := by kernel_rfl
theorem s_journal_Do : cRess Go.Proofs.Tryd.prog Go.Proofs.Tryd.f21.results.toList = some r_journal_Do := by kernel_rfl
theorem m_journal_Do (C : Ctx) (hC : CtxOK C Go.Proofs.Tryd.prog) : Meets C.glob Go.Proofs.Tryd.prog 21 (afun C 3 r_journal_Do a_journal_Do) :=
  fn_sound hC Go.Proofs.Tryd.func21 c_journal_Do s_journal_Do (Nat.le_of_ble_eq_true (by kernel_rfl))

/-- curtilage/journal.Read -/
def a_journal_Read : ACode :=
 (.seq
  (.region false [⟨(some 2), (.alloc S1 (.agg S1 [(.raw (u32 0#32)), (.raw (it 0)), (.raw (it 0)), (.raw (it 0))])), none⟩,
   ⟨(some 3), (.mv (.const (it 0))), none⟩])
  (.seq
   (.region false [⟨(some 11), (.call 19 []), none⟩,
    ⟨(some 4), (.alloc S1 (.agg S1 [(.raw (u32 0#32)), (.raw (it 0)), (.raw (it 0)), (.raw (it 0))])), none⟩,
    ⟨none, (.store S1 (.tmp 4) (.tmp 11)), none⟩,
    ⟨(some 5), (.mv (.const (it (-1)))), none⟩])
   (.seq
    (.seq
     (.region false [⟨(some 6), (.mv (.const (it 32))), none⟩])
     (.block 0
      (.loop
       (.seq
        (.seq
         (.region false [⟨(some 12), (.mv (.tmp 6)), none⟩,
          ⟨(some 13), (.bin .lss (.tmp 12) (.const (it 34))), none⟩])
         (.cond (.tmp 13)
          .skip
          (.exit 0)))
        (.seq
         (.block 1
          (.seq
           (.region false [⟨(some 17), (.mv (.tmp 0)), none⟩,
            ⟨(some 18), (.mv (.tmp 6)), none⟩,
            ⟨(some 19), (.bin .mul (.const (it 256)) (.tmp 18)), none⟩,
            ⟨(some 20), (.call 36 [(.tmp 17), (.tmp 19), (.const (it 32))]), none⟩,
            ⟨(some 16), (.mv (.tmp 20)), none⟩,
            ⟨(some 21), (.ext (.tmp 16) 0), none⟩,
            ⟨(some 22), (.ext (.tmp 16) 1), none⟩,
            ⟨(some 7), (.mv (.tmp 21)), none⟩,
            ⟨(some 8), (.mv (.tmp 22)), none⟩])
           (.seq
            (.seq
             (.region false [⟨(some 23), (.mv (.tmp 8)), none⟩,
              ⟨(some 24), (.bin .neq (.tmp 23) (.const (it 0))), none⟩])
             (.cond (.tmp 24)
              (.exit 1)
              .skip))
            (.seq
             (.region false [⟨(some 26), (.mv (.tmp 7)), none⟩,
              ⟨(some 27), (.call 16 [(.tmp 26)]), none⟩,
              ⟨(some 25), (.mv (.tmp 27)), none⟩,
              ⟨(some 28), (.ext (.tmp 25) 0), none⟩,
              ⟨(some 29), (.ext (.tmp 25) 1), none⟩,
              ⟨(some 9), (.alloc S1 (.agg S1 [(.raw (u32 0#32)), (.raw (it 0)), (.raw (it 0)), (.raw (it 0))])), none⟩,
              ⟨none, (.store S1 (.tmp 9) (.tmp 28)), none⟩,
              ⟨(some 10), (.mv (.tmp 29)), none⟩])
             (.seq
              (.region false [⟨(some 30), (.mv (.tmp 10)), none⟩,
               ⟨(some 31), (.mv (.tmp 30)), none⟩,
               ⟨(some 32), (.mv (.tmp 5)), some (31, true)⟩,
               ⟨(some 33), (.bin .eql (.tmp 32) (.const (it (-1)))), some (31, true)⟩,
               ⟨(some 34), (.mv (.tmp 33)), some (31, true)⟩,
               ⟨(some 35), (.faddr S1 (.tmp 9) 0), some (34, false)⟩,
               ⟨(some 36), (.load L32 (.tmp 35)), some (34, false)⟩,
               ⟨(some 37), (.faddr S1 (.tmp 4) 0), some (34, false)⟩,
               ⟨(some 38), (.load L32 (.tmp 37)), some (34, false)⟩,
               ⟨(some 39), (.bin .gtr (.tmp 36) (.tmp 38)), some (34, false)⟩,
               ⟨(some 40), (.pick (.tmp 34) (.const (.bool true)) (.tmp 39)), some (31, true)⟩,
               ⟨(some 41), (.pick (.tmp 31) (.tmp 40) (.const (.bool false))), none⟩])
              (.cond (.tmp 41)
               (.region false [⟨(some 42), (.load S1 (.tmp 9)), none⟩,
                ⟨(some 43), (.mv (.tmp 6)), none⟩,
                ⟨none, (.store S1 (.tmp 4) (.tmp 42)), none⟩,
                ⟨(some 5), (.mv (.tmp 43)), none⟩])
               .skip))))))
         (.region false [⟨(some 14), (.mv (.tmp 6)), none⟩,
          ⟨(some 15), (.bin .add (.tmp 14) (.const (it 1))), none⟩,
          ⟨(some 6), (.mv (.tmp 15)), none⟩]))))))
    (.seq
     (.region false [⟨(some 44), (.load S1 (.tmp 4)), none⟩,
      ⟨(some 45), (.mv (.tmp 5)), none⟩,
      ⟨none, (.store S1 (.tmp 2) (.tmp 44)), none⟩,
      ⟨(some 3), (.mv (.tmp 45)), none⟩])
     .ret))))
def r_journal_Read : List ARes := [(.cell 2 S1), (.tmp 3)]
theorem c_journal_Read : o2 Go.Proofs.Tryd.f22.body (comp Go.Proofs.Tryd.prog Go.Proofs.Tryd.f22.ntmps) = some a_journal_Read := by kernel_rfl
theorem s_journal_Read : cRess Go.Proofs.Tryd.prog Go.Proofs.Tryd.f22.results.toList = some r_journal_Read := by kernel_rfl
theorem m_journal_Read (C : Ctx) (hC : CtxOK C Go.Proofs.Tryd.prog) : Meets C.glob Go.Proofs.Tryd.prog 22 (afun C 1 r_journal_Read a_journal_Read) :=
  fn_sound hC Go.Proofs.Tryd.func22 c_journal_Read s_journal_Read (Nat.le_of_ble_eq_true (by kernel_rfl))

/-- (*curtilage/flash.Flash).Pages -/
def a_flash_Flash_Pages : ACode :=
 (.seq
  (.region false [⟨(some 4), (.mv (.const (.slice none 0 0))), none⟩])
  (.seq
   (.region false [⟨(some 5), (.mv (.const (.slice none 0 0))), none⟩])
   (.seq
    (.seq
     (.region false [⟨(some 8), (.mv (.tmp 1)), none⟩,
      ⟨(some 9), (.len (.tmp 8)), none⟩,
      ⟨(some 10), (.mv (.const (it 0))), none⟩])
     (.block 0
      (.loop
       (.seq
        (.region false [⟨(some 11), (.bin .lss (.tmp 10) (.tmp 9)), none⟩])
        (.seq
         (.cond (.tmp 11)
          .skip
          (.exit 0))
         (.seq
          (.block 1
           (.seq
            (.region false [⟨(some 12), (.iaddrs LI (.tmp 8) (.tmp 10)), none⟩,
             ⟨(some 13), (.load LI (.tmp 12)), none⟩,
             ⟨(some 7), (.mv (.tmp 13)), none⟩])
            (.seq
             (.region false [⟨(some 14), (.mv (.tmp 0)), none⟩,
              ⟨(some 15), (.mv (.tmp 7)), none⟩,
              ⟨(some 16), (.call 37 [(.tmp 14), (.tmp 15)]), none⟩,
              ⟨(some 17), (.bin .eql (.tmp 16) (.const (it 0))), none⟩])
             (.cond (.tmp 17)
              (.region false [⟨(some 18), (.mv (.tmp 5)), none⟩,
               ⟨(some 19), (.mv (.tmp 0)), none⟩,
               ⟨(some 20), (.nilc (.tmp 19)), none⟩,
               ⟨(some 21), (.faddr S3 (.tmp 20) 0), none⟩,
               ⟨(some 22), (.load .ref (.tmp 21)), none⟩,
               ⟨(some 23), (.mv (.tmp 7)), none⟩,
               ⟨(some 24), (.bin .mul (.const (it 256)) (.tmp 23)), none⟩,
               ⟨(some 25), (.mv (.tmp 7)), none⟩,
               ⟨(some 26), (.bin .add (.tmp 25) (.const (it 1))), none⟩,
               ⟨(some 27), (.bin .mul (.const (it 256)) (.tmp 26)), none⟩,
               ⟨(some 28), (.slice L8 (.tmp 22) (some (.tmp 24)) (some (.tmp 27)) none), none⟩,
               ⟨(some 29), (.append L8 1 (.tmp 18) (.tmp 28)), none⟩,
               ⟨(some 5), (.mv (.tmp 29)), none⟩])
              .skip))))
          (.region false [⟨(some 30), (.bin .add (.tmp 10) (.const (it 1))), none⟩,
           ⟨(some 10), (.mv (.tmp 30)), none⟩])))))))
    (.seq
     (.region false [⟨(some 31), (.mv (.tmp 5)), none⟩,
      ⟨(some 4), (.mv (.tmp 31)), none⟩])
     .ret))))
def r_flash_Flash_Pages : List ARes := [(.tmp 4)]
theorem c_flash_Flash_Pages : o2 Go.Proofs.Tryd.f23.body (comp Go.Proofs.Tryd.prog Go.Proofs.Tryd.f23.ntmps) = some a_flash_Flash_Pages := by kernel_rfl
theorem s_flash_Flash_Pages : cRess Go.Proofs.Tryd.prog Go.Proofs.Tryd.f23.results.toList = some r_flash_Flash_Pages := by kernel_rfl
theorem m_flash_Flash_Pages (C : Ctx) (hC : CtxOK C Go.Proofs.Tryd.prog) : Meets C.glob Go.Proofs.Tryd.prog 23 (afun C 2 r_flash_Flash_Pages a_flash_Flash_Pages) :=
  fn_sound hC Go.Proofs.Tryd.func23 c_flash_Flash_Pages s_flash_Flash_Pages (Nat.le_of_ble_eq_true (by kernel_rfl))

/-- curtilage/curtilagelaw22.lay -/
def a_law22_lay : ACode :=
 (.seq
  (.region false [⟨(some 4), (.mv (.const (.pointer none))), none⟩])
  (.seq
   (.region false [⟨(some 8), (.call 18 [(.const (it 40))]), none⟩,
    ⟨(some 7), (.mv (.tmp 8)), none⟩,
    ⟨(some 9), (.ext (.tmp 7) 0), none⟩,
    ⟨(some 10), (.ext (.tmp 7) 1), none⟩,
    ⟨(some 5), (.mv (.tmp 9)), none⟩,
    ⟨(some 6), (.mv (.tmp 10)), none⟩])
   (.seq
    (.region false [⟨(some 11), (.mv (.tmp 5)), none⟩,
     ⟨(some 12), (.mv (.tmp 0)), none⟩,
     ⟨(some 13), (.call 9 [(.tmp 12), (.const (it 256))]), none⟩,
     ⟨(some 14), (.call 38 [(.tmp 11), (.const (it 8192)), (.tmp 13)]), none⟩])
    (.seq
     (.region false [⟨(some 15), (.mv (.tmp 5)), none⟩,
      ⟨(some 16), (.mv (.tmp 1)), none⟩,
      ⟨(some 17), (.call 9 [(.tmp 16), (.const (it 256))]), none⟩,
      ⟨(some 18), (.call 38 [(.tmp 15), (.const (it 8448)), (.tmp 17)]), none⟩])
     (.seq
      (.region false [⟨(some 19), (.mv (.tmp 5)), none⟩,
       ⟨(some 4), (.mv (.tmp 19)), none⟩])
      .ret)))))
def r_law22_lay : List ARes := [(.tmp 4)]
theorem c_law22_lay : o2 Go.Proofs.Tryd.f24.body (comp Go.Proofs.Tryd.prog Go.Proofs.Tryd.f24.ntmps) = some a_law22_lay := by kernel_rfl
theorem s_law22_lay : cRess Go.Proofs.Tryd.prog Go.Proofs.Tryd.f24.results.toList = some r_law22_lay := by kernel_rfl
theorem m_law22_lay (C : Ctx) (hC : CtxOK C Go.Proofs.Tryd.prog) : Meets C.glob Go.Proofs.Tryd.prog 24 (afun C 2 r_law22_lay a_law22_lay) :=
  fn_sound hC Go.Proofs.Tryd.func24 c_law22_lay s_law22_lay (Nat.le_of_ble_eq_true (by kernel_rfl))

/-- curtilage/curtilageref22.Read -/
def a_ref22_Read : ACode :=
 (.seq
  (.region false [⟨(some 2), (.alloc S1 (.agg S1 [(.raw (u32 0#32)), (.raw (it 0)), (.raw (it 0)), (.raw (it 0))])), none⟩,
   ⟨(some 3), (.mv (.const (it 0))), none⟩])
  (.seq
   (.seq
    (.region false [⟨(some 8), (.mv (.tmp 0)), none⟩,
     ⟨(some 9), (.len (.tmp 8)), none⟩,
     ⟨(some 10), (.bin .lss (.tmp 9) (.const (it 8704))), none⟩])
    (.cond (.tmp 10)
     (.seq
      (.region false [⟨(some 11), (.build S1 [(.raw (u32 0#32)), (.raw (it 0)), (.raw (it 0)), (.raw (it 0))] [(2, (.const (it (-1))))]), none⟩,
       ⟨none, (.store S1 (.tmp 2) (.tmp 11)), none⟩,
       ⟨(some 3), (.mv (.const (it (-1)))), none⟩])
      .ret)
     .skip))
   (.seq
    (.region false [⟨(some 13), (.mv (.tmp 0)), none⟩,
     ⟨(some 14), (.slice L8 (.tmp 13) (some (.const (it 8192))) (some (.const (it 8224))) none), none⟩,
     ⟨(some 15), (.call 17 [(.tmp 14)]), none⟩,
     ⟨(some 12), (.mv (.tmp 15)), none⟩,
     ⟨(some 16), (.ext (.tmp 12) 0), none⟩,
     ⟨(some 17), (.ext (.tmp 12) 1), none⟩,
     ⟨(some 4), (.alloc S1 (.agg S1 [(.raw (u32 0#32)), (.raw (it 0)), (.raw (it 0)), (.raw (it 0))])), none⟩,
     ⟨none, (.store S1 (.tmp 4) (.tmp 16)), none⟩,
     ⟨(some 5), (.mv (.tmp 17)), none⟩])
    (.seq
     (.region false [⟨(some 19), (.mv (.tmp 0)), none⟩,
      ⟨(some 20), (.slice L8 (.tmp 19) (some (.const (it 8448))) (some (.const (it 8480))) none), none⟩,
      ⟨(some 21), (.call 17 [(.tmp 20)]), none⟩,
      ⟨(some 18), (.mv (.tmp 21)), none⟩,
      ⟨(some 22), (.ext (.tmp 18) 0), none⟩,
      ⟨(some 23), (.ext (.tmp 18) 1), none⟩,
      ⟨(some 6), (.alloc S1 (.agg S1 [(.raw (u32 0#32)), (.raw (it 0)), (.raw (it 0)), (.raw (it 0))])), none⟩,
      ⟨none, (.store S1 (.tmp 6) (.tmp 22)), none⟩,
      ⟨(some 7), (.mv (.tmp 23)), none⟩])
     (.seq
      (.block 0
       (.seq
        (.region false [⟨(some 25), (.mv (.tmp 5)), none⟩,
         ⟨(some 26), (.mv (.tmp 25)), none⟩,
         ⟨(some 27), (.mv (.tmp 7)), some (26, true)⟩,
         ⟨(some 28), (.un .not (.tmp 27)), some (26, true)⟩,
         ⟨(some 29), (.mv (.tmp 28)), some (26, true)⟩,
         ⟨(some 30), (.faddr S1 (.tmp 4) 0), some (29, false)⟩,
         ⟨(some 31), (.load L32 (.tmp 30)), some (29, false)⟩,
         ⟨(some 32), (.faddr S1 (.tmp 6) 0), some (29, false)⟩,
         ⟨(some 33), (.load L32 (.tmp 32)), some (29, false)⟩,
         ⟨(some 34), (.bin .geq (.tmp 31) (.tmp 33)), some (29, false)⟩,
         ⟨(some 35), (.pick (.tmp 29) (.const (.bool true)) (.tmp 34)), some (26, true)⟩,
         ⟨(some 36), (.pick (.tmp 26) (.tmp 35) (.const (.bool false))), none⟩,
         ⟨(some 24), (.mv (.tmp 36)), none⟩])
        (.cond (.tmp 24)
         (.seq
          (.region false [⟨(some 37), (.load S1 (.tmp 4)), none⟩,
           ⟨none, (.store S1 (.tmp 2) (.tmp 37)), none⟩,
           ⟨(some 3), (.mv (.const (it 32))), none⟩])
          .ret)
         (.seq
          (.region false [⟨(some 39), (.mv (.tmp 7)), none⟩,
           ⟨(some 38), (.mv (.tmp 39)), none⟩])
          (.cond (.tmp 38)
           (.seq
            (.region false [⟨(some 40), (.load S1 (.tmp 6)), none⟩,
             ⟨none, (.store S1 (.tmp 2) (.tmp 40)), none⟩,
             ⟨(some 3), (.mv (.const (it 33))), none⟩])
            .ret)
           .skip)))))
      (.seq
       (.region false [⟨(some 41), (.build S1 [(.raw (u32 0#32)), (.raw (it 0)), (.raw (it 0)), (.raw (it 0))] [(2, (.const (it (-1))))]), none⟩,
        ⟨none, (.store S1 (.tmp 2) (.tmp 41)), none⟩,
        ⟨(some 3), (.mv (.const (it (-1)))), none⟩])
       .ret))))))
def r_ref22_Read : List ARes := [(.cell 2 S1), (.tmp 3)]
theorem c_ref22_Read : o2 Go.Proofs.Tryd.f25.body (comp Go.Proofs.Tryd.prog Go.Proofs.Tryd.f25.ntmps) = some a_ref22_Read := by kernel_rfl
theorem s_ref22_Read : cRess Go.Proofs.Tryd.prog Go.Proofs.Tryd.f25.results.toList = some r_ref22_Read := by kernel_rfl
theorem m_ref22_Read (C : Ctx) (hC : CtxOK C Go.Proofs.Tryd.prog) : Meets C.glob Go.Proofs.Tryd.prog 25 (afun C 1 r_ref22_Read a_ref22_Read) :=
  fn_sound hC Go.Proofs.Tryd.func25 c_ref22_Read s_ref22_Read (Nat.le_of_ble_eq_true (by kernel_rfl))

/-- curtilage/curtilagelaw22.all -/
def a_law22_all : ACode :=
 (.seq
  (.region false [⟨(some 2), (.mv (.const (.slice none 0 0))), none⟩])
  (.seq
   (.region false [⟨(some 6), (.mv (.tmp 0)), none⟩,
    ⟨(some 7), (.mv (.tmp 0)), none⟩,
    ⟨(some 8), (.call 39 [(.tmp 7)]), none⟩,
    ⟨(some 9), (.call 36 [(.tmp 6), (.const (it 0)), (.tmp 8)]), none⟩,
    ⟨(some 5), (.mv (.tmp 9)), none⟩,
    ⟨(some 10), (.ext (.tmp 5) 0), none⟩,
    ⟨(some 11), (.ext (.tmp 5) 1), none⟩,
    ⟨(some 3), (.mv (.tmp 10)), none⟩,
    ⟨(some 4), (.mv (.tmp 11)), none⟩])
   (.seq
    (.region false [⟨(some 12), (.mv (.tmp 3)), none⟩,
     ⟨(some 2), (.mv (.tmp 12)), none⟩])
    .ret)))
def r_law22_all : List ARes := [(.tmp 2)]
theorem c_law22_all : o2 Go.Proofs.Tryd.f26.body (comp Go.Proofs.Tryd.prog Go.Proofs.Tryd.f26.ntmps) = some a_law22_all := by kernel_rfl
theorem s_law22_all : cRess Go.Proofs.Tryd.prog Go.Proofs.Tryd.f26.results.toList = some r_law22_all := by kernel_rfl
theorem m_law22_all (C : Ctx) (hC : CtxOK C Go.Proofs.Tryd.prog) : Meets C.glob Go.Proofs.Tryd.prog 26 (afun C 1 r_law22_all a_law22_all) :=
  fn_sound hC Go.Proofs.Tryd.func26 c_law22_all s_law22_all (Nat.le_of_ble_eq_true (by kernel_rfl))

/-- curtilage/journal.Tear -/
def a_journal_Tear : ACode :=
 (.seq
  (.region false [⟨(some 6), (.box S2 (.tmp 2)), none⟩,
   ⟨(some 8), (.mv (.const (it 0))), none⟩])
  (.seq
   (.region false [⟨(some 9), (.mv (.const (.slice none 0 0))), none⟩])
   (.seq
    (.seq
     (.region false [⟨(some 14), (.faddr S2 (.tmp 6) 0), none⟩,
      ⟨(some 15), (.load L8 (.tmp 14)), none⟩])
     (.block 0
      (.seq
       (.region false [⟨(some 17), (.bin .eql (.tmp 15) (.const (u8 3#8))), none⟩,
        ⟨(some 16), (.mv (.tmp 17)), none⟩])
       (.cond (.tmp 16)
        (.seq
         (.region false [⟨(some 10), (.alloc (.ar 4 L8) (.agg (.ar 4 L8) (List.replicate 4 (.raw (u8 0#8))))), none⟩])
         (.seq
          (.region false [⟨(some 18), (.slicea 4 L8 (.tmp 10) none none none), none⟩,
           ⟨(some 19), (.mv (.tmp 3)), none⟩,
           ⟨(some 20), (.copy L8 (.tmp 18) (.tmp 19)), none⟩])
          (.seq
           (.region false [⟨(some 21), (.iaddra 4 L8 (.tmp 10) (.const (it 0))), none⟩,
            ⟨(some 22), (.load L8 (.tmp 21)), none⟩,
            ⟨(some 23), (.conv .u32 (.tmp 22)), none⟩,
            ⟨(some 24), (.bin .shl (.tmp 23) (.const (u64 24#64))), none⟩,
            ⟨(some 25), (.iaddra 4 L8 (.tmp 10) (.const (it 1))), none⟩,
            ⟨(some 26), (.load L8 (.tmp 25)), none⟩,
            ⟨(some 27), (.conv .u32 (.tmp 26)), none⟩,
            ⟨(some 28), (.bin .shl (.tmp 27) (.const (u64 16#64))), none⟩,
            ⟨(some 29), (.bin .or (.tmp 24) (.tmp 28)), none⟩,
            ⟨(some 30), (.iaddra 4 L8 (.tmp 10) (.const (it 2))), none⟩,
            ⟨(some 31), (.load L8 (.tmp 30)), none⟩,
            ⟨(some 32), (.conv .u32 (.tmp 31)), none⟩,
            ⟨(some 33), (.bin .shl (.tmp 32) (.const (u64 8#64))), none⟩,
            ⟨(some 34), (.bin .or (.tmp 29) (.tmp 33)), none⟩,
            ⟨(some 35), (.iaddra 4 L8 (.tmp 10) (.const (it 3))), none⟩,
            ⟨(some 36), (.load L8 (.tmp 35)), none⟩,
            ⟨(some 37), (.conv .u32 (.tmp 36)), none⟩,
            ⟨(some 38), (.bin .or (.tmp 34) (.tmp 37)), none⟩,
            ⟨(some 11), (.mv (.tmp 38)), none⟩])
           (.seq
            (.region false [⟨(some 39), (.mv (.tmp 1)), none⟩,
             ⟨(some 40), (.faddr S2 (.tmp 6) 4), none⟩,
             ⟨(some 41), (.load LI (.tmp 40)), none⟩,
             ⟨(some 42), (.faddr S2 (.tmp 6) 5), none⟩,
             ⟨(some 43), (.load L32 (.tmp 42)), none⟩,
             ⟨(some 44), (.build S4 [(.raw (it 0)), (.raw (u32 0#32))] [(0, (.tmp 41)), (1, (.tmp 43))]), none⟩,
             ⟨(some 45), (.mv (.tmp 11)), none⟩,
             ⟨(some 46), (.call 40 [(.tmp 39), (.tmp 44), (.tmp 45)]), none⟩,
             ⟨(some 8), (.mv (.tmp 46)), none⟩])
            .ret))))
        (.seq
         (.region false [⟨(some 48), (.bin .eql (.tmp 15) (.const (u8 2#8))), none⟩,
          ⟨(some 47), (.mv (.tmp 48)), none⟩])
         (.cond (.tmp 47)
          (.seq
           (.seq
            (.region false [⟨(some 49), (.faddr S2 (.tmp 6) 3), none⟩,
             ⟨(some 50), (.load .ref (.tmp 49)), none⟩,
             ⟨(some 51), (.len (.tmp 50)), none⟩,
             ⟨(some 52), (.bin .eql (.tmp 51) (.const (it 0))), none⟩])
            (.cond (.tmp 52)
             (.seq
              (.region false [⟨(some 8), (.mv (.const (it 0))), none⟩])
              .ret)
             .skip))
           (.region false [⟨(some 53), (.faddr S2 (.tmp 6) 3), none⟩,
            ⟨(some 54), (.load .ref (.tmp 53)), none⟩,
            ⟨(some 9), (.mv (.tmp 54)), none⟩]))
          (.seq
           (.region false [⟨(some 56), (.bin .eql (.tmp 15) (.const (u8 1#8))), none⟩,
            ⟨(some 55), (.mv (.tmp 56)), none⟩])
           (.cond (.tmp 55)
            .skip
            (.seq
             (.region false [⟨(some 8), (.mv (.const (it 1))), none⟩])
             .ret)))))))))
    (.seq
     (.region false [⟨(some 58), (.mv (.tmp 0)), none⟩,
      ⟨(some 59), (.faddr S2 (.tmp 6) 1), none⟩,
      ⟨(some 60), (.load LI (.tmp 59)), none⟩,
      ⟨(some 61), (.faddr S2 (.tmp 6) 2), none⟩,
      ⟨(some 62), (.load LI (.tmp 61)), none⟩,
      ⟨(some 63), (.mv (.tmp 9)), none⟩,
      ⟨(some 64), (.call 41 [(.tmp 58), (.tmp 60), (.tmp 62), (.tmp 63)]), none⟩,
      ⟨(some 57), (.mv (.tmp 64)), none⟩,
      ⟨(some 65), (.ext (.tmp 57) 0), none⟩,
      ⟨(some 66), (.ext (.tmp 57) 1), none⟩,
      ⟨(some 12), (.mv (.tmp 65)), none⟩,
      ⟨(some 13), (.mv (.tmp 66)), none⟩])
     (.seq
      (.seq
       (.region false [⟨(some 67), (.mv (.tmp 13)), none⟩,
        ⟨(some 68), (.bin .neq (.tmp 67) (.const (it 0))), none⟩])
       (.cond (.tmp 68)
        (.seq
         (.region false [⟨(some 69), (.mv (.tmp 13)), none⟩,
          ⟨(some 8), (.mv (.tmp 69)), none⟩])
         .ret)
        .skip))
      (.seq
       (.region false [⟨(some 70), (.mv (.tmp 0)), none⟩,
        ⟨(some 71), (.faddr S2 (.tmp 6) 1), none⟩,
        ⟨(some 72), (.load LI (.tmp 71)), none⟩,
        ⟨(some 73), (.mv (.tmp 12)), none⟩,
        ⟨(some 74), (.mv (.tmp 3)), none⟩,
        ⟨(some 75), (.call 42 [(.tmp 70), (.tmp 72), (.tmp 73), (.tmp 74)]), none⟩,
        ⟨(some 8), (.mv (.tmp 75)), none⟩])
       .ret))))))
def r_journal_Tear : List ARes := [(.tmp 8)]
theorem c_journal_Tear : o2 Go.Proofs.Tryd.f27.body (comp Go.Proofs.Tryd.prog Go.Proofs.Tryd.f27.ntmps) = some a_journal_Tear := by kernel_rfl
theorem s_journal_Tear : cRess Go.Proofs.Tryd.prog Go.Proofs.Tryd.f27.results.toList = some r_journal_Tear := by kernel_rfl
theorem m_journal_Tear (C : Ctx) (hC : CtxOK C Go.Proofs.Tryd.prog) : Meets C.glob Go.Proofs.Tryd.prog 27 (afun C 4 r_journal_Tear a_journal_Tear) :=
  fn_sound hC Go.Proofs.Tryd.func27 c_journal_Tear s_journal_Tear (Nat.le_of_ble_eq_true (by kernel_rfl))

/-- curtilage/sha.Sum -/
def a_sha_Sum : ACode :=
 (.seq
  (.region false [⟨(some 2), (.alloc (.ar 32 L8) (.agg (.ar 32 L8) (List.replicate 32 (.raw (u8 0#8))))), none⟩])
  (.seq
   (.region false [⟨(some 3), (.call 43 []), none⟩,
    ⟨(some 4), (.mv (.tmp 0)), none⟩,
    ⟨(some 5), (.call 45 [(.tmp 4), (.const (.slice none 0 0))]), none⟩,
    ⟨(some 6), (.call 44 [(.tmp 3), (.tmp 5)]), none⟩,
    ⟨(some 7), (.call 46 [(.tmp 6)]), none⟩,
    ⟨none, (.store (.ar 32 L8) (.tmp 2) (.tmp 7)), none⟩])
   .ret))
def r_sha_Sum : List ARes := [(.cell 2 (.ar 32 L8))]
theorem c_sha_Sum : o2 Go.Proofs.Tryd.f28.body (comp Go.Proofs.Tryd.prog Go.Proofs.Tryd.f28.ntmps) = some a_sha_Sum := by kernel_rfl
theorem s_sha_Sum : cRess Go.Proofs.Tryd.prog Go.Proofs.Tryd.f28.results.toList = some r_sha_Sum := by kernel_rfl
theorem m_sha_Sum (C : Ctx) (hC : CtxOK C Go.Proofs.Tryd.prog) : Meets C.glob Go.Proofs.Tryd.prog 28 (afun C 1 r_sha_Sum a_sha_Sum) :=
  fn_sound hC Go.Proofs.Tryd.func28 c_sha_Sum s_sha_Sum (Nat.le_of_ble_eq_true (by kernel_rfl))

/-- curtilage/journal.slot -/
def a_journal_slot : ACode :=
 (.seq
  (.region false [⟨(some 2), (.mv (.const (.bool false))), none⟩])
  (.seq
   (.region false [⟨(some 3), (.mv (.tmp 0)), none⟩,
    ⟨(some 4), (.bin .eql (.tmp 3) (.const (it 0))), none⟩,
    ⟨(some 5), (.mv (.tmp 4)), none⟩,
    ⟨(some 6), (.mv (.tmp 0)), some (5, false)⟩,
    ⟨(some 7), (.bin .eql (.tmp 6) (.const (it 1))), some (5, false)⟩,
    ⟨(some 8), (.pick (.tmp 5) (.const (.bool true)) (.tmp 7)), none⟩,
    ⟨(some 2), (.mv (.tmp 8)), none⟩])
   .ret))
def r_journal_slot : List ARes := [(.tmp 2)]
theorem c_journal_slot : o2 Go.Proofs.Tryd.f29.body (comp Go.Proofs.Tryd.prog Go.Proofs.Tryd.f29.ntmps) = some a_journal_slot := by kernel_rfl
theorem s_journal_slot : cRess Go.Proofs.Tryd.prog Go.Proofs.Tryd.f29.results.toList = some r_journal_slot := by kernel_rfl
theorem m_journal_slot (C : Ctx) (hC : CtxOK C Go.Proofs.Tryd.prog) : Meets C.glob Go.Proofs.Tryd.prog 29 (afun C 1 r_journal_slot a_journal_slot) :=
  fn_sound hC Go.Proofs.Tryd.func29 c_journal_slot s_journal_slot (Nat.le_of_ble_eq_true (by kernel_rfl))

/-- curtilage/curtilageref01.Num -/
def a_ref01_Num : ACode :=
 (.seq
  (.region false [⟨(some 4), (.mv (.const (.slice none 0 0))), none⟩])
  (.seq
   (.region false [⟨(some 7), (.mv (.tmp 1)), none⟩,
    ⟨(some 8), (.mks L8 1 (.raw (u8 0#8)) (.tmp 7) (.tmp 7)), none⟩,
    ⟨(some 5), (.mv (.tmp 8)), none⟩])
   (.seq
    (.seq
     (.region false [⟨(some 9), (.mv (.tmp 1)), none⟩,
      ⟨(some 10), (.bin .sub (.tmp 9) (.const (it 1))), none⟩,
      ⟨(some 6), (.mv (.tmp 10)), none⟩])
     (.block 0
      (.loop
       (.seq
        (.seq
         (.region false [⟨(some 11), (.mv (.tmp 6)), none⟩,
          ⟨(some 12), (.bin .geq (.tmp 11) (.const (it 0))), none⟩])
         (.cond (.tmp 12)
          .skip
          (.exit 0)))
        (.seq
         (.block 1
          (.seq
           (.region false [⟨(some 15), (.mv (.tmp 5)), none⟩,
            ⟨(some 16), (.mv (.tmp 6)), none⟩,
            ⟨(some 17), (.mv (.tmp 0)), none⟩,
            ⟨(some 18), (.bin .rem (.tmp 17) (.const (u64 256#64))), none⟩,
            ⟨(some 19), (.conv .u8 (.tmp 18)), none⟩,
            ⟨(some 20), (.iaddrs L8 (.tmp 15) (.tmp 16)), none⟩,
            ⟨none, (.store L8 (.tmp 20) (.tmp 19)), none⟩])
           (.region false [⟨(some 21), (.mv (.tmp 0)), none⟩,
            ⟨(some 22), (.bin .quo (.tmp 21) (.const (u64 256#64))), none⟩,
            ⟨(some 0), (.mv (.tmp 22)), none⟩])))
         (.region false [⟨(some 13), (.mv (.tmp 6)), none⟩,
          ⟨(some 14), (.bin .sub (.tmp 13) (.const (it 1))), none⟩,
          ⟨(some 6), (.mv (.tmp 14)), none⟩]))))))
    (.seq
     (.region false [⟨(some 23), (.mv (.tmp 5)), none⟩,
      ⟨(some 4), (.mv (.tmp 23)), none⟩])
     .ret))))
def r_ref01_Num : List ARes := [(.tmp 4)]
theorem c_ref01_Num : o2 Go.Proofs.Tryd.f30.body (comp Go.Proofs.Tryd.prog Go.Proofs.Tryd.f30.ntmps) = some a_ref01_Num := by kernel_rfl
theorem s_ref01_Num : cRess Go.Proofs.Tryd.prog Go.Proofs.Tryd.f30.results.toList = some r_ref01_Num := by kernel_rfl
theorem m_ref01_Num (C : Ctx) (hC : CtxOK C Go.Proofs.Tryd.prog) : Meets C.glob Go.Proofs.Tryd.prog 30 (afun C 2 r_ref01_Num a_ref01_Num) :=
  fn_sound hC Go.Proofs.Tryd.func30 c_ref01_Num s_ref01_Num (Nat.le_of_ble_eq_true (by kernel_rfl))

/-- curtilage/curtilageref01.Sum -/
def a_ref01_Sum : ACode :=
 (.seq
  (.region false [⟨(some 2), (.alloc (.ar 32 L8) (.agg (.ar 32 L8) (List.replicate 32 (.raw (u8 0#8))))), none⟩])
  (.seq
   (.region false [⟨(some 11), (.mv (.tmp 0)), none⟩,
    ⟨(some 12), (.len (.tmp 11)), none⟩,
    ⟨(some 13), (.conv .u64 (.tmp 12)), none⟩,
    ⟨(some 3), (.mv (.tmp 13)), none⟩])
   (.seq
    (.region false [⟨(some 14), (.mv (.tmp 0)), none⟩,
     ⟨(some 15), (.mv (.tmp 0)), none⟩,
     ⟨(some 16), (.len (.tmp 15)), none⟩,
     ⟨(some 17), (.call 9 [(.tmp 14), (.tmp 16)]), none⟩,
     ⟨(some 18), (.bslice L8 1 (.raw (u8 0#8)) [(0, (.const (u8 128#8)))]), none⟩,
     ⟨(some 19), (.append L8 1 (.tmp 17) (.tmp 18)), none⟩,
     ⟨(some 0), (.mv (.tmp 19)), none⟩])
    (.seq
     (.block 0
      (.loop
       (.seq
        (.seq
         (.region false [⟨(some 20), (.mv (.tmp 0)), none⟩,
          ⟨(some 21), (.len (.tmp 20)), none⟩,
          ⟨(some 22), (.bin .rem (.tmp 21) (.const (it 64))), none⟩,
          ⟨(some 23), (.bin .neq (.tmp 22) (.const (it 56))), none⟩])
         (.cond (.tmp 23)
          .skip
          (.exit 0)))
        (.block 1
         (.region false [⟨(some 24), (.mv (.tmp 0)), none⟩,
          ⟨(some 25), (.bslice L8 1 (.raw (u8 0#8)) [(0, (.const (u8 0#8)))]), none⟩,
          ⟨(some 26), (.append L8 1 (.tmp 24) (.tmp 25)), none⟩,
          ⟨(some 0), (.mv (.tmp 26)), none⟩])))))
     (.seq
      (.region false [⟨(some 27), (.mv (.tmp 0)), none⟩,
       ⟨(some 28), (.mv (.tmp 3)), none⟩,
       ⟨(some 29), (.bin .mul (.const (u64 8#64)) (.tmp 28)), none⟩,
       ⟨(some 30), (.call 30 [(.tmp 29), (.const (it 8))]), none⟩,
       ⟨(some 31), (.append L8 1 (.tmp 27) (.tmp 30)), none⟩,
       ⟨(some 0), (.mv (.tmp 31)), none⟩])
      (.seq
       (.region false [⟨(some 32), (.build (.ar 8 L32) (List.replicate 8 (.raw (u32 0#32))) [(0, (.const (u32 1779033703#32))), (1, (.const (u32 3144134277#32))), (2, (.const (u32 1013904242#32))), (3, (.const (u32 2773480762#32))), (4, (.const (u32 1359893119#32))), (5, (.const (u32 2600822924#32))), (6, (.const (u32 528734635#32))), (7, (.const (u32 1541459225#32)))]), none⟩,
        ⟨(some 4), (.alloc (.ar 8 L32) (.agg (.ar 8 L32) (List.replicate 8 (.raw (u32 0#32))))), none⟩,
        ⟨none, (.store (.ar 8 L32) (.tmp 4) (.tmp 32)), none⟩])
       (.seq
        (.seq
         (.region false [⟨(some 5), (.mv (.const (it 0))), none⟩])
         (.block 2
          (.loop
           (.seq
            (.seq
             (.region false [⟨(some 33), (.mv (.tmp 5)), none⟩,
              ⟨(some 34), (.mv (.tmp 0)), none⟩,
              ⟨(some 35), (.len (.tmp 34)), none⟩,
              ⟨(some 36), (.bin .lss (.tmp 33) (.tmp 35)), none⟩])
             (.cond (.tmp 36)
              .skip
              (.exit 2)))
            (.seq
             (.block 3
              (.draw1 [⟨(some 39), (.load (.ar 8 L32) (.tmp 4)), none⟩,
               ⟨(some 40), (.mv (.tmp 0)), none⟩,
               ⟨(some 41), (.mv (.tmp 5)), none⟩,
               ⟨(some 42), (.mv (.tmp 5)), none⟩,
               ⟨(some 43), (.bin .add (.tmp 42) (.const (it 64))), none⟩,
               ⟨(some 44), (.slice L8 (.tmp 40) (some (.tmp 41)) (some (.tmp 43)) none), none⟩]
               [⟨(some 45), (.call 47 [(.tmp 39), (.tmp 44)]), none⟩,
               ⟨none, (.store (.ar 8 L32) (.tmp 4) (.tmp 45)), none⟩]))
             (.region false [⟨(some 37), (.mv (.tmp 5)), none⟩,
              ⟨(some 38), (.bin .add (.tmp 37) (.const (it 64))), none⟩,
              ⟨(some 5), (.mv (.tmp 38)), none⟩]))))))
        (.seq
         (.region false [⟨(some 6), (.alloc (.ar 32 L8) (.agg (.ar 32 L8) (List.replicate 32 (.raw (u8 0#8))))), none⟩])
         (.seq
          (.seq
           (.region false [⟨(some 46), (.load (.ar 8 L32) (.tmp 4)), none⟩,
            ⟨(some 47), (.mv (.const (it 0))), none⟩])
           (.block 4
            (.loop
             (.seq
              (.region false [⟨(some 48), (.bin .lss (.tmp 47) (.const (it 8))), none⟩])
              (.seq
               (.cond (.tmp 48)
                .skip
                (.exit 4))
               (.seq
                (.block 5
                 (.seq
                  (.region false [⟨(some 49), (.mv (.tmp 47)), none⟩,
                   ⟨(some 50), (.index 8 L32 (.tmp 46) (.tmp 47)), none⟩,
                   ⟨(some 7), (.mv (.tmp 49)), none⟩,
                   ⟨(some 8), (.mv (.tmp 50)), none⟩])
                  (.seq
                   (.region false [⟨(some 51), (.mv (.tmp 8)), none⟩,
                    ⟨(some 52), (.conv .u64 (.tmp 51)), none⟩,
                    ⟨(some 53), (.call 30 [(.tmp 52), (.const (it 4))]), none⟩,
                    ⟨(some 54), (.len (.tmp 53)), none⟩,
                    ⟨(some 55), (.mv (.const (it 0))), none⟩])
                   (.block 6
                    (.loop
                     (.seq
                      (.region false [⟨(some 56), (.bin .lss (.tmp 55) (.tmp 54)), none⟩])
                      (.seq
                       (.cond (.tmp 56)
                        .skip
                        (.exit 6))
                       (.seq
                        (.block 7
                         (.seq
                          (.region false [⟨(some 57), (.mv (.tmp 55)), none⟩,
                           ⟨(some 58), (.iaddrs L8 (.tmp 53) (.tmp 55)), none⟩,
                           ⟨(some 59), (.load L8 (.tmp 58)), none⟩,
                           ⟨(some 9), (.mv (.tmp 57)), none⟩,
                           ⟨(some 10), (.mv (.tmp 59)), none⟩])
                          (.region false [⟨(some 60), (.mv (.tmp 7)), none⟩,
                           ⟨(some 61), (.bin .mul (.const (it 4)) (.tmp 60)), none⟩,
                           ⟨(some 62), (.mv (.tmp 9)), none⟩,
                           ⟨(some 63), (.bin .add (.tmp 61) (.tmp 62)), none⟩,
                           ⟨(some 64), (.mv (.tmp 10)), none⟩,
                           ⟨(some 65), (.iaddra 32 L8 (.tmp 6) (.tmp 63)), none⟩,
                           ⟨none, (.store L8 (.tmp 65) (.tmp 64)), none⟩])))
                        (.region false [⟨(some 66), (.bin .add (.tmp 55) (.const (it 1))), none⟩,
                         ⟨(some 55), (.mv (.tmp 66)), none⟩])))))))))
                (.region false [⟨(some 67), (.bin .add (.tmp 47) (.const (it 1))), none⟩,
                 ⟨(some 47), (.mv (.tmp 67)), none⟩])))))))
          (.seq
           (.region false [⟨(some 68), (.load (.ar 32 L8) (.tmp 6)), none⟩,
            ⟨none, (.store (.ar 32 L8) (.tmp 2) (.tmp 68)), none⟩])
           .ret))))))))))
def r_ref01_Sum : List ARes := [(.cell 2 (.ar 32 L8))]
theorem c_ref01_Sum : o2 Go.Proofs.Tryd.f31.body (comp Go.Proofs.Tryd.prog Go.Proofs.Tryd.f31.ntmps) = some a_ref01_Sum := by kernel_rfl
theorem s_ref01_Sum : cRess Go.Proofs.Tryd.prog Go.Proofs.Tryd.f31.results.toList = some r_ref01_Sum := by kernel_rfl
theorem m_ref01_Sum (C : Ctx) (hC : CtxOK C Go.Proofs.Tryd.prog) : Meets C.glob Go.Proofs.Tryd.prog 31 (afun C 1 r_ref01_Sum a_ref01_Sum) :=
  fn_sound hC Go.Proofs.Tryd.func31 c_ref01_Sum s_ref01_Sum (Nat.le_of_ble_eq_true (by kernel_rfl))

/-- bytes.Equal -/
def a_bytes_Equal : ACode :=
 (.seq
  (.region false [⟨(some 4), (.mv (.const (.bool false))), none⟩])
  (.seq
   (.region false [⟨(some 5), (.mv (.tmp 0)), none⟩,
    ⟨(some 6), (.b2s (.tmp 5)), none⟩,
    ⟨(some 7), (.mv (.tmp 1)), none⟩,
    ⟨(some 8), (.b2s (.tmp 7)), none⟩,
    ⟨(some 9), (.bin .eql (.tmp 6) (.tmp 8)), none⟩,
    ⟨(some 4), (.mv (.tmp 9)), none⟩])
   .ret))
def r_bytes_Equal : List ARes := [(.tmp 4)]
theorem c_bytes_Equal : o2 Go.Proofs.Tryd.f32.body (comp Go.Proofs.Tryd.prog Go.Proofs.Tryd.f32.ntmps) = some a_bytes_Equal := by kernel_rfl
theorem s_bytes_Equal : cRess Go.Proofs.Tryd.prog Go.Proofs.Tryd.f32.results.toList = some r_bytes_Equal := by kernel_rfl
theorem m_bytes_Equal (C : Ctx) (hC : CtxOK C Go.Proofs.Tryd.prog) : Meets C.glob Go.Proofs.Tryd.prog 32 (afun C 2 r_bytes_Equal a_bytes_Equal) :=
  fn_sound hC Go.Proofs.Tryd.func32 c_bytes_Equal s_bytes_Equal (Nat.le_of_ble_eq_true (by kernel_rfl))

/-- curtilage/curtilageref01.Value -/
def a_ref01_Value : ACode :=
 (.seq
  (.region false [⟨(some 2), (.mv (.const (u64 0#64))), none⟩])
  (.seq
   (.region false [⟨(some 3), (.mv (.const (u64 0#64))), none⟩])
   (.seq
    (.seq
     (.region false [⟨(some 6), (.mv (.tmp 0)), none⟩,
      ⟨(some 7), (.len (.tmp 6)), none⟩,
      ⟨(some 8), (.mv (.const (it 0))), none⟩])
     (.block 0
      (.loop
       (.seq
        (.region false [⟨(some 9), (.bin .lss (.tmp 8) (.tmp 7)), none⟩])
        (.seq
         (.cond (.tmp 9)
          .skip
          (.exit 0))
         (.seq
          (.block 1
           (.seq
            (.region false [⟨(some 10), (.iaddrs L8 (.tmp 6) (.tmp 8)), none⟩,
             ⟨(some 11), (.load L8 (.tmp 10)), none⟩,
             ⟨(some 5), (.mv (.tmp 11)), none⟩])
            (.region false [⟨(some 12), (.mv (.tmp 3)), none⟩,
             ⟨(some 13), (.bin .mul (.const (u64 256#64)) (.tmp 12)), none⟩,
             ⟨(some 14), (.mv (.tmp 5)), none⟩,
             ⟨(some 15), (.conv .u64 (.tmp 14)), none⟩,
             ⟨(some 16), (.bin .add (.tmp 13) (.tmp 15)), none⟩,
             ⟨(some 3), (.mv (.tmp 16)), none⟩])))
          (.region false [⟨(some 17), (.bin .add (.tmp 8) (.const (it 1))), none⟩,
           ⟨(some 8), (.mv (.tmp 17)), none⟩])))))))
    (.seq
     (.region false [⟨(some 18), (.mv (.tmp 3)), none⟩,
      ⟨(some 2), (.mv (.tmp 18)), none⟩])
     .ret))))
def r_ref01_Value : List ARes := [(.tmp 2)]
theorem c_ref01_Value : o2 Go.Proofs.Tryd.f33.body (comp Go.Proofs.Tryd.prog Go.Proofs.Tryd.f33.ntmps) = some a_ref01_Value := by kernel_rfl
theorem s_ref01_Value : cRess Go.Proofs.Tryd.prog Go.Proofs.Tryd.f33.results.toList = some r_ref01_Value := by kernel_rfl
theorem m_ref01_Value (C : Ctx) (hC : CtxOK C Go.Proofs.Tryd.prog) : Meets C.glob Go.Proofs.Tryd.prog 33 (afun C 1 r_ref01_Value a_ref01_Value) :=
  fn_sound hC Go.Proofs.Tryd.func33 c_ref01_Value s_ref01_Value (Nat.le_of_ble_eq_true (by kernel_rfl))

/-- bytes.Repeat -/
def a_bytes_Repeat : ACode :=
 (.seq
  (.region false [⟨(some 4), (.mv (.const (.slice none 0 0))), none⟩])
  (.seq
   (.seq
    (.region false [⟨(some 12), (.mv (.tmp 1)), none⟩,
     ⟨(some 13), (.bin .eql (.tmp 12) (.const (it 0))), none⟩])
    (.cond (.tmp 13)
     (.seq
      (.region false [⟨(some 14), (.bslice L8 0 (.raw (u8 0#8)) []), none⟩,
       ⟨(some 4), (.mv (.tmp 14)), none⟩])
      .ret)
     .skip))
   (.seq
    (.seq
     (.region false [⟨(some 15), (.mv (.tmp 1)), none⟩,
      ⟨(some 16), (.bin .lss (.tmp 15) (.const (it 0))), none⟩])
     (.cond (.tmp 16)
      (.region false [⟨(some 17), .fail, none⟩,
       ⟨none, .fail, none⟩])
      .skip))
    (.seq
     (.region false [⟨(some 19), (.mv (.tmp 0)), none⟩,
      ⟨(some 20), (.len (.tmp 19)), none⟩,
      ⟨(some 21), (.conv .u64 (.tmp 20)), none⟩,
      ⟨(some 22), (.mv (.tmp 1)), none⟩,
      ⟨(some 23), (.conv .u64 (.tmp 22)), none⟩,
      ⟨(some 24), (.call 48 [(.tmp 21), (.tmp 23)]), none⟩,
      ⟨(some 18), (.mv (.tmp 24)), none⟩,
      ⟨(some 25), (.ext (.tmp 18) 0), none⟩,
      ⟨(some 26), (.ext (.tmp 18) 1), none⟩,
      ⟨(some 5), (.mv (.tmp 25)), none⟩,
      ⟨(some 6), (.mv (.tmp 26)), none⟩])
     (.seq
      (.seq
       (.region false [⟨(some 27), (.mv (.tmp 5)), none⟩,
        ⟨(some 28), (.bin .gtr (.tmp 27) (.const (u64 0#64))), none⟩,
        ⟨(some 29), (.mv (.tmp 28)), none⟩,
        ⟨(some 30), (.mv (.tmp 6)), some (29, false)⟩,
        ⟨(some 31), (.bin .gtr (.tmp 30) (.const (u64 9223372036854775807#64))), some (29, false)⟩,
        ⟨(some 32), (.pick (.tmp 29) (.const (.bool true)) (.tmp 31)), none⟩])
       (.cond (.tmp 32)
        (.region false [⟨(some 33), .fail, none⟩,
         ⟨none, .fail, none⟩])
        .skip))
      (.seq
       (.region false [⟨(some 34), (.mv (.tmp 6)), none⟩,
        ⟨(some 35), (.conv .i64 (.tmp 34)), none⟩,
        ⟨(some 7), (.mv (.tmp 35)), none⟩])
       (.seq
        (.seq
         (.region false [⟨(some 36), (.mv (.tmp 0)), none⟩,
          ⟨(some 37), (.len (.tmp 36)), none⟩,
          ⟨(some 38), (.bin .eql (.tmp 37) (.const (it 0))), none⟩])
         (.cond (.tmp 38)
          (.seq
           (.region false [⟨(some 39), (.bslice L8 0 (.raw (u8 0#8)) []), none⟩,
            ⟨(some 4), (.mv (.tmp 39)), none⟩])
           .ret)
          .skip))
        (.seq
         (.region false [⟨(some 40), (.mv (.tmp 7)), none⟩,
          ⟨(some 8), (.mv (.tmp 40)), none⟩])
         (.seq
          (.seq
           (.region false [⟨(some 41), (.mv (.tmp 8)), none⟩,
            ⟨(some 42), (.bin .gtr (.tmp 41) (.const (it 8192))), none⟩])
           (.cond (.tmp 42)
            (.seq
             (.region false [⟨(some 43), (.mv (.tmp 0)), none⟩,
              ⟨(some 44), (.len (.tmp 43)), none⟩,
              ⟨(some 45), (.bin .quo (.const (it 8192)) (.tmp 44)), none⟩,
              ⟨(some 46), (.mv (.tmp 0)), none⟩,
              ⟨(some 47), (.len (.tmp 46)), none⟩,
              ⟨(some 48), (.bin .mul (.tmp 45) (.tmp 47)), none⟩,
              ⟨(some 8), (.mv (.tmp 48)), none⟩])
             (.seq
              (.region false [⟨(some 49), (.mv (.tmp 8)), none⟩,
               ⟨(some 50), (.bin .eql (.tmp 49) (.const (it 0))), none⟩])
              (.cond (.tmp 50)
               (.region false [⟨(some 51), (.mv (.tmp 0)), none⟩,
                ⟨(some 52), (.len (.tmp 51)), none⟩,
                ⟨(some 8), (.mv (.tmp 52)), none⟩])
               .skip)))
            .skip))
          (.seq
           (.region false [⟨(some 53), (.mv (.tmp 7)), none⟩,
            ⟨(some 54), (.mnz (.tmp 53)), none⟩,
            ⟨(some 55), (.mv (.tmp 7)), none⟩,
            ⟨(some 56), (.mv (.tmp 7)), none⟩,
            ⟨(some 57), (.slice L8 (.tmp 54) none (some (.tmp 55)) (some (.tmp 56))), none⟩,
            ⟨(some 9), (.mv (.tmp 57)), none⟩])
           (.seq
            (.region false [⟨(some 58), (.mv (.tmp 9)), none⟩,
             ⟨(some 59), (.mv (.tmp 0)), none⟩,
             ⟨(some 60), (.copy L8 (.tmp 58) (.tmp 59)), none⟩,
             ⟨(some 10), (.mv (.tmp 60)), none⟩])
            (.seq
             (.block 0
              (.loop
               (.seq
                (.seq
                 (.region false [⟨(some 61), (.mv (.tmp 10)), none⟩,
                  ⟨(some 62), (.mv (.tmp 7)), none⟩,
                  ⟨(some 63), (.bin .lss (.tmp 61) (.tmp 62)), none⟩])
                 (.cond (.tmp 63)
                  .skip
                  (.exit 0)))
                (.block 1
                 (.seq
                  (.region false [⟨(some 64), (.mv (.tmp 10)), none⟩,
                   ⟨(some 65), (.mv (.tmp 8)), none⟩,
                   ⟨(some 66), (.minmax false [(.tmp 64), (.tmp 65)]), none⟩,
                   ⟨(some 11), (.mv (.tmp 66)), none⟩])
                  (.draw [⟨(some 67), (.mv (.tmp 10)), none⟩,
                   ⟨(some 68), (.mv (.tmp 9)), none⟩,
                   ⟨(some 69), (.mv (.tmp 10)), none⟩,
                   ⟨(some 70), (.slice L8 (.tmp 68) (some (.tmp 69)) none none), none⟩,
                   ⟨(some 71), (.mv (.tmp 9)), none⟩,
                   ⟨(some 72), (.mv (.tmp 11)), none⟩,
                   ⟨(some 73), (.slice L8 (.tmp 71) none (some (.tmp 72)) none), none⟩]
                   [⟨(some 67), (.mv (.tmp 10)), none⟩]
                   [(⟨(some 74), (.copy L8 (.tmp 70) (.tmp 73)), none⟩, [⟨(some 67), (.mv (.tmp 10)), none⟩]),
                   (⟨(some 75), (.bin .add (.tmp 67) (.tmp 74)), none⟩, [⟨(some 68), (.mv (.tmp 9)), none⟩, ⟨(some 69), (.mv (.tmp 10)), none⟩, ⟨(some 71), (.mv (.tmp 9)), none⟩, ⟨(some 72), (.mv (.tmp 11)), none⟩]),
                   (⟨(some 10), (.mv (.tmp 75)), none⟩, [])]))))))
             (.seq
              (.region false [⟨(some 76), (.mv (.tmp 9)), none⟩,
               ⟨(some 4), (.mv (.tmp 76)), none⟩])
              .ret)))))))))))))
def r_bytes_Repeat : List ARes := [(.tmp 4)]
theorem c_bytes_Repeat : o2 Go.Proofs.Tryd.f34.body (comp Go.Proofs.Tryd.prog Go.Proofs.Tryd.f34.ntmps) = some a_bytes_Repeat := by kernel_rfl
theorem s_bytes_Repeat : cRess Go.Proofs.Tryd.prog Go.Proofs.Tryd.f34.results.toList = some r_bytes_Repeat := by kernel_rfl
theorem m_bytes_Repeat (C : Ctx) (hC : CtxOK C Go.Proofs.Tryd.prog) : Meets C.glob Go.Proofs.Tryd.prog 34 (afun C 2 r_bytes_Repeat a_bytes_Repeat) :=
  fn_sound hC Go.Proofs.Tryd.func34 c_bytes_Repeat s_bytes_Repeat (Nat.le_of_ble_eq_true (by kernel_rfl))

/-- curtilage/journal.all -/
def a_journal_all : ACode :=
 (.seq
  (.region false [⟨(some 0), (.mv (.const (.slice none 0 0))), none⟩])
  (.seq
   (.region false [⟨(some 1), (.bslice L8 1 (.raw (u8 0#8)) [(0, (.const (u8 255#8)))]), none⟩,
    ⟨(some 2), (.call 34 [(.tmp 1), (.const (it 256))]), none⟩,
    ⟨(some 0), (.mv (.tmp 2)), none⟩])
   .ret))
def r_journal_all : List ARes := [(.tmp 0)]
theorem c_journal_all : o2 Go.Proofs.Tryd.f35.body (comp Go.Proofs.Tryd.prog Go.Proofs.Tryd.f35.ntmps) = some a_journal_all := by kernel_rfl
theorem s_journal_all : cRess Go.Proofs.Tryd.prog Go.Proofs.Tryd.f35.results.toList = some r_journal_all := by kernel_rfl
theorem m_journal_all (C : Ctx) (hC : CtxOK C Go.Proofs.Tryd.prog) : Meets C.glob Go.Proofs.Tryd.prog 35 (afun C 0 r_journal_all a_journal_all) :=
  fn_sound hC Go.Proofs.Tryd.func35 c_journal_all s_journal_all (Nat.le_of_ble_eq_true (by kernel_rfl))

/-- (*curtilage/flash.Flash).Read -/
def a_flash_Flash_Read : ACode :=
 (.seq
  (.region false [⟨(some 6), (.mv (.const (.slice none 0 0))), none⟩,
   ⟨(some 7), (.mv (.const (it 0))), none⟩])
  (.seq
   (.seq
    (.region false [⟨(some 9), (.mv (.tmp 0)), none⟩,
     ⟨(some 10), (.mv (.tmp 1)), none⟩,
     ⟨(some 11), (.mv (.tmp 2)), none⟩,
     ⟨(some 12), (.call 50 [(.tmp 9), (.tmp 10), (.tmp 11)]), none⟩,
     ⟨(some 8), (.mv (.tmp 12)), none⟩])
    (.seq
     (.region false [⟨(some 13), (.mv (.tmp 8)), none⟩,
      ⟨(some 14), (.bin .neq (.tmp 13) (.const (it 0))), none⟩])
     (.cond (.tmp 14)
      (.seq
       (.region false [⟨(some 15), (.mv (.tmp 8)), none⟩,
        ⟨(some 6), (.mv (.const (.slice none 0 0))), none⟩,
        ⟨(some 7), (.mv (.tmp 15)), none⟩])
       .ret)
      .skip)))
   (.seq
    (.region false [⟨(some 16), (.mv (.tmp 0)), none⟩,
     ⟨(some 17), (.nilc (.tmp 16)), none⟩,
     ⟨(some 18), (.faddr S3 (.tmp 17) 0), none⟩,
     ⟨(some 19), (.load .ref (.tmp 18)), none⟩,
     ⟨(some 20), (.mv (.tmp 1)), none⟩,
     ⟨(some 21), (.mv (.tmp 1)), none⟩,
     ⟨(some 22), (.mv (.tmp 2)), none⟩,
     ⟨(some 23), (.bin .add (.tmp 21) (.tmp 22)), none⟩,
     ⟨(some 24), (.slice L8 (.tmp 19) (some (.tmp 20)) (some (.tmp 23)) none), none⟩,
     ⟨(some 25), (.call 51 [(.tmp 24)]), none⟩,
     ⟨(some 6), (.mv (.tmp 25)), none⟩,
     ⟨(some 7), (.mv (.const (it 0))), none⟩])
    .ret)))
def r_flash_Flash_Read : List ARes := [(.tmp 6), (.tmp 7)]
theorem c_flash_Flash_Read : o2 Go.Proofs.Tryd.f36.body (comp Go.Proofs.Tryd.prog Go.Proofs.Tryd.f36.ntmps) = some a_flash_Flash_Read := by kernel_rfl
theorem s_flash_Flash_Read : cRess Go.Proofs.Tryd.prog Go.Proofs.Tryd.f36.results.toList = some r_flash_Flash_Read := by kernel_rfl
theorem m_flash_Flash_Read (C : Ctx) (hC : CtxOK C Go.Proofs.Tryd.prog) : Meets C.glob Go.Proofs.Tryd.prog 36 (afun C 3 r_flash_Flash_Read a_flash_Flash_Read) :=
  fn_sound hC Go.Proofs.Tryd.func36 c_flash_Flash_Read s_flash_Flash_Read (Nat.le_of_ble_eq_true (by kernel_rfl))

/-- (*curtilage/flash.Flash).page -/
def a_flash_Flash_page : ACode :=
 (.seq
  (.region false [⟨(some 4), (.mv (.const (it 0))), none⟩])
  (.seq
   (.block 0
    (.seq
     (.region false [⟨(some 6), (.mv (.tmp 0)), none⟩,
      ⟨(some 7), (.eqnil false (.tmp 6) (.const (.pointer none))), none⟩,
      ⟨(some 5), (.mv (.tmp 7)), none⟩])
     (.cond (.tmp 5)
      (.seq
       (.region false [⟨(some 4), (.mv (.const (it 3))), none⟩])
       .ret)
      (.seq
       (.region false [⟨(some 9), (.mv (.tmp 1)), none⟩,
        ⟨(some 10), (.bin .lss (.tmp 9) (.const (it 0))), none⟩,
        ⟨(some 11), (.mv (.tmp 10)), none⟩,
        ⟨(some 12), (.mv (.tmp 1)), some (11, false)⟩,
        ⟨(some 13), (.mv (.tmp 0)), some (11, false)⟩,
        ⟨(some 14), (.nilc (.tmp 13)), some (11, false)⟩,
        ⟨(some 15), (.faddr S3 (.tmp 14) 0), some (11, false)⟩,
        ⟨(some 16), (.load .ref (.tmp 15)), some (11, false)⟩,
        ⟨(some 17), (.len (.tmp 16)), some (11, false)⟩,
        ⟨(some 18), (.bin .quo (.tmp 17) (.const (it 256))), some (11, false)⟩,
        ⟨(some 19), (.bin .geq (.tmp 12) (.tmp 18)), some (11, false)⟩,
        ⟨(some 20), (.pick (.tmp 11) (.const (.bool true)) (.tmp 19)), none⟩,
        ⟨(some 8), (.mv (.tmp 20)), none⟩])
       (.cond (.tmp 8)
        (.seq
         (.region false [⟨(some 4), (.mv (.const (it 9))), none⟩])
         .ret)
        .skip)))))
   (.seq
    (.region false [⟨(some 4), (.mv (.const (it 0))), none⟩])
    .ret)))
def r_flash_Flash_page : List ARes := [(.tmp 4)]
theorem c_flash_Flash_page : o2 Go.Proofs.Tryd.f37.body (comp Go.Proofs.Tryd.prog Go.Proofs.Tryd.f37.ntmps) = some a_flash_Flash_page := by kernel_rfl
theorem s_flash_Flash_page : cRess Go.Proofs.Tryd.prog Go.Proofs.Tryd.f37.results.toList = some r_flash_Flash_page := by kernel_rfl
theorem m_flash_Flash_page (C : Ctx) (hC : CtxOK C Go.Proofs.Tryd.prog) : Meets C.glob Go.Proofs.Tryd.prog 37 (afun C 2 r_flash_Flash_page a_flash_Flash_page) :=
  fn_sound hC Go.Proofs.Tryd.func37 c_flash_Flash_page s_flash_Flash_page (Nat.le_of_ble_eq_true (by kernel_rfl))

/-- (*curtilage/flash.Flash).Write -/
def a_flash_Flash_Write : ACode :=
 (.seq
  (.region false [⟨(some 6), (.mv (.const (it 0))), none⟩])
  (.seq
   (.seq
    (.region false [⟨(some 8), (.mv (.tmp 0)), none⟩,
     ⟨(some 9), (.mv (.tmp 1)), none⟩,
     ⟨(some 10), (.mv (.tmp 2)), none⟩,
     ⟨(some 11), (.len (.tmp 10)), none⟩,
     ⟨(some 12), (.call 50 [(.tmp 8), (.tmp 9), (.tmp 11)]), none⟩,
     ⟨(some 7), (.mv (.tmp 12)), none⟩])
    (.seq
     (.region false [⟨(some 13), (.mv (.tmp 7)), none⟩,
      ⟨(some 14), (.bin .neq (.tmp 13) (.const (it 0))), none⟩])
     (.cond (.tmp 14)
      (.seq
       (.region false [⟨(some 15), (.mv (.tmp 7)), none⟩,
        ⟨(some 6), (.mv (.tmp 15)), none⟩])
       .ret)
      .skip)))
   (.seq
    (.seq
     (.region false [⟨(some 16), (.mv (.tmp 0)), none⟩,
      ⟨(some 17), (.nilc (.tmp 16)), none⟩,
      ⟨(some 18), (.faddr S3 (.tmp 17) 0), none⟩,
      ⟨(some 19), (.load .ref (.tmp 18)), none⟩,
      ⟨(some 20), (.mv (.tmp 1)), none⟩,
      ⟨(some 21), (.slice L8 (.tmp 19) (some (.tmp 20)) none none), none⟩,
      ⟨(some 22), (.mv (.tmp 2)), none⟩,
      ⟨(some 23), (.call 52 [(.tmp 21), (.tmp 22)]), none⟩,
      ⟨(some 24), (.un .not (.tmp 23)), none⟩])
     (.cond (.tmp 24)
      (.seq
       (.region false [⟨(some 6), (.mv (.const (it 14))), none⟩])
       .ret)
      .skip))
    (.seq
     (.region false [⟨(some 25), (.mv (.tmp 0)), none⟩,
      ⟨(some 26), (.nilc (.tmp 25)), none⟩,
      ⟨(some 27), (.faddr S3 (.tmp 26) 0), none⟩,
      ⟨(some 28), (.load .ref (.tmp 27)), none⟩,
      ⟨(some 29), (.mv (.tmp 1)), none⟩,
      ⟨(some 30), (.slice L8 (.tmp 28) (some (.tmp 29)) none none), none⟩,
      ⟨(some 31), (.mv (.tmp 2)), none⟩,
      ⟨(some 32), (.copy L8 (.tmp 30) (.tmp 31)), none⟩])
     (.seq
      (.region false [⟨(some 6), (.mv (.const (it 0))), none⟩])
      .ret)))))
def r_flash_Flash_Write : List ARes := [(.tmp 6)]
theorem c_flash_Flash_Write : o2 Go.Proofs.Tryd.f38.body (comp Go.Proofs.Tryd.prog Go.Proofs.Tryd.f38.ntmps) = some a_flash_Flash_Write := by kernel_rfl
theorem s_flash_Flash_Write : cRess Go.Proofs.Tryd.prog Go.Proofs.Tryd.f38.results.toList = some r_flash_Flash_Write := by kernel_rfl
theorem m_flash_Flash_Write (C : Ctx) (hC : CtxOK C Go.Proofs.Tryd.prog) : Meets C.glob Go.Proofs.Tryd.prog 38 (afun C 3 r_flash_Flash_Write a_flash_Flash_Write) :=
  fn_sound hC Go.Proofs.Tryd.func38 c_flash_Flash_Write s_flash_Flash_Write (Nat.le_of_ble_eq_true (by kernel_rfl))

/-- (*curtilage/flash.Flash).Size -/
def a_flash_Flash_Size : ACode :=
 (.seq
  (.region false [⟨(some 2), (.mv (.const (it 0))), none⟩])
  (.seq
   (.seq
    (.region false [⟨(some 3), (.mv (.tmp 0)), none⟩,
     ⟨(some 4), (.eqnil false (.tmp 3) (.const (.pointer none))), none⟩])
    (.cond (.tmp 4)
     (.seq
      (.region false [⟨(some 2), (.mv (.const (it 0))), none⟩])
      .ret)
     .skip))
   (.seq
    (.region false [⟨(some 5), (.mv (.tmp 0)), none⟩,
     ⟨(some 6), (.nilc (.tmp 5)), none⟩,
     ⟨(some 7), (.faddr S3 (.tmp 6) 0), none⟩,
     ⟨(some 8), (.load .ref (.tmp 7)), none⟩,
     ⟨(some 9), (.len (.tmp 8)), none⟩,
     ⟨(some 2), (.mv (.tmp 9)), none⟩])
    .ret)))
def r_flash_Flash_Size : List ARes := [(.tmp 2)]
theorem c_flash_Flash_Size : o2 Go.Proofs.Tryd.f39.body (comp Go.Proofs.Tryd.prog Go.Proofs.Tryd.f39.ntmps) = some a_flash_Flash_Size := by kernel_rfl
theorem s_flash_Flash_Size : cRess Go.Proofs.Tryd.prog Go.Proofs.Tryd.f39.results.toList = some r_flash_Flash_Size := by kernel_rfl
theorem m_flash_Flash_Size (C : Ctx) (hC : CtxOK C Go.Proofs.Tryd.prog) : Meets C.glob Go.Proofs.Tryd.prog 39 (afun C 1 r_flash_Flash_Size a_flash_Flash_Size) :=
  fn_sound hC Go.Proofs.Tryd.func39 c_flash_Flash_Size s_flash_Flash_Size (Nat.le_of_ble_eq_true (by kernel_rfl))

/-- (*curtilage/otp.Chip).Tear -/
def a_otp_Chip_Tear : ACode :=
 (.seq
  (.region false [⟨(some 4), (.box S4 (.tmp 1)), none⟩,
   ⟨(some 6), (.mv (.const (it 0))), none⟩])
  (.seq
   (.seq
    (.region false [⟨(some 7), (.mv (.tmp 0)), none⟩,
     ⟨(some 8), (.eqnil false (.tmp 7) (.const (.pointer none))), none⟩])
    (.cond (.tmp 8)
     (.seq
      (.region false [⟨(some 6), (.mv (.const (it 3))), none⟩])
      .ret)
     .skip))
   (.seq
    (.draw1 [⟨(some 9), (.mv (.tmp 0)), none⟩,
     ⟨(some 10), (.nilc (.tmp 9)), none⟩,
     ⟨(some 11), (.faddr S5 (.tmp 10) 0), none⟩,
     ⟨(some 12), (.load .ref (.tmp 11)), none⟩,
     ⟨(some 13), (.faddr S4 (.tmp 4) 0), none⟩,
     ⟨(some 14), (.load LI (.tmp 13)), none⟩,
     ⟨(some 15), (.faddr S4 (.tmp 4) 1), none⟩,
     ⟨(some 16), (.load L32 (.tmp 15)), none⟩,
     ⟨(some 17), (.mv (.tmp 2)), none⟩]
     [⟨(some 18), (.call 53 [(.tmp 12), (.tmp 14), (.tmp 16), (.tmp 17)]), none⟩,
     ⟨(some 6), (.mv (.tmp 18)), none⟩])
    .ret)))
def r_otp_Chip_Tear : List ARes := [(.tmp 6)]
theorem c_otp_Chip_Tear : o2 Go.Proofs.Tryd.f40.body (comp Go.Proofs.Tryd.prog Go.Proofs.Tryd.f40.ntmps) = some a_otp_Chip_Tear := by kernel_rfl
theorem s_otp_Chip_Tear : cRess Go.Proofs.Tryd.prog Go.Proofs.Tryd.f40.results.toList = some r_otp_Chip_Tear := by kernel_rfl
theorem m_otp_Chip_Tear (C : Ctx) (hC : CtxOK C Go.Proofs.Tryd.prog) : Meets C.glob Go.Proofs.Tryd.prog 40 (afun C 3 r_otp_Chip_Tear a_otp_Chip_Tear) :=
  fn_sound hC Go.Proofs.Tryd.func40 c_otp_Chip_Tear s_otp_Chip_Tear (Nat.le_of_ble_eq_true (by kernel_rfl))

/-- (*curtilage/flash.Flash).After -/
def a_flash_Flash_After : ACode :=
 (.seq
  (.region false [⟨(some 8), (.mv (.const (.slice none 0 0))), none⟩,
   ⟨(some 9), (.mv (.const (it 0))), none⟩])
  (.seq
   (.seq
    (.region false [⟨(some 12), (.mv (.tmp 0)), none⟩,
     ⟨(some 13), (.mv (.tmp 1)), none⟩,
     ⟨(some 14), (.call 37 [(.tmp 12), (.tmp 13)]), none⟩,
     ⟨(some 10), (.mv (.tmp 14)), none⟩])
    (.seq
     (.region false [⟨(some 15), (.mv (.tmp 10)), none⟩,
      ⟨(some 16), (.bin .neq (.tmp 15) (.const (it 0))), none⟩])
     (.cond (.tmp 16)
      (.seq
       (.region false [⟨(some 17), (.mv (.tmp 10)), none⟩,
        ⟨(some 8), (.mv (.const (.slice none 0 0))), none⟩,
        ⟨(some 9), (.mv (.tmp 17)), none⟩])
       .ret)
      .skip)))
   (.seq
    (.seq
     (.region false [⟨(some 18), (.mv (.tmp 3)), none⟩,
      ⟨(some 19), (.len (.tmp 18)), none⟩,
      ⟨(some 20), (.bin .eql (.tmp 19) (.const (it 0))), none⟩])
     (.cond (.tmp 20)
      (.seq
       (.region false [⟨(some 21), (.bslice L8 1 (.raw (u8 0#8)) [(0, (.const (u8 255#8)))]), none⟩,
        ⟨(some 22), (.call 34 [(.tmp 21), (.const (it 256))]), none⟩,
        ⟨(some 8), (.mv (.tmp 22)), none⟩,
        ⟨(some 9), (.mv (.const (it 0))), none⟩])
       .ret)
      .skip))
    (.seq
     (.seq
      (.region false [⟨(some 23), (.mv (.tmp 2)), none⟩,
       ⟨(some 24), (.bin .lss (.tmp 23) (.const (it 0))), none⟩,
       ⟨(some 25), (.mv (.tmp 24)), none⟩,
       ⟨(some 26), (.mv (.tmp 2)), some (25, false)⟩,
       ⟨(some 27), (.bin .gtr (.tmp 26) (.const (it 256))), some (25, false)⟩,
       ⟨(some 28), (.pick (.tmp 25) (.const (.bool true)) (.tmp 27)), none⟩,
       ⟨(some 29), (.mv (.tmp 28)), none⟩,
       ⟨(some 30), (.mv (.tmp 3)), some (29, false)⟩,
       ⟨(some 31), (.len (.tmp 30)), some (29, false)⟩,
       ⟨(some 32), (.mv (.tmp 2)), some (29, false)⟩,
       ⟨(some 33), (.bin .sub (.const (it 256)) (.tmp 32)), some (29, false)⟩,
       ⟨(some 34), (.bin .gtr (.tmp 31) (.tmp 33)), some (29, false)⟩,
       ⟨(some 35), (.pick (.tmp 29) (.const (.bool true)) (.tmp 34)), none⟩])
      (.cond (.tmp 35)
       (.seq
        (.region false [⟨(some 8), (.mv (.const (.slice none 0 0))), none⟩,
         ⟨(some 9), (.mv (.const (it 9))), none⟩])
        .ret)
       .skip))
     (.seq
      (.region false [⟨(some 36), (.mv (.tmp 0)), none⟩,
       ⟨(some 37), (.nilc (.tmp 36)), none⟩,
       ⟨(some 38), (.faddr S3 (.tmp 37) 0), none⟩,
       ⟨(some 39), (.load .ref (.tmp 38)), none⟩,
       ⟨(some 40), (.mv (.tmp 1)), none⟩,
       ⟨(some 41), (.bin .mul (.const (it 256)) (.tmp 40)), none⟩,
       ⟨(some 42), (.mv (.tmp 1)), none⟩,
       ⟨(some 43), (.bin .add (.tmp 42) (.const (it 1))), none⟩,
       ⟨(some 44), (.bin .mul (.const (it 256)) (.tmp 43)), none⟩,
       ⟨(some 45), (.slice L8 (.tmp 39) (some (.tmp 41)) (some (.tmp 44)) none), none⟩,
       ⟨(some 46), (.call 51 [(.tmp 45)]), none⟩,
       ⟨(some 11), (.mv (.tmp 46)), none⟩])
      (.seq
       (.seq
        (.region false [⟨(some 47), (.mv (.tmp 11)), none⟩,
         ⟨(some 48), (.mv (.tmp 2)), none⟩,
         ⟨(some 49), (.slice L8 (.tmp 47) (some (.tmp 48)) none none), none⟩,
         ⟨(some 50), (.mv (.tmp 3)), none⟩,
         ⟨(some 51), (.call 52 [(.tmp 49), (.tmp 50)]), none⟩,
         ⟨(some 52), (.un .not (.tmp 51)), none⟩])
        (.cond (.tmp 52)
         (.seq
          (.region false [⟨(some 8), (.mv (.const (.slice none 0 0))), none⟩,
           ⟨(some 9), (.mv (.const (it 14))), none⟩])
          .ret)
         .skip))
       (.seq
        (.region false [⟨(some 53), (.mv (.tmp 11)), none⟩,
         ⟨(some 54), (.mv (.tmp 2)), none⟩,
         ⟨(some 55), (.slice L8 (.tmp 53) (some (.tmp 54)) none none), none⟩,
         ⟨(some 56), (.mv (.tmp 3)), none⟩,
         ⟨(some 57), (.copy L8 (.tmp 55) (.tmp 56)), none⟩])
        (.seq
         (.region false [⟨(some 58), (.mv (.tmp 11)), none⟩,
          ⟨(some 8), (.mv (.tmp 58)), none⟩,
          ⟨(some 9), (.mv (.const (it 0))), none⟩])
         .ret))))))))
def r_flash_Flash_After : List ARes := [(.tmp 8), (.tmp 9)]
theorem c_flash_Flash_After : o2 Go.Proofs.Tryd.f41.body (comp Go.Proofs.Tryd.prog Go.Proofs.Tryd.f41.ntmps) = some a_flash_Flash_After := by kernel_rfl
theorem s_flash_Flash_After : cRess Go.Proofs.Tryd.prog Go.Proofs.Tryd.f41.results.toList = some r_flash_Flash_After := by kernel_rfl
theorem m_flash_Flash_After (C : Ctx) (hC : CtxOK C Go.Proofs.Tryd.prog) : Meets C.glob Go.Proofs.Tryd.prog 41 (afun C 4 r_flash_Flash_After a_flash_Flash_After) :=
  fn_sound hC Go.Proofs.Tryd.func41 c_flash_Flash_After s_flash_Flash_After (Nat.le_of_ble_eq_true (by kernel_rfl))

/-- (*curtilage/flash.Flash).Tear -/
def a_flash_Flash_Tear : ACode :=
 (.seq
  (.region false [⟨(some 8), (.mv (.const (it 0))), none⟩])
  (.seq
   (.seq
    (.region false [⟨(some 12), (.mv (.tmp 0)), none⟩,
     ⟨(some 13), (.mv (.tmp 1)), none⟩,
     ⟨(some 14), (.call 37 [(.tmp 12), (.tmp 13)]), none⟩,
     ⟨(some 9), (.mv (.tmp 14)), none⟩])
    (.seq
     (.region false [⟨(some 15), (.mv (.tmp 9)), none⟩,
      ⟨(some 16), (.bin .neq (.tmp 15) (.const (it 0))), none⟩])
     (.cond (.tmp 16)
      (.seq
       (.region false [⟨(some 17), (.mv (.tmp 9)), none⟩,
        ⟨(some 8), (.mv (.tmp 17)), none⟩])
       .ret)
      .skip)))
   (.seq
    (.seq
     (.region false [⟨(some 18), (.mv (.tmp 2)), none⟩,
      ⟨(some 19), (.len (.tmp 18)), none⟩,
      ⟨(some 20), (.mv (.tmp 3)), none⟩,
      ⟨(some 21), (.len (.tmp 20)), none⟩,
      ⟨(some 22), (.minmax false [(.tmp 19), (.tmp 21), (.const (it 256))]), none⟩,
      ⟨(some 23), (.mv (.const (it 0))), none⟩])
     (.block 0
      (.loop
       (.seq
        (.region false [⟨(some 24), (.bin .lss (.tmp 23) (.tmp 22)), none⟩])
        (.seq
         (.cond (.tmp 24)
          .skip
          (.exit 0))
         (.seq
          (.block 1
           (.seq
            (.region false [⟨(some 25), (.mv (.tmp 23)), none⟩,
             ⟨(some 10), (.mv (.tmp 25)), none⟩])
            (.seq
             (.region false [⟨(some 26), (.mv (.tmp 0)), none⟩,
              ⟨(some 27), (.nilc (.tmp 26)), none⟩,
              ⟨(some 28), (.faddr S3 (.tmp 27) 0), none⟩,
              ⟨(some 29), (.load .ref (.tmp 28)), none⟩,
              ⟨(some 30), (.mv (.tmp 1)), none⟩,
              ⟨(some 31), (.bin .mul (.const (it 256)) (.tmp 30)), none⟩,
              ⟨(some 32), (.mv (.tmp 10)), none⟩,
              ⟨(some 33), (.bin .add (.tmp 31) (.tmp 32)), none⟩,
              ⟨(some 34), (.iaddrs L8 (.tmp 29) (.tmp 33)), none⟩,
              ⟨(some 11), (.mv (.tmp 34)), none⟩])
             (.region true [⟨(some 35), (.mv (.tmp 11)), none⟩,
              ⟨(some 36), (.mv (.tmp 11)), none⟩,
              ⟨(some 37), (.nilc (.tmp 36)), none⟩,
              ⟨(some 38), (.load L8 (.tmp 37)), none⟩,
              ⟨(some 39), (.mv (.tmp 3)), none⟩,
              ⟨(some 40), (.mv (.tmp 10)), none⟩,
              ⟨(some 41), (.iaddrs L8 (.tmp 39) (.tmp 40)), none⟩,
              ⟨(some 42), (.load L8 (.tmp 41)), none⟩,
              ⟨(some 43), (.bin .andNot (.tmp 38) (.tmp 42)), none⟩,
              ⟨(some 44), (.mv (.tmp 2)), none⟩,
              ⟨(some 45), (.mv (.tmp 10)), none⟩,
              ⟨(some 46), (.iaddrs L8 (.tmp 44) (.tmp 45)), none⟩,
              ⟨(some 47), (.load L8 (.tmp 46)), none⟩,
              ⟨(some 48), (.mv (.tmp 3)), none⟩,
              ⟨(some 49), (.mv (.tmp 10)), none⟩,
              ⟨(some 50), (.iaddrs L8 (.tmp 48) (.tmp 49)), none⟩,
              ⟨(some 51), (.load L8 (.tmp 50)), none⟩,
              ⟨(some 52), (.bin .and (.tmp 47) (.tmp 51)), none⟩,
              ⟨(some 53), (.bin .or (.tmp 43) (.tmp 52)), none⟩,
              ⟨(some 54), (.nilc (.tmp 35)), none⟩,
              ⟨none, (.store L8 (.tmp 54) (.tmp 53)), none⟩]))))
          (.region false [⟨(some 55), (.bin .add (.tmp 23) (.const (it 1))), none⟩,
           ⟨(some 23), (.mv (.tmp 55)), none⟩])))))))
    (.seq
     (.region false [⟨(some 8), (.mv (.const (it 0))), none⟩])
     .ret))))
def r_flash_Flash_Tear : List ARes := [(.tmp 8)]
theorem c_flash_Flash_Tear : o2 Go.Proofs.Tryd.f42.body (comp Go.Proofs.Tryd.prog Go.Proofs.Tryd.f42.ntmps) = some a_flash_Flash_Tear := by kernel_rfl
theorem s_flash_Flash_Tear : cRess Go.Proofs.Tryd.prog Go.Proofs.Tryd.f42.results.toList = some r_flash_Flash_Tear := by kernel_rfl
theorem m_flash_Flash_Tear (C : Ctx) (hC : CtxOK C Go.Proofs.Tryd.prog) : Meets C.glob Go.Proofs.Tryd.prog 42 (afun C 4 r_flash_Flash_Tear a_flash_Flash_Tear) :=
  fn_sound hC Go.Proofs.Tryd.func42 c_flash_Flash_Tear s_flash_Flash_Tear (Nat.le_of_ble_eq_true (by kernel_rfl))

/-- curtilage/sha.New -/
def a_sha_New : ACode :=
 (.seq
  (.region false [⟨(some 0), (.alloc S6 (.agg S6 [(.agg (.ar 8 L32) (List.replicate 8 (.raw (u32 0#32)))), (.agg (.ar 64 L8) (List.replicate 64 (.raw (u8 0#8)))), (.raw (u64 0#64))])), none⟩])
  (.seq
   (.region false [⟨(some 1), (.load (.ar 8 L32) (.glob 0)), none⟩,
    ⟨(some 2), (.build S6 [(.agg (.ar 8 L32) (List.replicate 8 (.raw (u32 0#32)))), (.agg (.ar 64 L8) (List.replicate 64 (.raw (u8 0#8)))), (.raw (u64 0#64))] [(0, (.tmp 1))]), none⟩,
    ⟨none, (.store S6 (.tmp 0) (.tmp 2)), none⟩])
   .ret))
def r_sha_New : List ARes := [(.cell 0 S6)]
theorem c_sha_New : o2 Go.Proofs.Tryd.f43.body (comp Go.Proofs.Tryd.prog Go.Proofs.Tryd.f43.ntmps) = some a_sha_New := by kernel_rfl
theorem s_sha_New : cRess Go.Proofs.Tryd.prog Go.Proofs.Tryd.f43.results.toList = some r_sha_New := by kernel_rfl
theorem m_sha_New (C : Ctx) (hC : CtxOK C Go.Proofs.Tryd.prog) : Meets C.glob Go.Proofs.Tryd.prog 43 (afun C 0 r_sha_New a_sha_New) :=
  fn_sound hC Go.Proofs.Tryd.func43 c_sha_New s_sha_New (Nat.le_of_ble_eq_true (by kernel_rfl))

/-- (curtilage/sha.State).Feed -/
def a_sha_State_Feed : ACode :=
 (.seq
  (.region false [⟨(some 2), (.box S6 (.tmp 0)), none⟩,
   ⟨(some 4), (.alloc S6 (.agg S6 [(.agg (.ar 8 L32) (List.replicate 8 (.raw (u32 0#32)))), (.agg (.ar 64 L8) (List.replicate 64 (.raw (u8 0#8)))), (.raw (u64 0#64))])), none⟩])
  (.seq
   (.block 0
    (.loop
     (.seq
      (.seq
       (.region false [⟨(some 7), (.mv (.tmp 1)), none⟩,
        ⟨(some 8), (.len (.tmp 7)), none⟩,
        ⟨(some 9), (.bin .gtr (.tmp 8) (.const (it 0))), none⟩])
       (.cond (.tmp 9)
        .skip
        (.exit 0)))
      (.block 1
       (.seq
        (.region false [⟨(some 10), (.faddr S6 (.tmp 2) 2), none⟩,
         ⟨(some 11), (.load L64 (.tmp 10)), none⟩,
         ⟨(some 12), (.bin .rem (.tmp 11) (.const (u64 64#64))), none⟩,
         ⟨(some 13), (.conv .i64 (.tmp 12)), none⟩,
         ⟨(some 5), (.mv (.tmp 13)), none⟩])
        (.seq
         (.region false [⟨(some 14), (.faddr S6 (.tmp 2) 1), none⟩,
          ⟨(some 15), (.mv (.tmp 5)), none⟩,
          ⟨(some 16), (.slicea 64 L8 (.tmp 14) (some (.tmp 15)) none none), none⟩,
          ⟨(some 17), (.mv (.tmp 1)), none⟩,
          ⟨(some 18), (.copy L8 (.tmp 16) (.tmp 17)), none⟩,
          ⟨(some 6), (.mv (.tmp 18)), none⟩])
         (.seq
          (.region false [⟨(some 19), (.faddr S6 (.tmp 2) 2), none⟩,
           ⟨(some 20), (.load L64 (.tmp 19)), none⟩,
           ⟨(some 21), (.mv (.tmp 6)), none⟩,
           ⟨(some 22), (.conv .u64 (.tmp 21)), none⟩,
           ⟨(some 23), (.bin .add (.tmp 20) (.tmp 22)), none⟩,
           ⟨(some 24), (.faddr S6 (.tmp 2) 2), none⟩,
           ⟨none, (.store L64 (.tmp 24) (.tmp 23)), none⟩])
          (.seq
           (.region false [⟨(some 25), (.mv (.tmp 1)), none⟩,
            ⟨(some 26), (.mv (.tmp 6)), none⟩,
            ⟨(some 27), (.slice L8 (.tmp 25) (some (.tmp 26)) none none), none⟩,
            ⟨(some 1), (.mv (.tmp 27)), none⟩])
           (.seq
            (.region false [⟨(some 28), (.mv (.tmp 5)), none⟩,
             ⟨(some 29), (.mv (.tmp 6)), none⟩,
             ⟨(some 30), (.bin .add (.tmp 28) (.tmp 29)), none⟩,
             ⟨(some 31), (.bin .eql (.tmp 30) (.const (it 64))), none⟩])
            (.cond (.tmp 31)
             (.region false [⟨(some 32), (.faddr S6 (.tmp 2) 0), none⟩,
              ⟨(some 33), (.load (.ar 8 L32) (.tmp 32)), none⟩,
              ⟨(some 34), (.faddr S6 (.tmp 2) 1), none⟩,
              ⟨(some 35), (.load (.ar 64 L8) (.tmp 34)), none⟩,
              ⟨(some 36), (.call 54 [(.tmp 33), (.tmp 35)]), none⟩,
              ⟨(some 37), (.build (.ar 64 L8) (List.replicate 64 (.raw (u8 0#8))) []), none⟩,
              ⟨(some 38), (.faddr S6 (.tmp 2) 0), none⟩,
              ⟨none, (.store (.ar 8 L32) (.tmp 38) (.tmp 36)), none⟩,
              ⟨(some 39), (.faddr S6 (.tmp 2) 1), none⟩,
              ⟨none, (.store (.ar 64 L8) (.tmp 39) (.tmp 37)), none⟩])
             .skip))))))))))
   (.seq
    (.region false [⟨(some 40), (.load S6 (.tmp 2)), none⟩,
     ⟨none, (.store S6 (.tmp 4) (.tmp 40)), none⟩])
    .ret)))
def r_sha_State_Feed : List ARes := [(.cell 4 S6)]
theorem c_sha_State_Feed : o2 Go.Proofs.Tryd.f44.body (comp Go.Proofs.Tryd.prog Go.Proofs.Tryd.f44.ntmps) = some a_sha_State_Feed := by kernel_rfl
theorem s_sha_State_Feed : cRess Go.Proofs.Tryd.prog Go.Proofs.Tryd.f44.results.toList = some r_sha_State_Feed := by kernel_rfl
theorem m_sha_State_Feed (C : Ctx) (hC : CtxOK C Go.Proofs.Tryd.prog) : Meets C.glob Go.Proofs.Tryd.prog 44 (afun C 2 r_sha_State_Feed a_sha_State_Feed) :=
  fn_sound hC Go.Proofs.Tryd.func44 c_sha_State_Feed s_sha_State_Feed (Nat.le_of_ble_eq_true (by kernel_rfl))

/-- bytes.Join -/
def a_bytes_Join : ACode :=
 (.seq
  (.region false [⟨(some 4), (.mv (.const (.slice none 0 0))), none⟩])
  (.seq
   (.seq
    (.region false [⟨(some 12), (.mv (.tmp 0)), none⟩,
     ⟨(some 13), (.len (.tmp 12)), none⟩,
     ⟨(some 14), (.bin .eql (.tmp 13) (.const (it 0))), none⟩])
    (.cond (.tmp 14)
     (.seq
      (.region false [⟨(some 15), (.bslice L8 0 (.raw (u8 0#8)) []), none⟩,
       ⟨(some 4), (.mv (.tmp 15)), none⟩])
      .ret)
     .skip))
   (.seq
    (.seq
     (.region false [⟨(some 16), (.mv (.tmp 0)), none⟩,
      ⟨(some 17), (.len (.tmp 16)), none⟩,
      ⟨(some 18), (.bin .eql (.tmp 17) (.const (it 1))), none⟩])
     (.cond (.tmp 18)
      (.seq
       (.region false [⟨(some 19), (.mv (.tmp 0)), none⟩,
        ⟨(some 20), (.iaddrs .ref (.tmp 19) (.const (it 0))), none⟩,
        ⟨(some 21), (.load .ref (.tmp 20)), none⟩,
        ⟨(some 22), (.append L8 1 (.const (.slice none 0 0)) (.tmp 21)), none⟩,
        ⟨(some 4), (.mv (.tmp 22)), none⟩])
       .ret)
      .skip))
    (.seq
     (.region false [⟨(some 5), (.mv (.const (it 0))), none⟩])
     (.seq
      (.seq
       (.region false [⟨(some 23), (.mv (.tmp 1)), none⟩,
        ⟨(some 24), (.len (.tmp 23)), none⟩,
        ⟨(some 25), (.bin .gtr (.tmp 24) (.const (it 0))), none⟩])
       (.cond (.tmp 25)
        (.seq
         (.seq
          (.region false [⟨(some 26), (.mv (.tmp 1)), none⟩,
           ⟨(some 27), (.len (.tmp 26)), none⟩,
           ⟨(some 28), (.mv (.tmp 0)), none⟩,
           ⟨(some 29), (.len (.tmp 28)), none⟩,
           ⟨(some 30), (.bin .sub (.tmp 29) (.const (it 1))), none⟩,
           ⟨(some 31), (.bin .quo (.const (it 9223372036854775807)) (.tmp 30)), none⟩,
           ⟨(some 32), (.bin .geq (.tmp 27) (.tmp 31)), none⟩])
          (.cond (.tmp 32)
           (.region false [⟨(some 33), .fail, none⟩,
            ⟨none, .fail, none⟩])
           .skip))
         (.region false [⟨(some 34), (.mv (.tmp 5)), none⟩,
          ⟨(some 35), (.mv (.tmp 1)), none⟩,
          ⟨(some 36), (.len (.tmp 35)), none⟩,
          ⟨(some 37), (.mv (.tmp 0)), none⟩,
          ⟨(some 38), (.len (.tmp 37)), none⟩,
          ⟨(some 39), (.bin .sub (.tmp 38) (.const (it 1))), none⟩,
          ⟨(some 40), (.bin .mul (.tmp 36) (.tmp 39)), none⟩,
          ⟨(some 41), (.bin .add (.tmp 34) (.tmp 40)), none⟩,
          ⟨(some 5), (.mv (.tmp 41)), none⟩]))
        .skip))
      (.seq
       (.seq
        (.region false [⟨(some 42), (.mv (.tmp 0)), none⟩,
         ⟨(some 43), (.len (.tmp 42)), none⟩,
         ⟨(some 44), (.mv (.const (it 0))), none⟩])
        (.block 0
         (.loop
          (.seq
           (.region false [⟨(some 45), (.bin .lss (.tmp 44) (.tmp 43)), none⟩])
           (.seq
            (.cond (.tmp 45)
             .skip
             (.exit 0))
            (.seq
             (.block 1
              (.seq
               (.region false [⟨(some 46), (.iaddrs .ref (.tmp 42) (.tmp 44)), none⟩,
                ⟨(some 47), (.load .ref (.tmp 46)), none⟩,
                ⟨(some 7), (.mv (.tmp 47)), none⟩])
               (.seq
                (.seq
                 (.region false [⟨(some 48), (.mv (.tmp 7)), none⟩,
                  ⟨(some 49), (.len (.tmp 48)), none⟩,
                  ⟨(some 50), (.mv (.tmp 5)), none⟩,
                  ⟨(some 51), (.bin .sub (.const (it 9223372036854775807)) (.tmp 50)), none⟩,
                  ⟨(some 52), (.bin .gtr (.tmp 49) (.tmp 51)), none⟩])
                 (.cond (.tmp 52)
                  (.region false [⟨(some 53), .fail, none⟩,
                   ⟨none, .fail, none⟩])
                  .skip))
                (.region false [⟨(some 54), (.mv (.tmp 5)), none⟩,
                 ⟨(some 55), (.mv (.tmp 7)), none⟩,
                 ⟨(some 56), (.len (.tmp 55)), none⟩,
                 ⟨(some 57), (.bin .add (.tmp 54) (.tmp 56)), none⟩,
                 ⟨(some 5), (.mv (.tmp 57)), none⟩]))))
             (.region false [⟨(some 58), (.bin .add (.tmp 44) (.const (it 1))), none⟩,
              ⟨(some 44), (.mv (.tmp 58)), none⟩])))))))
       (.seq
        (.region false [⟨(some 59), (.mv (.tmp 5)), none⟩,
         ⟨(some 60), (.mnz (.tmp 59)), none⟩,
         ⟨(some 61), (.mv (.tmp 5)), none⟩,
         ⟨(some 62), (.mv (.tmp 5)), none⟩,
         ⟨(some 63), (.slice L8 (.tmp 60) none (some (.tmp 61)) (some (.tmp 62))), none⟩,
         ⟨(some 8), (.mv (.tmp 63)), none⟩])
        (.seq
         (.region false [⟨(some 64), (.mv (.tmp 8)), none⟩,
          ⟨(some 65), (.mv (.tmp 0)), none⟩,
          ⟨(some 66), (.iaddrs .ref (.tmp 65) (.const (it 0))), none⟩,
          ⟨(some 67), (.load .ref (.tmp 66)), none⟩,
          ⟨(some 68), (.copy L8 (.tmp 64) (.tmp 67)), none⟩,
          ⟨(some 9), (.mv (.tmp 68)), none⟩])
         (.seq
          (.seq
           (.region false [⟨(some 69), (.mv (.tmp 0)), none⟩,
            ⟨(some 70), (.slice .ref (.tmp 69) (some (.const (it 1))) none none), none⟩,
            ⟨(some 71), (.len (.tmp 70)), none⟩,
            ⟨(some 72), (.mv (.const (it 0))), none⟩])
           (.block 2
            (.loop
             (.seq
              (.region false [⟨(some 73), (.bin .lss (.tmp 72) (.tmp 71)), none⟩])
              (.seq
               (.cond (.tmp 73)
                .skip
                (.exit 2))
               (.seq
                (.block 3
                 (.seq
                  (.region false [⟨(some 74), (.iaddrs .ref (.tmp 70) (.tmp 72)), none⟩,
                   ⟨(some 75), (.load .ref (.tmp 74)), none⟩,
                   ⟨(some 11), (.mv (.tmp 75)), none⟩])
                  (.seq
                   (.region false [⟨(some 76), (.mv (.tmp 9)), none⟩,
                    ⟨(some 77), (.mv (.tmp 8)), none⟩,
                    ⟨(some 78), (.mv (.tmp 9)), none⟩,
                    ⟨(some 79), (.slice L8 (.tmp 77) (some (.tmp 78)) none none), none⟩,
                    ⟨(some 80), (.mv (.tmp 1)), none⟩,
                    ⟨(some 81), (.copy L8 (.tmp 79) (.tmp 80)), none⟩,
                    ⟨(some 82), (.bin .add (.tmp 76) (.tmp 81)), none⟩,
                    ⟨(some 9), (.mv (.tmp 82)), none⟩])
                   (.region false [⟨(some 83), (.mv (.tmp 9)), none⟩,
                    ⟨(some 84), (.mv (.tmp 8)), none⟩,
                    ⟨(some 85), (.mv (.tmp 9)), none⟩,
                    ⟨(some 86), (.slice L8 (.tmp 84) (some (.tmp 85)) none none), none⟩,
                    ⟨(some 87), (.mv (.tmp 11)), none⟩,
                    ⟨(some 88), (.copy L8 (.tmp 86) (.tmp 87)), none⟩,
                    ⟨(some 89), (.bin .add (.tmp 83) (.tmp 88)), none⟩,
                    ⟨(some 9), (.mv (.tmp 89)), none⟩]))))
                (.region false [⟨(some 90), (.bin .add (.tmp 72) (.const (it 1))), none⟩,
                 ⟨(some 72), (.mv (.tmp 90)), none⟩])))))))
          (.seq
           (.region false [⟨(some 91), (.mv (.tmp 8)), none⟩,
            ⟨(some 4), (.mv (.tmp 91)), none⟩])
           .ret))))))))))
def r_bytes_Join : List ARes := [(.tmp 4)]
theorem c_bytes_Join : o2 Go.Proofs.Tryd.f45.body (comp Go.Proofs.Tryd.prog Go.Proofs.Tryd.f45.ntmps) = some a_bytes_Join := by kernel_rfl
theorem s_bytes_Join : cRess Go.Proofs.Tryd.prog Go.Proofs.Tryd.f45.results.toList = some r_bytes_Join := by kernel_rfl
theorem m_bytes_Join (C : Ctx) (hC : CtxOK C Go.Proofs.Tryd.prog) : Meets C.glob Go.Proofs.Tryd.prog 45 (afun C 2 r_bytes_Join a_bytes_Join) :=
  fn_sound hC Go.Proofs.Tryd.func45 c_bytes_Join s_bytes_Join (Nat.le_of_ble_eq_true (by kernel_rfl))

/-- (curtilage/sha.State).Sum -/
def a_sha_State_Sum : ACode :=
 (.seq
  (.region false [⟨(some 1), (.box S6 (.tmp 0)), none⟩,
   ⟨(some 2), (.alloc (.ar 32 L8) (.agg (.ar 32 L8) (List.replicate 32 (.raw (u8 0#8))))), none⟩])
  (.seq
   (.draw1 [⟨(some 3), (.load S6 (.tmp 1)), none⟩,
    ⟨(some 4), (.faddr S6 (.tmp 1) 2), none⟩,
    ⟨(some 5), (.load L64 (.tmp 4)), none⟩,
    ⟨(some 6), (.call 56 [(.tmp 5)]), none⟩]
    [⟨(some 7), (.call 44 [(.tmp 3), (.tmp 6)]), none⟩,
    ⟨(some 8), (.field S6 (.tmp 7) 0), none⟩,
    ⟨(some 9), (.call 55 [(.tmp 8)]), none⟩,
    ⟨none, (.store (.ar 32 L8) (.tmp 2) (.tmp 9)), none⟩])
   .ret))
def r_sha_State_Sum : List ARes := [(.cell 2 (.ar 32 L8))]
theorem c_sha_State_Sum : o2 Go.Proofs.Tryd.f46.body (comp Go.Proofs.Tryd.prog Go.Proofs.Tryd.f46.ntmps) = some a_sha_State_Sum := by kernel_rfl
theorem s_sha_State_Sum : cRess Go.Proofs.Tryd.prog Go.Proofs.Tryd.f46.results.toList = some r_sha_State_Sum := by kernel_rfl
theorem m_sha_State_Sum (C : Ctx) (hC : CtxOK C Go.Proofs.Tryd.prog) : Meets C.glob Go.Proofs.Tryd.prog 46 (afun C 1 r_sha_State_Sum a_sha_State_Sum) :=
  fn_sound hC Go.Proofs.Tryd.func46 c_sha_State_Sum s_sha_State_Sum (Nat.le_of_ble_eq_true (by kernel_rfl))

/-- curtilage/curtilageref01.Press -/
def a_ref01_Press : ACode :=
 (.seq
  (.region false [⟨(some 2), (.box (.ar 8 L32) (.tmp 0)), none⟩,
   ⟨(some 4), (.alloc (.ar 8 L32) (.agg (.ar 8 L32) (List.replicate 8 (.raw (u32 0#32))))), none⟩])
  (.seq
   (.region false [⟨(some 21), (.mks L32 4 (.raw (u32 0#32)) (.const (it 64)) (.const (it 64))), none⟩,
    ⟨(some 5), (.mv (.tmp 21)), none⟩])
   (.seq
    (.seq
     (.region false [⟨(some 22), (.mv (.tmp 5)), none⟩,
      ⟨(some 23), (.len (.tmp 22)), none⟩,
      ⟨(some 24), (.mv (.const (it 0))), none⟩])
     (.block 0
      (.loop
       (.seq
        (.region false [⟨(some 25), (.bin .lss (.tmp 24) (.tmp 23)), none⟩])
        (.seq
         (.cond (.tmp 25)
          .skip
          (.exit 0))
         (.seq
          (.block 1
           (.seq
            (.region false [⟨(some 26), (.mv (.tmp 24)), none⟩,
             ⟨(some 6), (.mv (.tmp 26)), none⟩])
            (.seq
             (.seq
              (.region false [⟨(some 27), (.mv (.tmp 6)), none⟩,
               ⟨(some 28), (.bin .lss (.tmp 27) (.const (it 16))), none⟩])
              (.cond (.tmp 28)
               (.seq
                (.region false [⟨(some 29), (.mv (.tmp 5)), none⟩,
                 ⟨(some 30), (.mv (.tmp 6)), none⟩,
                 ⟨(some 31), (.mv (.tmp 1)), none⟩,
                 ⟨(some 32), (.mv (.tmp 6)), none⟩,
                 ⟨(some 33), (.bin .mul (.const (it 4)) (.tmp 32)), none⟩,
                 ⟨(some 34), (.mv (.tmp 6)), none⟩,
                 ⟨(some 35), (.bin .mul (.const (it 4)) (.tmp 34)), none⟩,
                 ⟨(some 36), (.bin .add (.tmp 35) (.const (it 4))), none⟩,
                 ⟨(some 37), (.slice L8 (.tmp 31) (some (.tmp 33)) (some (.tmp 36)) none), none⟩,
                 ⟨(some 38), (.call 33 [(.tmp 37)]), none⟩,
                 ⟨(some 39), (.conv .u32 (.tmp 38)), none⟩,
                 ⟨(some 40), (.iaddrs L32 (.tmp 29) (.tmp 30)), none⟩,
                 ⟨none, (.store L32 (.tmp 40) (.tmp 39)), none⟩])
                (.exit 1))
               .skip))
             (.region true [⟨(some 41), (.mv (.tmp 5)), none⟩,
              ⟨(some 42), (.mv (.tmp 6)), none⟩,
              ⟨(some 43), (.mv (.tmp 5)), none⟩,
              ⟨(some 44), (.mv (.tmp 6)), none⟩,
              ⟨(some 45), (.bin .sub (.tmp 44) (.const (it 16))), none⟩,
              ⟨(some 46), (.iaddrs L32 (.tmp 43) (.tmp 45)), none⟩,
              ⟨(some 47), (.load L32 (.tmp 46)), none⟩,
              ⟨(some 48), (.mv (.tmp 5)), none⟩,
              ⟨(some 49), (.mv (.tmp 6)), none⟩,
              ⟨(some 50), (.bin .sub (.tmp 49) (.const (it 15))), none⟩,
              ⟨(some 51), (.iaddrs L32 (.tmp 48) (.tmp 50)), none⟩,
              ⟨(some 52), (.load L32 (.tmp 51)), none⟩,
              ⟨(some 53), (.call 57 [(.tmp 52), (.const (it 7))]), none⟩,
              ⟨(some 54), (.mv (.tmp 5)), none⟩,
              ⟨(some 55), (.mv (.tmp 6)), none⟩,
              ⟨(some 56), (.bin .sub (.tmp 55) (.const (it 15))), none⟩,
              ⟨(some 57), (.iaddrs L32 (.tmp 54) (.tmp 56)), none⟩,
              ⟨(some 58), (.load L32 (.tmp 57)), none⟩,
              ⟨(some 59), (.call 57 [(.tmp 58), (.const (it 18))]), none⟩,
              ⟨(some 60), (.bin .xor (.tmp 53) (.tmp 59)), none⟩,
              ⟨(some 61), (.mv (.tmp 5)), none⟩,
              ⟨(some 62), (.mv (.tmp 6)), none⟩,
              ⟨(some 63), (.bin .sub (.tmp 62) (.const (it 15))), none⟩,
              ⟨(some 64), (.iaddrs L32 (.tmp 61) (.tmp 63)), none⟩,
              ⟨(some 65), (.load L32 (.tmp 64)), none⟩,
              ⟨(some 66), (.bin .shr (.tmp 65) (.const (u64 3#64))), none⟩,
              ⟨(some 67), (.bin .xor (.tmp 60) (.tmp 66)), none⟩,
              ⟨(some 68), (.bin .add (.tmp 47) (.tmp 67)), none⟩,
              ⟨(some 69), (.mv (.tmp 5)), none⟩,
              ⟨(some 70), (.mv (.tmp 6)), none⟩,
              ⟨(some 71), (.bin .sub (.tmp 70) (.const (it 7))), none⟩,
              ⟨(some 72), (.iaddrs L32 (.tmp 69) (.tmp 71)), none⟩,
              ⟨(some 73), (.load L32 (.tmp 72)), none⟩,
              ⟨(some 74), (.bin .add (.tmp 68) (.tmp 73)), none⟩,
              ⟨(some 75), (.mv (.tmp 5)), none⟩,
              ⟨(some 76), (.mv (.tmp 6)), none⟩,
              ⟨(some 77), (.bin .sub (.tmp 76) (.const (it 2))), none⟩,
              ⟨(some 78), (.iaddrs L32 (.tmp 75) (.tmp 77)), none⟩,
              ⟨(some 79), (.load L32 (.tmp 78)), none⟩,
              ⟨(some 80), (.call 57 [(.tmp 79), (.const (it 17))]), none⟩,
              ⟨(some 81), (.mv (.tmp 5)), none⟩,
              ⟨(some 82), (.mv (.tmp 6)), none⟩,
              ⟨(some 83), (.bin .sub (.tmp 82) (.const (it 2))), none⟩,
              ⟨(some 84), (.iaddrs L32 (.tmp 81) (.tmp 83)), none⟩,
              ⟨(some 85), (.load L32 (.tmp 84)), none⟩,
              ⟨(some 86), (.call 57 [(.tmp 85), (.const (it 19))]), none⟩,
              ⟨(some 87), (.bin .xor (.tmp 80) (.tmp 86)), none⟩,
              ⟨(some 88), (.mv (.tmp 5)), none⟩,
              ⟨(some 89), (.mv (.tmp 6)), none⟩,
              ⟨(some 90), (.bin .sub (.tmp 89) (.const (it 2))), none⟩,
              ⟨(some 91), (.iaddrs L32 (.tmp 88) (.tmp 90)), none⟩,
              ⟨(some 92), (.load L32 (.tmp 91)), none⟩,
              ⟨(some 93), (.bin .shr (.tmp 92) (.const (u64 10#64))), none⟩,
              ⟨(some 94), (.bin .xor (.tmp 87) (.tmp 93)), none⟩,
              ⟨(some 95), (.bin .add (.tmp 74) (.tmp 94)), none⟩,
              ⟨(some 96), (.iaddrs L32 (.tmp 41) (.tmp 42)), none⟩,
              ⟨none, (.store L32 (.tmp 96) (.tmp 95)), none⟩]))))
          (.region false [⟨(some 97), (.bin .add (.tmp 24) (.const (it 1))), none⟩,
           ⟨(some 24), (.mv (.tmp 97)), none⟩])))))))
    (.seq
     (.region true [⟨(some 98), (.iaddra 8 L32 (.tmp 2) (.const (it 0))), none⟩,
      ⟨(some 99), (.load L32 (.tmp 98)), none⟩,
      ⟨(some 100), (.iaddra 8 L32 (.tmp 2) (.const (it 1))), none⟩,
      ⟨(some 101), (.load L32 (.tmp 100)), none⟩,
      ⟨(some 102), (.iaddra 8 L32 (.tmp 2) (.const (it 2))), none⟩,
      ⟨(some 103), (.load L32 (.tmp 102)), none⟩,
      ⟨(some 104), (.iaddra 8 L32 (.tmp 2) (.const (it 3))), none⟩,
      ⟨(some 105), (.load L32 (.tmp 104)), none⟩,
      ⟨(some 106), (.iaddra 8 L32 (.tmp 2) (.const (it 4))), none⟩,
      ⟨(some 107), (.load L32 (.tmp 106)), none⟩,
      ⟨(some 108), (.iaddra 8 L32 (.tmp 2) (.const (it 5))), none⟩,
      ⟨(some 109), (.load L32 (.tmp 108)), none⟩,
      ⟨(some 110), (.iaddra 8 L32 (.tmp 2) (.const (it 6))), none⟩,
      ⟨(some 111), (.load L32 (.tmp 110)), none⟩,
      ⟨(some 112), (.iaddra 8 L32 (.tmp 2) (.const (it 7))), none⟩,
      ⟨(some 113), (.load L32 (.tmp 112)), none⟩,
      ⟨(some 7), (.mv (.tmp 99)), none⟩,
      ⟨(some 8), (.mv (.tmp 101)), none⟩,
      ⟨(some 9), (.mv (.tmp 103)), none⟩,
      ⟨(some 10), (.mv (.tmp 105)), none⟩,
      ⟨(some 11), (.mv (.tmp 107)), none⟩,
      ⟨(some 12), (.mv (.tmp 109)), none⟩,
      ⟨(some 13), (.mv (.tmp 111)), none⟩,
      ⟨(some 14), (.mv (.tmp 113)), none⟩])
     (.seq
      (.region false [⟨(some 114), (.call 58 []), none⟩,
       ⟨(some 15), (.alloc (.ar 64 L32) (.agg (.ar 64 L32) (List.replicate 64 (.raw (u32 0#32))))), none⟩,
       ⟨none, (.store (.ar 64 L32) (.tmp 15) (.tmp 114)), none⟩])
      (.seq
       (.seq
        (.region false [⟨(some 115), (.mv (.tmp 5)), none⟩,
         ⟨(some 116), (.len (.tmp 115)), none⟩,
         ⟨(some 117), (.mv (.const (it 0))), none⟩])
        (.block 2
         (.loop
          (.seq
           (.region false [⟨(some 118), (.bin .lss (.tmp 117) (.tmp 116)), none⟩])
           (.seq
            (.cond (.tmp 118)
             .skip
             (.exit 2))
            (.seq
             (.block 3
              (.seq
               (.region false [⟨(some 119), (.mv (.tmp 117)), none⟩,
                ⟨(some 16), (.mv (.tmp 119)), none⟩])
               (.seq
                (.region true [⟨(some 120), (.mv (.tmp 14)), none⟩,
                 ⟨(some 121), (.mv (.tmp 11)), none⟩,
                 ⟨(some 122), (.call 57 [(.tmp 121), (.const (it 6))]), none⟩,
                 ⟨(some 123), (.mv (.tmp 11)), none⟩,
                 ⟨(some 124), (.call 57 [(.tmp 123), (.const (it 11))]), none⟩,
                 ⟨(some 125), (.bin .xor (.tmp 122) (.tmp 124)), none⟩,
                 ⟨(some 126), (.mv (.tmp 11)), none⟩,
                 ⟨(some 127), (.call 57 [(.tmp 126), (.const (it 25))]), none⟩,
                 ⟨(some 128), (.bin .xor (.tmp 125) (.tmp 127)), none⟩,
                 ⟨(some 129), (.bin .add (.tmp 120) (.tmp 128)), none⟩,
                 ⟨(some 130), (.mv (.tmp 11)), none⟩,
                 ⟨(some 131), (.mv (.tmp 12)), none⟩,
                 ⟨(some 132), (.bin .and (.tmp 130) (.tmp 131)), none⟩,
                 ⟨(some 133), (.mv (.tmp 11)), none⟩,
                 ⟨(some 134), (.bin .sub (.const (u32 4294967295#32)) (.tmp 133)), none⟩,
                 ⟨(some 135), (.mv (.tmp 13)), none⟩,
                 ⟨(some 136), (.bin .and (.tmp 134) (.tmp 135)), none⟩,
                 ⟨(some 137), (.bin .xor (.tmp 132) (.tmp 136)), none⟩,
                 ⟨(some 138), (.bin .add (.tmp 129) (.tmp 137)), none⟩,
                 ⟨(some 139), (.mv (.tmp 16)), none⟩,
                 ⟨(some 140), (.iaddra 64 L32 (.tmp 15) (.tmp 139)), none⟩,
                 ⟨(some 141), (.load L32 (.tmp 140)), none⟩,
                 ⟨(some 142), (.bin .add (.tmp 138) (.tmp 141)), none⟩,
                 ⟨(some 143), (.mv (.tmp 5)), none⟩,
                 ⟨(some 144), (.mv (.tmp 16)), none⟩,
                 ⟨(some 145), (.iaddrs L32 (.tmp 143) (.tmp 144)), none⟩,
                 ⟨(some 146), (.load L32 (.tmp 145)), none⟩,
                 ⟨(some 147), (.bin .add (.tmp 142) (.tmp 146)), none⟩,
                 ⟨(some 17), (.mv (.tmp 147)), none⟩])
                (.seq
                 (.region false [⟨(some 148), (.mv (.tmp 7)), none⟩,
                  ⟨(some 149), (.call 57 [(.tmp 148), (.const (it 2))]), none⟩,
                  ⟨(some 150), (.mv (.tmp 7)), none⟩,
                  ⟨(some 151), (.call 57 [(.tmp 150), (.const (it 13))]), none⟩,
                  ⟨(some 152), (.bin .xor (.tmp 149) (.tmp 151)), none⟩,
                  ⟨(some 153), (.mv (.tmp 7)), none⟩,
                  ⟨(some 154), (.call 57 [(.tmp 153), (.const (it 22))]), none⟩,
                  ⟨(some 155), (.bin .xor (.tmp 152) (.tmp 154)), none⟩,
                  ⟨(some 156), (.mv (.tmp 7)), none⟩,
                  ⟨(some 157), (.mv (.tmp 8)), none⟩,
                  ⟨(some 158), (.bin .and (.tmp 156) (.tmp 157)), none⟩,
                  ⟨(some 159), (.mv (.tmp 7)), none⟩,
                  ⟨(some 160), (.mv (.tmp 9)), none⟩,
                  ⟨(some 161), (.bin .and (.tmp 159) (.tmp 160)), none⟩,
                  ⟨(some 162), (.bin .xor (.tmp 158) (.tmp 161)), none⟩,
                  ⟨(some 163), (.mv (.tmp 8)), none⟩,
                  ⟨(some 164), (.mv (.tmp 9)), none⟩,
                  ⟨(some 165), (.bin .and (.tmp 163) (.tmp 164)), none⟩,
                  ⟨(some 166), (.bin .xor (.tmp 162) (.tmp 165)), none⟩,
                  ⟨(some 167), (.bin .add (.tmp 155) (.tmp 166)), none⟩,
                  ⟨(some 18), (.mv (.tmp 167)), none⟩])
                 (.region false [⟨(some 168), (.mv (.tmp 13)), none⟩,
                  ⟨(some 169), (.mv (.tmp 12)), none⟩,
                  ⟨(some 170), (.mv (.tmp 11)), none⟩,
                  ⟨(some 171), (.mv (.tmp 10)), none⟩,
                  ⟨(some 172), (.mv (.tmp 17)), none⟩,
                  ⟨(some 173), (.bin .add (.tmp 171) (.tmp 172)), none⟩,
                  ⟨(some 174), (.mv (.tmp 9)), none⟩,
                  ⟨(some 175), (.mv (.tmp 8)), none⟩,
                  ⟨(some 176), (.mv (.tmp 7)), none⟩,
                  ⟨(some 177), (.mv (.tmp 17)), none⟩,
                  ⟨(some 178), (.mv (.tmp 18)), none⟩,
                  ⟨(some 179), (.bin .add (.tmp 177) (.tmp 178)), none⟩,
                  ⟨(some 14), (.mv (.tmp 168)), none⟩,
                  ⟨(some 13), (.mv (.tmp 169)), none⟩,
                  ⟨(some 12), (.mv (.tmp 170)), none⟩,
                  ⟨(some 11), (.mv (.tmp 173)), none⟩,
                  ⟨(some 10), (.mv (.tmp 174)), none⟩,
                  ⟨(some 9), (.mv (.tmp 175)), none⟩,
                  ⟨(some 8), (.mv (.tmp 176)), none⟩,
                  ⟨(some 7), (.mv (.tmp 179)), none⟩])))))
             (.region false [⟨(some 180), (.bin .add (.tmp 117) (.const (it 1))), none⟩,
              ⟨(some 117), (.mv (.tmp 180)), none⟩])))))))
       (.seq
        (.region false [⟨(some 181), (.mv (.tmp 7)), none⟩,
         ⟨(some 182), (.mv (.tmp 8)), none⟩,
         ⟨(some 183), (.mv (.tmp 9)), none⟩,
         ⟨(some 184), (.mv (.tmp 10)), none⟩,
         ⟨(some 185), (.mv (.tmp 11)), none⟩,
         ⟨(some 186), (.mv (.tmp 12)), none⟩,
         ⟨(some 187), (.mv (.tmp 13)), none⟩,
         ⟨(some 188), (.mv (.tmp 14)), none⟩,
         ⟨(some 189), (.build (.ar 8 L32) (List.replicate 8 (.raw (u32 0#32))) [(0, (.tmp 181)), (1, (.tmp 182)), (2, (.tmp 183)), (3, (.tmp 184)), (4, (.tmp 185)), (5, (.tmp 186)), (6, (.tmp 187)), (7, (.tmp 188))]), none⟩,
         ⟨(some 19), (.alloc (.ar 8 L32) (.agg (.ar 8 L32) (List.replicate 8 (.raw (u32 0#32))))), none⟩,
         ⟨none, (.store (.ar 8 L32) (.tmp 19) (.tmp 189)), none⟩])
        (.seq
         (.seq
          (.region false [⟨(some 190), (.mv (.const (it 0))), none⟩])
          (.block 4
           (.loop
            (.seq
             (.region false [⟨(some 191), (.bin .lss (.tmp 190) (.const (it 8))), none⟩])
             (.seq
              (.cond (.tmp 191)
               .skip
               (.exit 4))
              (.seq
               (.block 5
                (.seq
                 (.region false [⟨(some 192), (.mv (.tmp 190)), none⟩,
                  ⟨(some 20), (.mv (.tmp 192)), none⟩])
                 (.region true [⟨(some 193), (.mv (.tmp 20)), none⟩,
                  ⟨(some 194), (.iaddra 8 L32 (.tmp 19) (.tmp 193)), none⟩,
                  ⟨(some 195), (.load L32 (.tmp 194)), none⟩,
                  ⟨(some 196), (.mv (.tmp 20)), none⟩,
                  ⟨(some 197), (.iaddra 8 L32 (.tmp 2) (.tmp 196)), none⟩,
                  ⟨(some 198), (.load L32 (.tmp 197)), none⟩,
                  ⟨(some 199), (.bin .add (.tmp 195) (.tmp 198)), none⟩,
                  ⟨(some 200), (.iaddra 8 L32 (.tmp 19) (.tmp 193)), none⟩,
                  ⟨none, (.store L32 (.tmp 200) (.tmp 199)), none⟩])))
               (.region false [⟨(some 201), (.bin .add (.tmp 190) (.const (it 1))), none⟩,
                ⟨(some 190), (.mv (.tmp 201)), none⟩])))))))
         (.seq
          (.region false [⟨(some 202), (.load (.ar 8 L32) (.tmp 19)), none⟩,
           ⟨none, (.store (.ar 8 L32) (.tmp 4) (.tmp 202)), none⟩])
          .ret)))))))))
def r_ref01_Press : List ARes := [(.cell 4 (.ar 8 L32))]
theorem c_ref01_Press : o2 Go.Proofs.Tryd.f47.body (comp Go.Proofs.Tryd.prog Go.Proofs.Tryd.f47.ntmps) = some a_ref01_Press := by kernel_rfl
theorem s_ref01_Press : cRess Go.Proofs.Tryd.prog Go.Proofs.Tryd.f47.results.toList = some r_ref01_Press := by kernel_rfl
theorem m_ref01_Press (C : Ctx) (hC : CtxOK C Go.Proofs.Tryd.prog) : Meets C.glob Go.Proofs.Tryd.prog 47 (afun C 2 r_ref01_Press a_ref01_Press) :=
  fn_sound hC Go.Proofs.Tryd.func47 c_ref01_Press s_ref01_Press (Nat.le_of_ble_eq_true (by kernel_rfl))

/-- math/bits.Mul -/
def a_math_bits_Mul : ACode :=
 (.seq
  (.region false [⟨(some 4), (.mv (.const (u64 0#64))), none⟩,
   ⟨(some 5), (.mv (.const (u64 0#64))), none⟩])
  (.seq
   (.cond (.const (.bool false))
    (.seq
     (.region false [⟨(some 11), (.mv (.tmp 0)), none⟩,
      ⟨(some 12), (.conv .u32 (.tmp 11)), none⟩,
      ⟨(some 13), (.mv (.tmp 1)), none⟩,
      ⟨(some 14), (.conv .u32 (.tmp 13)), none⟩,
      ⟨(some 15), (.call 59 [(.tmp 12), (.tmp 14)]), none⟩,
      ⟨(some 10), (.mv (.tmp 15)), none⟩,
      ⟨(some 16), (.ext (.tmp 10) 0), none⟩,
      ⟨(some 17), (.ext (.tmp 10) 1), none⟩,
      ⟨(some 6), (.mv (.tmp 16)), none⟩,
      ⟨(some 7), (.mv (.tmp 17)), none⟩])
     (.seq
      (.region false [⟨(some 18), (.mv (.tmp 6)), none⟩,
       ⟨(some 19), (.conv .u64 (.tmp 18)), none⟩,
       ⟨(some 20), (.mv (.tmp 7)), none⟩,
       ⟨(some 21), (.conv .u64 (.tmp 20)), none⟩,
       ⟨(some 4), (.mv (.tmp 19)), none⟩,
       ⟨(some 5), (.mv (.tmp 21)), none⟩])
      .ret))
    .skip)
   (.seq
    (.region false [⟨(some 23), (.mv (.tmp 0)), none⟩,
     ⟨(some 24), (.mv (.tmp 1)), none⟩,
     ⟨(some 25), (.call 60 [(.tmp 23), (.tmp 24)]), none⟩,
     ⟨(some 22), (.mv (.tmp 25)), none⟩,
     ⟨(some 26), (.ext (.tmp 22) 0), none⟩,
     ⟨(some 27), (.ext (.tmp 22) 1), none⟩,
     ⟨(some 8), (.mv (.tmp 26)), none⟩,
     ⟨(some 9), (.mv (.tmp 27)), none⟩])
    (.seq
     (.region false [⟨(some 28), (.mv (.tmp 8)), none⟩,
      ⟨(some 29), (.mv (.tmp 9)), none⟩,
      ⟨(some 4), (.mv (.tmp 28)), none⟩,
      ⟨(some 5), (.mv (.tmp 29)), none⟩])
     .ret))))
def r_math_bits_Mul : List ARes := [(.tmp 4), (.tmp 5)]
theorem c_math_bits_Mul : o2 Go.Proofs.Tryd.f48.body (comp Go.Proofs.Tryd.prog Go.Proofs.Tryd.f48.ntmps) = some a_math_bits_Mul := by kernel_rfl
theorem s_math_bits_Mul : cRess Go.Proofs.Tryd.prog Go.Proofs.Tryd.f48.results.toList = some r_math_bits_Mul := by kernel_rfl
theorem m_math_bits_Mul (C : Ctx) (hC : CtxOK C Go.Proofs.Tryd.prog) : Meets C.glob Go.Proofs.Tryd.prog 48 (afun C 2 r_math_bits_Mul a_math_bits_Mul) :=
  fn_sound hC Go.Proofs.Tryd.func48 c_math_bits_Mul s_math_bits_Mul (Nat.le_of_ble_eq_true (by kernel_rfl))

/-- (*curtilage/flash.Flash).within -/
def a_flash_Flash_within : ACode :=
 (.seq
  (.region false [⟨(some 6), (.mv (.const (it 0))), none⟩])
  (.seq
   (.block 0
    (.seq
     (.region false [⟨(some 8), (.mv (.tmp 0)), none⟩,
      ⟨(some 9), (.eqnil false (.tmp 8) (.const (.pointer none))), none⟩,
      ⟨(some 7), (.mv (.tmp 9)), none⟩])
     (.cond (.tmp 7)
      (.seq
       (.region false [⟨(some 6), (.mv (.const (it 3))), none⟩])
       .ret)
      (.seq
       (.region false [⟨(some 11), (.mv (.tmp 1)), none⟩,
        ⟨(some 12), (.bin .lss (.tmp 11) (.const (it 0))), none⟩,
        ⟨(some 13), (.mv (.tmp 12)), none⟩,
        ⟨(some 14), (.mv (.tmp 2)), some (13, false)⟩,
        ⟨(some 15), (.bin .lss (.tmp 14) (.const (it 0))), some (13, false)⟩,
        ⟨(some 16), (.pick (.tmp 13) (.const (.bool true)) (.tmp 15)), none⟩,
        ⟨(some 17), (.mv (.tmp 16)), none⟩,
        ⟨(some 18), (.mv (.tmp 1)), some (17, false)⟩,
        ⟨(some 19), (.mv (.tmp 0)), some (17, false)⟩,
        ⟨(some 20), (.nilc (.tmp 19)), some (17, false)⟩,
        ⟨(some 21), (.faddr S3 (.tmp 20) 0), some (17, false)⟩,
        ⟨(some 22), (.load .ref (.tmp 21)), some (17, false)⟩,
        ⟨(some 23), (.len (.tmp 22)), some (17, false)⟩,
        ⟨(some 24), (.bin .gtr (.tmp 18) (.tmp 23)), some (17, false)⟩,
        ⟨(some 25), (.pick (.tmp 17) (.const (.bool true)) (.tmp 24)), none⟩,
        ⟨(some 26), (.mv (.tmp 25)), none⟩,
        ⟨(some 27), (.mv (.tmp 2)), some (26, false)⟩,
        ⟨(some 28), (.mv (.tmp 0)), some (26, false)⟩,
        ⟨(some 29), (.nilc (.tmp 28)), some (26, false)⟩,
        ⟨(some 30), (.faddr S3 (.tmp 29) 0), some (26, false)⟩,
        ⟨(some 31), (.load .ref (.tmp 30)), some (26, false)⟩,
        ⟨(some 32), (.len (.tmp 31)), some (26, false)⟩,
        ⟨(some 33), (.mv (.tmp 1)), some (26, false)⟩,
        ⟨(some 34), (.bin .sub (.tmp 32) (.tmp 33)), some (26, false)⟩,
        ⟨(some 35), (.bin .gtr (.tmp 27) (.tmp 34)), some (26, false)⟩,
        ⟨(some 36), (.pick (.tmp 26) (.const (.bool true)) (.tmp 35)), none⟩,
        ⟨(some 10), (.mv (.tmp 36)), none⟩])
       (.cond (.tmp 10)
        (.seq
         (.region false [⟨(some 6), (.mv (.const (it 9))), none⟩])
         .ret)
        .skip)))))
   (.seq
    (.region false [⟨(some 6), (.mv (.const (it 0))), none⟩])
    .ret)))
def r_flash_Flash_within : List ARes := [(.tmp 6)]
theorem c_flash_Flash_within : o2 Go.Proofs.Tryd.f50.body (comp Go.Proofs.Tryd.prog Go.Proofs.Tryd.f50.ntmps) = some a_flash_Flash_within := by kernel_rfl
theorem s_flash_Flash_within : cRess Go.Proofs.Tryd.prog Go.Proofs.Tryd.f50.results.toList = some r_flash_Flash_within := by kernel_rfl
theorem m_flash_Flash_within (C : Ctx) (hC : CtxOK C Go.Proofs.Tryd.prog) : Meets C.glob Go.Proofs.Tryd.prog 50 (afun C 3 r_flash_Flash_within a_flash_Flash_within) :=
  fn_sound hC Go.Proofs.Tryd.func50 c_flash_Flash_within s_flash_Flash_within (Nat.le_of_ble_eq_true (by kernel_rfl))

/-- bytes.Clone -/
def a_bytes_Clone : ACode :=
 (.seq
  (.region false [⟨(some 2), (.mv (.const (.slice none 0 0))), none⟩])
  (.seq
   (.seq
    (.region false [⟨(some 3), (.mv (.tmp 0)), none⟩,
     ⟨(some 4), (.eqsn false (.tmp 3) (.const (.slice none 0 0))), none⟩])
    (.cond (.tmp 4)
     (.seq
      (.region false [⟨(some 2), (.mv (.const (.slice none 0 0))), none⟩])
      .ret)
     .skip))
   (.seq
    (.region false [⟨(some 5), (.bslice L8 0 (.raw (u8 0#8)) []), none⟩,
     ⟨(some 6), (.mv (.tmp 0)), none⟩,
     ⟨(some 7), (.append L8 1 (.tmp 5) (.tmp 6)), none⟩,
     ⟨(some 2), (.mv (.tmp 7)), none⟩])
    .ret)))
def r_bytes_Clone : List ARes := [(.tmp 2)]
theorem c_bytes_Clone : o2 Go.Proofs.Tryd.f51.body (comp Go.Proofs.Tryd.prog Go.Proofs.Tryd.f51.ntmps) = some a_bytes_Clone := by kernel_rfl
theorem s_bytes_Clone : cRess Go.Proofs.Tryd.prog Go.Proofs.Tryd.f51.results.toList = some r_bytes_Clone := by kernel_rfl
theorem m_bytes_Clone (C : Ctx) (hC : CtxOK C Go.Proofs.Tryd.prog) : Meets C.glob Go.Proofs.Tryd.prog 51 (afun C 1 r_bytes_Clone a_bytes_Clone) :=
  fn_sound hC Go.Proofs.Tryd.func51 c_bytes_Clone s_bytes_Clone (Nat.le_of_ble_eq_true (by kernel_rfl))

/-- curtilage/flash.clears -/
def a_flash_clears : ACode :=
 (.seq
  (.region false [⟨(some 4), (.mv (.const (.bool false))), none⟩])
  (.seq
   (.seq
    (.region false [⟨(some 7), (.mv (.tmp 1)), none⟩,
     ⟨(some 8), (.len (.tmp 7)), none⟩,
     ⟨(some 9), (.mv (.const (it 0))), none⟩])
    (.block 0
     (.loop
      (.seq
       (.region false [⟨(some 10), (.bin .lss (.tmp 9) (.tmp 8)), none⟩])
       (.seq
        (.cond (.tmp 10)
         .skip
         (.exit 0))
        (.seq
         (.block 1
          (.seq
           (.region false [⟨(some 11), (.mv (.tmp 9)), none⟩,
            ⟨(some 12), (.iaddrs L8 (.tmp 7) (.tmp 9)), none⟩,
            ⟨(some 13), (.load L8 (.tmp 12)), none⟩,
            ⟨(some 5), (.mv (.tmp 11)), none⟩,
            ⟨(some 6), (.mv (.tmp 13)), none⟩])
           (.seq
            (.region false [⟨(some 14), (.mv (.tmp 6)), none⟩,
             ⟨(some 15), (.mv (.tmp 0)), none⟩,
             ⟨(some 16), (.mv (.tmp 5)), none⟩,
             ⟨(some 17), (.iaddrs L8 (.tmp 15) (.tmp 16)), none⟩,
             ⟨(some 18), (.load L8 (.tmp 17)), none⟩,
             ⟨(some 19), (.bin .andNot (.tmp 14) (.tmp 18)), none⟩,
             ⟨(some 20), (.bin .neq (.tmp 19) (.const (u8 0#8))), none⟩])
            (.cond (.tmp 20)
             (.seq
              (.region false [⟨(some 4), (.mv (.const (.bool false))), none⟩])
              .ret)
             .skip))))
         (.region false [⟨(some 21), (.bin .add (.tmp 9) (.const (it 1))), none⟩,
          ⟨(some 9), (.mv (.tmp 21)), none⟩])))))))
   (.seq
    (.region false [⟨(some 4), (.mv (.const (.bool true))), none⟩])
    .ret)))
def r_flash_clears : List ARes := [(.tmp 4)]
theorem c_flash_clears : o2 Go.Proofs.Tryd.f52.body (comp Go.Proofs.Tryd.prog Go.Proofs.Tryd.f52.ntmps) = some a_flash_clears := by kernel_rfl
theorem s_flash_clears : cRess Go.Proofs.Tryd.prog Go.Proofs.Tryd.f52.results.toList = some r_flash_clears := by kernel_rfl
theorem m_flash_clears (C : Ctx) (hC : CtxOK C Go.Proofs.Tryd.prog) : Meets C.glob Go.Proofs.Tryd.prog 52 (afun C 2 r_flash_clears a_flash_clears) :=
  fn_sound hC Go.Proofs.Tryd.func52 c_flash_clears s_flash_clears (Nat.le_of_ble_eq_true (by kernel_rfl))

/-- (*curtilage/fuse.Array).Cut -/
def a_fuse_Array_Cut : ACode :=
 (.seq
  (.region false [⟨(some 8), (.mv (.const (it 0))), none⟩])
  (.seq
   (.seq
    (.region false [⟨(some 10), (.mv (.tmp 0)), none⟩,
     ⟨(some 11), (.mv (.tmp 1)), none⟩,
     ⟨(some 12), (.call 61 [(.tmp 10), (.tmp 11)]), none⟩,
     ⟨(some 9), (.mv (.tmp 12)), none⟩])
    (.seq
     (.region false [⟨(some 13), (.mv (.tmp 9)), none⟩,
      ⟨(some 14), (.bin .neq (.tmp 13) (.const (it 0))), none⟩])
     (.cond (.tmp 14)
      (.seq
       (.region false [⟨(some 15), (.mv (.tmp 9)), none⟩,
        ⟨(some 8), (.mv (.tmp 15)), none⟩])
       .ret)
      .skip)))
   (.seq
    (.seq
     (.region false [⟨(some 16), (.mv (.tmp 0)), none⟩,
      ⟨(some 17), (.nilc (.tmp 16)), none⟩,
      ⟨(some 18), (.faddr S3 (.tmp 17) 0), none⟩,
      ⟨(some 19), (.load .ref (.tmp 18)), none⟩,
      ⟨(some 20), (.mv (.tmp 1)), none⟩,
      ⟨(some 21), (.iaddrs S7 (.tmp 19) (.tmp 20)), none⟩,
      ⟨(some 22), (.faddr S7 (.tmp 21) 0), none⟩,
      ⟨(some 23), (.load L32 (.tmp 22)), none⟩,
      ⟨(some 24), (.mv (.tmp 2)), none⟩,
      ⟨(some 25), (.bin .andNot (.tmp 23) (.tmp 24)), none⟩,
      ⟨(some 26), (.bin .neq (.tmp 25) (.const (u32 0#32))), none⟩])
     (.cond (.tmp 26)
      (.seq
       (.region false [⟨(some 8), (.mv (.const (it 11))), none⟩])
       .ret)
      .skip))
    (.seq
     (.region false [⟨(some 27), (.mv (.tmp 0)), none⟩,
      ⟨(some 28), (.nilc (.tmp 27)), none⟩,
      ⟨(some 29), (.faddr S3 (.tmp 28) 0), none⟩,
      ⟨(some 30), (.load .ref (.tmp 29)), none⟩,
      ⟨(some 31), (.mv (.tmp 1)), none⟩,
      ⟨(some 32), (.iaddrs S7 (.tmp 30) (.tmp 31)), none⟩,
      ⟨(some 33), (.faddr S7 (.tmp 32) 0), none⟩,
      ⟨(some 34), (.load L32 (.tmp 33)), none⟩,
      ⟨(some 35), (.mv (.tmp 2)), none⟩,
      ⟨(some 36), (.mv (.tmp 3)), none⟩,
      ⟨(some 37), (.bin .and (.tmp 35) (.tmp 36)), none⟩,
      ⟨(some 38), (.bin .or (.tmp 34) (.tmp 37)), none⟩,
      ⟨(some 39), (.iaddrs S7 (.tmp 30) (.tmp 31)), none⟩,
      ⟨(some 40), (.faddr S7 (.tmp 39) 0), none⟩,
      ⟨none, (.store L32 (.tmp 40) (.tmp 38)), none⟩])
     (.seq
      (.region false [⟨(some 8), (.mv (.const (it 0))), none⟩])
      .ret)))))
def r_fuse_Array_Cut : List ARes := [(.tmp 8)]
theorem c_fuse_Array_Cut : o2 Go.Proofs.Tryd.f53.body (comp Go.Proofs.Tryd.prog Go.Proofs.Tryd.f53.ntmps) = some a_fuse_Array_Cut := by kernel_rfl
theorem s_fuse_Array_Cut : cRess Go.Proofs.Tryd.prog Go.Proofs.Tryd.f53.results.toList = some r_fuse_Array_Cut := by kernel_rfl
theorem m_fuse_Array_Cut (C : Ctx) (hC : CtxOK C Go.Proofs.Tryd.prog) : Meets C.glob Go.Proofs.Tryd.prog 53 (afun C 4 r_fuse_Array_Cut a_fuse_Array_Cut) :=
  fn_sound hC Go.Proofs.Tryd.func53 c_fuse_Array_Cut s_fuse_Array_Cut (Nat.le_of_ble_eq_true (by kernel_rfl))

/-- curtilage/sha.Press -/
def a_sha_Press : ACode :=
 (.seq
  (.region false [⟨(some 2), (.box (.ar 8 L32) (.tmp 0)), none⟩,
   ⟨(some 3), (.box (.ar 64 L8) (.tmp 1)), none⟩,
   ⟨(some 4), (.alloc (.ar 8 L32) (.agg (.ar 8 L32) (List.replicate 8 (.raw (u32 0#32))))), none⟩])
  (.seq
   (.region false [⟨(some 14), (.load (.ar 8 L32) (.tmp 2)), none⟩,
    ⟨(some 5), (.alloc (.ar 8 L32) (.agg (.ar 8 L32) (List.replicate 8 (.raw (u32 0#32))))), none⟩,
    ⟨none, (.store (.ar 8 L32) (.tmp 5) (.tmp 14)), none⟩])
   (.seq
    (.seq
     (.region false [⟨(some 15), (.load (.ar 64 L8) (.tmp 3)), none⟩,
      ⟨(some 16), (.call 62 [(.tmp 15)]), none⟩,
      ⟨(some 17), (.mv (.const (it 0))), none⟩])
     (.block 0
      (.loop
       (.seq
        (.region false [⟨(some 18), (.bin .lss (.tmp 17) (.const (it 64))), none⟩])
        (.seq
         (.cond (.tmp 18)
          .skip
          (.exit 0))
         (.seq
          (.block 1
           (.seq
            (.region false [⟨(some 19), (.mv (.tmp 17)), none⟩,
             ⟨(some 20), (.index 64 L32 (.tmp 16) (.tmp 17)), none⟩,
             ⟨(some 6), (.mv (.tmp 19)), none⟩,
             ⟨(some 7), (.mv (.tmp 20)), none⟩])
            (.seq
             (.region true [⟨(some 21), (.iaddra 8 L32 (.tmp 5) (.const (it 4))), none⟩,
              ⟨(some 22), (.load L32 (.tmp 21)), none⟩,
              ⟨(some 23), (.call 63 [(.tmp 22), (.const (it (-6)))]), none⟩,
              ⟨(some 24), (.iaddra 8 L32 (.tmp 5) (.const (it 4))), none⟩,
              ⟨(some 25), (.load L32 (.tmp 24)), none⟩,
              ⟨(some 26), (.call 63 [(.tmp 25), (.const (it (-11)))]), none⟩,
              ⟨(some 27), (.bin .xor (.tmp 23) (.tmp 26)), none⟩,
              ⟨(some 28), (.iaddra 8 L32 (.tmp 5) (.const (it 4))), none⟩,
              ⟨(some 29), (.load L32 (.tmp 28)), none⟩,
              ⟨(some 30), (.call 63 [(.tmp 29), (.const (it (-25)))]), none⟩,
              ⟨(some 31), (.bin .xor (.tmp 27) (.tmp 30)), none⟩,
              ⟨(some 8), (.mv (.tmp 31)), none⟩])
             (.seq
              (.region false [⟨(some 32), (.iaddra 8 L32 (.tmp 5) (.const (it 4))), none⟩,
               ⟨(some 33), (.load L32 (.tmp 32)), none⟩,
               ⟨(some 34), (.iaddra 8 L32 (.tmp 5) (.const (it 5))), none⟩,
               ⟨(some 35), (.load L32 (.tmp 34)), none⟩,
               ⟨(some 36), (.bin .and (.tmp 33) (.tmp 35)), none⟩,
               ⟨(some 37), (.iaddra 8 L32 (.tmp 5) (.const (it 4))), none⟩,
               ⟨(some 38), (.load L32 (.tmp 37)), none⟩,
               ⟨(some 39), (.un .xor (.tmp 38)), none⟩,
               ⟨(some 40), (.iaddra 8 L32 (.tmp 5) (.const (it 6))), none⟩,
               ⟨(some 41), (.load L32 (.tmp 40)), none⟩,
               ⟨(some 42), (.bin .and (.tmp 39) (.tmp 41)), none⟩,
               ⟨(some 43), (.bin .xor (.tmp 36) (.tmp 42)), none⟩,
               ⟨(some 9), (.mv (.tmp 43)), none⟩])
              (.seq
               (.region true [⟨(some 44), (.iaddra 8 L32 (.tmp 5) (.const (it 7))), none⟩,
                ⟨(some 45), (.load L32 (.tmp 44)), none⟩,
                ⟨(some 46), (.mv (.tmp 8)), none⟩,
                ⟨(some 47), (.bin .add (.tmp 45) (.tmp 46)), none⟩,
                ⟨(some 48), (.mv (.tmp 9)), none⟩,
                ⟨(some 49), (.bin .add (.tmp 47) (.tmp 48)), none⟩,
                ⟨(some 50), (.mv (.tmp 6)), none⟩,
                ⟨(some 51), (.iaddra 64 L32 (.glob 2) (.tmp 50)), none⟩,
                ⟨(some 52), (.load L32 (.tmp 51)), none⟩,
                ⟨(some 53), (.bin .add (.tmp 49) (.tmp 52)), none⟩,
                ⟨(some 54), (.mv (.tmp 7)), none⟩,
                ⟨(some 55), (.bin .add (.tmp 53) (.tmp 54)), none⟩,
                ⟨(some 10), (.mv (.tmp 55)), none⟩])
               (.seq
                (.region true [⟨(some 56), (.iaddra 8 L32 (.tmp 5) (.const (it 0))), none⟩,
                 ⟨(some 57), (.load L32 (.tmp 56)), none⟩,
                 ⟨(some 58), (.call 63 [(.tmp 57), (.const (it (-2)))]), none⟩,
                 ⟨(some 59), (.iaddra 8 L32 (.tmp 5) (.const (it 0))), none⟩,
                 ⟨(some 60), (.load L32 (.tmp 59)), none⟩,
                 ⟨(some 61), (.call 63 [(.tmp 60), (.const (it (-13)))]), none⟩,
                 ⟨(some 62), (.bin .xor (.tmp 58) (.tmp 61)), none⟩,
                 ⟨(some 63), (.iaddra 8 L32 (.tmp 5) (.const (it 0))), none⟩,
                 ⟨(some 64), (.load L32 (.tmp 63)), none⟩,
                 ⟨(some 65), (.call 63 [(.tmp 64), (.const (it (-22)))]), none⟩,
                 ⟨(some 66), (.bin .xor (.tmp 62) (.tmp 65)), none⟩,
                 ⟨(some 11), (.mv (.tmp 66)), none⟩])
                (.seq
                 (.region false [⟨(some 67), (.iaddra 8 L32 (.tmp 5) (.const (it 0))), none⟩,
                  ⟨(some 68), (.load L32 (.tmp 67)), none⟩,
                  ⟨(some 69), (.iaddra 8 L32 (.tmp 5) (.const (it 1))), none⟩,
                  ⟨(some 70), (.load L32 (.tmp 69)), none⟩,
                  ⟨(some 71), (.bin .and (.tmp 68) (.tmp 70)), none⟩,
                  ⟨(some 72), (.iaddra 8 L32 (.tmp 5) (.const (it 0))), none⟩,
                  ⟨(some 73), (.load L32 (.tmp 72)), none⟩,
                  ⟨(some 74), (.iaddra 8 L32 (.tmp 5) (.const (it 2))), none⟩,
                  ⟨(some 75), (.load L32 (.tmp 74)), none⟩,
                  ⟨(some 76), (.bin .and (.tmp 73) (.tmp 75)), none⟩,
                  ⟨(some 77), (.bin .xor (.tmp 71) (.tmp 76)), none⟩,
                  ⟨(some 78), (.iaddra 8 L32 (.tmp 5) (.const (it 1))), none⟩,
                  ⟨(some 79), (.load L32 (.tmp 78)), none⟩,
                  ⟨(some 80), (.iaddra 8 L32 (.tmp 5) (.const (it 2))), none⟩,
                  ⟨(some 81), (.load L32 (.tmp 80)), none⟩,
                  ⟨(some 82), (.bin .and (.tmp 79) (.tmp 81)), none⟩,
                  ⟨(some 83), (.bin .xor (.tmp 77) (.tmp 82)), none⟩,
                  ⟨(some 12), (.mv (.tmp 83)), none⟩])
                 (.region false [⟨(some 84), (.mv (.tmp 10)), none⟩,
                  ⟨(some 85), (.mv (.tmp 11)), none⟩,
                  ⟨(some 86), (.bin .add (.tmp 84) (.tmp 85)), none⟩,
                  ⟨(some 87), (.mv (.tmp 12)), none⟩,
                  ⟨(some 88), (.bin .add (.tmp 86) (.tmp 87)), none⟩,
                  ⟨(some 89), (.iaddra 8 L32 (.tmp 5) (.const (it 0))), none⟩,
                  ⟨(some 90), (.load L32 (.tmp 89)), none⟩,
                  ⟨(some 91), (.iaddra 8 L32 (.tmp 5) (.const (it 1))), none⟩,
                  ⟨(some 92), (.load L32 (.tmp 91)), none⟩,
                  ⟨(some 93), (.iaddra 8 L32 (.tmp 5) (.const (it 2))), none⟩,
                  ⟨(some 94), (.load L32 (.tmp 93)), none⟩,
                  ⟨(some 95), (.iaddra 8 L32 (.tmp 5) (.const (it 3))), none⟩,
                  ⟨(some 96), (.load L32 (.tmp 95)), none⟩,
                  ⟨(some 97), (.mv (.tmp 10)), none⟩,
                  ⟨(some 98), (.bin .add (.tmp 96) (.tmp 97)), none⟩,
                  ⟨(some 99), (.iaddra 8 L32 (.tmp 5) (.const (it 4))), none⟩,
                  ⟨(some 100), (.load L32 (.tmp 99)), none⟩,
                  ⟨(some 101), (.iaddra 8 L32 (.tmp 5) (.const (it 5))), none⟩,
                  ⟨(some 102), (.load L32 (.tmp 101)), none⟩,
                  ⟨(some 103), (.iaddra 8 L32 (.tmp 5) (.const (it 6))), none⟩,
                  ⟨(some 104), (.load L32 (.tmp 103)), none⟩,
                  ⟨(some 105), (.build (.ar 8 L32) (List.replicate 8 (.raw (u32 0#32))) [(0, (.tmp 88)), (1, (.tmp 90)), (2, (.tmp 92)), (3, (.tmp 94)), (4, (.tmp 98)), (5, (.tmp 100)), (6, (.tmp 102)), (7, (.tmp 104))]), none⟩,
                  ⟨none, (.store (.ar 8 L32) (.tmp 5) (.tmp 105)), none⟩]))))))))
          (.region false [⟨(some 106), (.bin .add (.tmp 17) (.const (it 1))), none⟩,
           ⟨(some 17), (.mv (.tmp 106)), none⟩])))))))
    (.seq
     (.seq
      (.region false [⟨(some 107), (.mv (.const (it 0))), none⟩])
      (.block 2
       (.loop
        (.seq
         (.region false [⟨(some 108), (.bin .lss (.tmp 107) (.const (it 8))), none⟩])
         (.seq
          (.cond (.tmp 108)
           .skip
           (.exit 2))
          (.seq
           (.block 3
            (.seq
             (.region false [⟨(some 109), (.mv (.tmp 107)), none⟩,
              ⟨(some 13), (.mv (.tmp 109)), none⟩])
             (.region true [⟨(some 110), (.mv (.tmp 13)), none⟩,
              ⟨(some 111), (.iaddra 8 L32 (.tmp 2) (.tmp 110)), none⟩,
              ⟨(some 112), (.load L32 (.tmp 111)), none⟩,
              ⟨(some 113), (.mv (.tmp 13)), none⟩,
              ⟨(some 114), (.iaddra 8 L32 (.tmp 5) (.tmp 113)), none⟩,
              ⟨(some 115), (.load L32 (.tmp 114)), none⟩,
              ⟨(some 116), (.bin .add (.tmp 112) (.tmp 115)), none⟩,
              ⟨(some 117), (.iaddra 8 L32 (.tmp 2) (.tmp 110)), none⟩,
              ⟨none, (.store L32 (.tmp 117) (.tmp 116)), none⟩])))
           (.region false [⟨(some 118), (.bin .add (.tmp 107) (.const (it 1))), none⟩,
            ⟨(some 107), (.mv (.tmp 118)), none⟩])))))))
     (.seq
      (.region false [⟨(some 119), (.load (.ar 8 L32) (.tmp 2)), none⟩,
       ⟨none, (.store (.ar 8 L32) (.tmp 4) (.tmp 119)), none⟩])
      .ret)))))
def r_sha_Press : List ARes := [(.cell 4 (.ar 8 L32))]
theorem c_sha_Press : o2 Go.Proofs.Tryd.f54.body (comp Go.Proofs.Tryd.prog Go.Proofs.Tryd.f54.ntmps) = some a_sha_Press := by kernel_rfl
theorem s_sha_Press : cRess Go.Proofs.Tryd.prog Go.Proofs.Tryd.f54.results.toList = some r_sha_Press := by kernel_rfl
theorem m_sha_Press (C : Ctx) (hC : CtxOK C Go.Proofs.Tryd.prog) : Meets C.glob Go.Proofs.Tryd.prog 54 (afun C 2 r_sha_Press a_sha_Press) :=
  fn_sound hC Go.Proofs.Tryd.func54 c_sha_Press s_sha_Press (Nat.le_of_ble_eq_true (by kernel_rfl))

/-- curtilage/sha.Digest -/
def a_sha_Digest : ACode :=
 (.seq
  (.region false [⟨(some 1), (.box (.ar 8 L32) (.tmp 0)), none⟩,
   ⟨(some 2), (.alloc (.ar 32 L8) (.agg (.ar 32 L8) (List.replicate 32 (.raw (u8 0#8))))), none⟩])
  (.seq
   (.region false [⟨(some 3), (.alloc (.ar 32 L8) (.agg (.ar 32 L8) (List.replicate 32 (.raw (u8 0#8))))), none⟩])
   (.seq
    (.seq
     (.region false [⟨(some 6), (.load (.ar 8 L32) (.tmp 1)), none⟩,
      ⟨(some 7), (.mv (.const (it 0))), none⟩])
     (.block 0
      (.loop
       (.seq
        (.region false [⟨(some 8), (.bin .lss (.tmp 7) (.const (it 8))), none⟩])
        (.seq
         (.cond (.tmp 8)
          .skip
          (.exit 0))
         (.seq
          (.block 1
           (.seq
            (.region false [⟨(some 9), (.mv (.tmp 7)), none⟩,
             ⟨(some 10), (.index 8 L32 (.tmp 6) (.tmp 7)), none⟩,
             ⟨(some 4), (.mv (.tmp 9)), none⟩,
             ⟨(some 5), (.mv (.tmp 10)), none⟩])
            (.region false [⟨(some 11), (.mv (.tmp 4)), none⟩,
             ⟨(some 12), (.bin .mul (.const (it 4)) (.tmp 11)), none⟩,
             ⟨(some 13), (.slicea 32 L8 (.tmp 3) (some (.tmp 12)) none none), none⟩,
             ⟨(some 14), (.mv (.tmp 5)), none⟩,
             ⟨(some 15), (.bin .shr (.tmp 14) (.const (u64 24#64))), none⟩,
             ⟨(some 16), (.conv .u8 (.tmp 15)), none⟩,
             ⟨(some 17), (.mv (.tmp 5)), none⟩,
             ⟨(some 18), (.bin .shr (.tmp 17) (.const (u64 16#64))), none⟩,
             ⟨(some 19), (.conv .u8 (.tmp 18)), none⟩,
             ⟨(some 20), (.mv (.tmp 5)), none⟩,
             ⟨(some 21), (.bin .shr (.tmp 20) (.const (u64 8#64))), none⟩,
             ⟨(some 22), (.conv .u8 (.tmp 21)), none⟩,
             ⟨(some 23), (.mv (.tmp 5)), none⟩,
             ⟨(some 24), (.conv .u8 (.tmp 23)), none⟩,
             ⟨(some 25), (.bslice L8 4 (.raw (u8 0#8)) [(0, (.tmp 16)), (1, (.tmp 19)), (2, (.tmp 22)), (3, (.tmp 24))]), none⟩,
             ⟨(some 26), (.copy L8 (.tmp 13) (.tmp 25)), none⟩])))
          (.region false [⟨(some 27), (.bin .add (.tmp 7) (.const (it 1))), none⟩,
           ⟨(some 7), (.mv (.tmp 27)), none⟩])))))))
    (.seq
     (.region false [⟨(some 28), (.load (.ar 32 L8) (.tmp 3)), none⟩,
      ⟨none, (.store (.ar 32 L8) (.tmp 2) (.tmp 28)), none⟩])
     .ret))))
def r_sha_Digest : List ARes := [(.cell 2 (.ar 32 L8))]
theorem c_sha_Digest : o2 Go.Proofs.Tryd.f55.body (comp Go.Proofs.Tryd.prog Go.Proofs.Tryd.f55.ntmps) = some a_sha_Digest := by kernel_rfl
theorem s_sha_Digest : cRess Go.Proofs.Tryd.prog Go.Proofs.Tryd.f55.results.toList = some r_sha_Digest := by kernel_rfl
theorem m_sha_Digest (C : Ctx) (hC : CtxOK C Go.Proofs.Tryd.prog) : Meets C.glob Go.Proofs.Tryd.prog 55 (afun C 1 r_sha_Digest a_sha_Digest) :=
  fn_sound hC Go.Proofs.Tryd.func55 c_sha_Digest s_sha_Digest (Nat.le_of_ble_eq_true (by kernel_rfl))

/-- curtilage/sha.Pad -/
def a_sha_Pad : ACode :=
 (.seq
  (.region false [⟨(some 2), (.mv (.const (.slice none 0 0))), none⟩])
  (.seq
   (.region false [⟨(some 5), (.bslice L8 1 (.raw (u8 0#8)) [(0, (.const (u8 128#8)))]), none⟩,
    ⟨(some 3), (.mv (.tmp 5)), none⟩])
   (.seq
    (.region false [⟨(some 6), (.mv (.tmp 3)), none⟩,
     ⟨(some 7), (.mv (.tmp 0)), none⟩,
     ⟨(some 8), (.bin .rem (.tmp 7) (.const (u64 64#64))), none⟩,
     ⟨(some 9), (.bin .sub (.const (u64 119#64)) (.tmp 8)), none⟩,
     ⟨(some 10), (.bin .rem (.tmp 9) (.const (u64 64#64))), none⟩,
     ⟨(some 11), (.appendz L8 1 (.raw (u8 0#8)) (.tmp 6) (.tmp 10)), none⟩,
     ⟨(some 3), (.mv (.tmp 11)), none⟩])
    (.seq
     (.seq
      (.region false [⟨(some 4), (.mv (.const (it 56))), none⟩])
      (.block 0
       (.loop
        (.seq
         (.seq
          (.region false [⟨(some 12), (.mv (.tmp 4)), none⟩,
           ⟨(some 13), (.bin .geq (.tmp 12) (.const (it 0))), none⟩])
          (.cond (.tmp 13)
           .skip
           (.exit 0)))
         (.seq
          (.block 1
           (.region false [⟨(some 16), (.mv (.tmp 3)), none⟩,
            ⟨(some 17), (.mv (.tmp 0)), none⟩,
            ⟨(some 18), (.bin .shl (.tmp 17) (.const (u64 3#64))), none⟩,
            ⟨(some 19), (.mv (.tmp 4)), none⟩,
            ⟨(some 20), (.bin .shr (.tmp 18) (.tmp 19)), none⟩,
            ⟨(some 21), (.conv .u8 (.tmp 20)), none⟩,
            ⟨(some 22), (.bslice L8 1 (.raw (u8 0#8)) [(0, (.tmp 21))]), none⟩,
            ⟨(some 23), (.append L8 1 (.tmp 16) (.tmp 22)), none⟩,
            ⟨(some 3), (.mv (.tmp 23)), none⟩]))
          (.region false [⟨(some 14), (.mv (.tmp 4)), none⟩,
           ⟨(some 15), (.bin .sub (.tmp 14) (.const (it 8))), none⟩,
           ⟨(some 4), (.mv (.tmp 15)), none⟩]))))))
     (.seq
      (.region false [⟨(some 24), (.mv (.tmp 3)), none⟩,
       ⟨(some 2), (.mv (.tmp 24)), none⟩])
      .ret)))))
def r_sha_Pad : List ARes := [(.tmp 2)]
theorem c_sha_Pad : o2 Go.Proofs.Tryd.f56.body (comp Go.Proofs.Tryd.prog Go.Proofs.Tryd.f56.ntmps) = some a_sha_Pad := by kernel_rfl
theorem s_sha_Pad : cRess Go.Proofs.Tryd.prog Go.Proofs.Tryd.f56.results.toList = some r_sha_Pad := by kernel_rfl
theorem m_sha_Pad (C : Ctx) (hC : CtxOK C Go.Proofs.Tryd.prog) : Meets C.glob Go.Proofs.Tryd.prog 56 (afun C 1 r_sha_Pad a_sha_Pad) :=
  fn_sound hC Go.Proofs.Tryd.func56 c_sha_Pad s_sha_Pad (Nat.le_of_ble_eq_true (by kernel_rfl))

/-- curtilage/curtilageref01.turn -/
def a_ref01_turn : ACode :=
 (.seq
  (.region false [⟨(some 4), (.mv (.const (u32 0#32))), none⟩])
  (.seq
   (.region true [⟨(some 5), (.mv (.tmp 0)), none⟩,
    ⟨(some 6), (.mv (.tmp 1)), none⟩,
    ⟨(some 7), (.bin .shr (.tmp 5) (.tmp 6)), none⟩,
    ⟨(some 8), (.mv (.tmp 0)), none⟩,
    ⟨(some 9), (.mv (.tmp 1)), none⟩,
    ⟨(some 10), (.bin .sub (.const (it 32)) (.tmp 9)), none⟩,
    ⟨(some 11), (.bin .shl (.tmp 8) (.tmp 10)), none⟩,
    ⟨(some 12), (.bin .add (.tmp 7) (.tmp 11)), none⟩,
    ⟨(some 4), (.mv (.tmp 12)), none⟩])
   .ret))
def r_ref01_turn : List ARes := [(.tmp 4)]
theorem c_ref01_turn : o2 Go.Proofs.Tryd.f57.body (comp Go.Proofs.Tryd.prog Go.Proofs.Tryd.f57.ntmps) = some a_ref01_turn := by kernel_rfl
theorem s_ref01_turn : cRess Go.Proofs.Tryd.prog Go.Proofs.Tryd.f57.results.toList = some r_ref01_turn := by kernel_rfl
theorem m_ref01_turn (C : Ctx) (hC : CtxOK C Go.Proofs.Tryd.prog) : Meets C.glob Go.Proofs.Tryd.prog 57 (afun C 2 r_ref01_turn a_ref01_turn) :=
  fn_sound hC Go.Proofs.Tryd.func57 c_ref01_turn s_ref01_turn (Nat.le_of_ble_eq_true (by kernel_rfl))

/-- curtilage/curtilageref01.roots -/
def a_ref01_roots : ACode :=
 (.seq
  (.region false [⟨(some 0), (.alloc (.ar 64 L32) (.agg (.ar 64 L32) (List.replicate 64 (.raw (u32 0#32))))), none⟩])
  (.seq
   (.region false [⟨(some 1), (.build (.ar 64 L32) (List.replicate 64 (.raw (u32 0#32))) [(0, (.const (u32 1116352408#32))), (1, (.const (u32 1899447441#32))), (2, (.const (u32 3049323471#32))), (3, (.const (u32 3921009573#32))), (4, (.const (u32 961987163#32))), (5, (.const (u32 1508970993#32))), (6, (.const (u32 2453635748#32))), (7, (.const (u32 2870763221#32))), (8, (.const (u32 3624381080#32))), (9, (.const (u32 310598401#32))), (10, (.const (u32 607225278#32))), (11, (.const (u32 1426881987#32))), (12, (.const (u32 1925078388#32))), (13, (.const (u32 2162078206#32))), (14, (.const (u32 2614888103#32))), (15, (.const (u32 3248222580#32))), (16, (.const (u32 3835390401#32))), (17, (.const (u32 4022224774#32))), (18, (.const (u32 264347078#32))), (19, (.const (u32 604807628#32))), (20, (.const (u32 770255983#32))), (21, (.const (u32 1249150122#32))), (22, (.const (u32 1555081692#32))), (23, (.const (u32 1996064986#32))), (24, (.const (u32 2554220882#32))), (25, (.const (u32 2821834349#32))), (26, (.const (u32 2952996808#32))), (27, (.const (u32 3210313671#32))), (28, (.const (u32 3336571891#32))), (29, (.const (u32 3584528711#32))), (30, (.const (u32 113926993#32))), (31, (.const (u32 338241895#32))), (32, (.const (u32 666307205#32))), (33, (.const (u32 773529912#32))), (34, (.const (u32 1294757372#32))), (35, (.const (u32 1396182291#32))), (36, (.const (u32 1695183700#32))), (37, (.const (u32 1986661051#32))), (38, (.const (u32 2177026350#32))), (39, (.const (u32 2456956037#32))), (40, (.const (u32 2730485921#32))), (41, (.const (u32 2820302411#32))), (42, (.const (u32 3259730800#32))), (43, (.const (u32 3345764771#32))), (44, (.const (u32 3516065817#32))), (45, (.const (u32 3600352804#32))), (46, (.const (u32 4094571909#32))), (47, (.const (u32 275423344#32))), (48, (.const (u32 430227734#32))), (49, (.const (u32 506948616#32))), (50, (.const (u32 659060556#32))), (51, (.const (u32 883997877#32))), (52, (.const (u32 958139571#32))), (53, (.const (u32 1322822218#32))), (54, (.const (u32 1537002063#32))), (55, (.const (u32 1747873779#32))), (56, (.const (u32 1955562222#32))), (57, (.const (u32 2024104815#32))), (58, (.const (u32 2227730452#32))), (59, (.const (u32 2361852424#32))), (60, (.const (u32 2428436474#32))), (61, (.const (u32 2756734187#32))), (62, (.const (u32 3204031479#32))), (63, (.const (u32 3329325298#32)))]), none⟩,
    ⟨none, (.store (.ar 64 L32) (.tmp 0) (.tmp 1)), none⟩])
   .ret))
def r_ref01_roots : List ARes := [(.cell 0 (.ar 64 L32))]
theorem c_ref01_roots : o2 Go.Proofs.Tryd.f58.body (comp Go.Proofs.Tryd.prog Go.Proofs.Tryd.f58.ntmps) = some a_ref01_roots := by kernel_rfl
theorem s_ref01_roots : cRess Go.Proofs.Tryd.prog Go.Proofs.Tryd.f58.results.toList = some r_ref01_roots := by kernel_rfl
theorem m_ref01_roots (C : Ctx) (hC : CtxOK C Go.Proofs.Tryd.prog) : Meets C.glob Go.Proofs.Tryd.prog 58 (afun C 0 r_ref01_roots a_ref01_roots) :=
  fn_sound hC Go.Proofs.Tryd.func58 c_ref01_roots s_ref01_roots (Nat.le_of_ble_eq_true (by kernel_rfl))

/-- math/bits.Mul32 -/
def a_math_bits_Mul32 : ACode :=
 (.seq
  (.region false [⟨(some 4), (.mv (.const (u32 0#32))), none⟩,
   ⟨(some 5), (.mv (.const (u32 0#32))), none⟩])
  (.seq
   (.region false [⟨(some 7), (.mv (.tmp 0)), none⟩,
    ⟨(some 8), (.conv .u64 (.tmp 7)), none⟩,
    ⟨(some 9), (.mv (.tmp 1)), none⟩,
    ⟨(some 10), (.conv .u64 (.tmp 9)), none⟩,
    ⟨(some 11), (.bin .mul (.tmp 8) (.tmp 10)), none⟩,
    ⟨(some 6), (.mv (.tmp 11)), none⟩])
   (.seq
    (.region false [⟨(some 12), (.mv (.tmp 6)), none⟩,
     ⟨(some 13), (.bin .shr (.tmp 12) (.const (u64 32#64))), none⟩,
     ⟨(some 14), (.conv .u32 (.tmp 13)), none⟩,
     ⟨(some 15), (.mv (.tmp 6)), none⟩,
     ⟨(some 16), (.conv .u32 (.tmp 15)), none⟩,
     ⟨(some 4), (.mv (.tmp 14)), none⟩,
     ⟨(some 5), (.mv (.tmp 16)), none⟩])
    .ret)))
def r_math_bits_Mul32 : List ARes := [(.tmp 4), (.tmp 5)]
theorem c_math_bits_Mul32 : o2 Go.Proofs.Tryd.f59.body (comp Go.Proofs.Tryd.prog Go.Proofs.Tryd.f59.ntmps) = some a_math_bits_Mul32 := by kernel_rfl
theorem s_math_bits_Mul32 : cRess Go.Proofs.Tryd.prog Go.Proofs.Tryd.f59.results.toList = some r_math_bits_Mul32 := by kernel_rfl
theorem m_math_bits_Mul32 (C : Ctx) (hC : CtxOK C Go.Proofs.Tryd.prog) : Meets C.glob Go.Proofs.Tryd.prog 59 (afun C 2 r_math_bits_Mul32 a_math_bits_Mul32) :=
  fn_sound hC Go.Proofs.Tryd.func59 c_math_bits_Mul32 s_math_bits_Mul32 (Nat.le_of_ble_eq_true (by kernel_rfl))

/-- math/bits.Mul64 -/
def a_math_bits_Mul64 : ACode :=
 (.seq
  (.region false [⟨(some 4), (.mv (.const (u64 0#64))), none⟩,
   ⟨(some 5), (.mv (.const (u64 0#64))), none⟩])
  (.seq
   (.region false [⟨(some 14), (.mv (.tmp 0)), none⟩,
    ⟨(some 15), (.bin .and (.tmp 14) (.const (u64 4294967295#64))), none⟩,
    ⟨(some 6), (.mv (.tmp 15)), none⟩])
   (.seq
    (.region false [⟨(some 16), (.mv (.tmp 0)), none⟩,
     ⟨(some 17), (.bin .shr (.tmp 16) (.const (u64 32#64))), none⟩,
     ⟨(some 7), (.mv (.tmp 17)), none⟩])
    (.seq
     (.region false [⟨(some 18), (.mv (.tmp 1)), none⟩,
      ⟨(some 19), (.bin .and (.tmp 18) (.const (u64 4294967295#64))), none⟩,
      ⟨(some 8), (.mv (.tmp 19)), none⟩])
     (.seq
      (.region false [⟨(some 20), (.mv (.tmp 1)), none⟩,
       ⟨(some 21), (.bin .shr (.tmp 20) (.const (u64 32#64))), none⟩,
       ⟨(some 9), (.mv (.tmp 21)), none⟩])
      (.seq
       (.region false [⟨(some 22), (.mv (.tmp 6)), none⟩,
        ⟨(some 23), (.mv (.tmp 8)), none⟩,
        ⟨(some 24), (.bin .mul (.tmp 22) (.tmp 23)), none⟩,
        ⟨(some 10), (.mv (.tmp 24)), none⟩])
       (.seq
        (.region false [⟨(some 25), (.mv (.tmp 7)), none⟩,
         ⟨(some 26), (.mv (.tmp 8)), none⟩,
         ⟨(some 27), (.bin .mul (.tmp 25) (.tmp 26)), none⟩,
         ⟨(some 28), (.mv (.tmp 10)), none⟩,
         ⟨(some 29), (.bin .shr (.tmp 28) (.const (u64 32#64))), none⟩,
         ⟨(some 30), (.bin .add (.tmp 27) (.tmp 29)), none⟩,
         ⟨(some 11), (.mv (.tmp 30)), none⟩])
        (.seq
         (.region false [⟨(some 31), (.mv (.tmp 11)), none⟩,
          ⟨(some 32), (.bin .and (.tmp 31) (.const (u64 4294967295#64))), none⟩,
          ⟨(some 12), (.mv (.tmp 32)), none⟩])
         (.seq
          (.region false [⟨(some 33), (.mv (.tmp 11)), none⟩,
           ⟨(some 34), (.bin .shr (.tmp 33) (.const (u64 32#64))), none⟩,
           ⟨(some 13), (.mv (.tmp 34)), none⟩])
          (.seq
           (.region false [⟨(some 35), (.mv (.tmp 12)), none⟩,
            ⟨(some 36), (.mv (.tmp 6)), none⟩,
            ⟨(some 37), (.mv (.tmp 9)), none⟩,
            ⟨(some 38), (.bin .mul (.tmp 36) (.tmp 37)), none⟩,
            ⟨(some 39), (.bin .add (.tmp 35) (.tmp 38)), none⟩,
            ⟨(some 12), (.mv (.tmp 39)), none⟩])
           (.seq
            (.region false [⟨(some 40), (.mv (.tmp 7)), none⟩,
             ⟨(some 41), (.mv (.tmp 9)), none⟩,
             ⟨(some 42), (.bin .mul (.tmp 40) (.tmp 41)), none⟩,
             ⟨(some 43), (.mv (.tmp 13)), none⟩,
             ⟨(some 44), (.bin .add (.tmp 42) (.tmp 43)), none⟩,
             ⟨(some 45), (.mv (.tmp 12)), none⟩,
             ⟨(some 46), (.bin .shr (.tmp 45) (.const (u64 32#64))), none⟩,
             ⟨(some 47), (.bin .add (.tmp 44) (.tmp 46)), none⟩,
             ⟨(some 4), (.mv (.tmp 47)), none⟩])
            (.seq
             (.region false [⟨(some 48), (.mv (.tmp 0)), none⟩,
              ⟨(some 49), (.mv (.tmp 1)), none⟩,
              ⟨(some 50), (.bin .mul (.tmp 48) (.tmp 49)), none⟩,
              ⟨(some 5), (.mv (.tmp 50)), none⟩])
             .ret))))))))))))
def r_math_bits_Mul64 : List ARes := [(.tmp 4), (.tmp 5)]
theorem c_math_bits_Mul64 : o2 Go.Proofs.Tryd.f60.body (comp Go.Proofs.Tryd.prog Go.Proofs.Tryd.f60.ntmps) = some a_math_bits_Mul64 := by kernel_rfl
theorem s_math_bits_Mul64 : cRess Go.Proofs.Tryd.prog Go.Proofs.Tryd.f60.results.toList = some r_math_bits_Mul64 := by kernel_rfl
theorem m_math_bits_Mul64 (C : Ctx) (hC : CtxOK C Go.Proofs.Tryd.prog) : Meets C.glob Go.Proofs.Tryd.prog 60 (afun C 2 r_math_bits_Mul64 a_math_bits_Mul64) :=
  fn_sound hC Go.Proofs.Tryd.func60 c_math_bits_Mul64 s_math_bits_Mul64 (Nat.le_of_ble_eq_true (by kernel_rfl))

/-- (*curtilage/fuse.Array).there -/
def a_fuse_Array_there : ACode :=
 (.seq
  (.region false [⟨(some 4), (.mv (.const (it 0))), none⟩])
  (.seq
   (.block 0
    (.seq
     (.region false [⟨(some 6), (.mv (.tmp 0)), none⟩,
      ⟨(some 7), (.eqnil false (.tmp 6) (.const (.pointer none))), none⟩,
      ⟨(some 5), (.mv (.tmp 7)), none⟩])
     (.cond (.tmp 5)
      (.seq
       (.region false [⟨(some 4), (.mv (.const (it 3))), none⟩])
       .ret)
      (.seq
       (.region false [⟨(some 9), (.mv (.tmp 1)), none⟩,
        ⟨(some 10), (.bin .lss (.tmp 9) (.const (it 0))), none⟩,
        ⟨(some 11), (.mv (.tmp 10)), none⟩,
        ⟨(some 12), (.mv (.tmp 1)), some (11, false)⟩,
        ⟨(some 13), (.mv (.tmp 0)), some (11, false)⟩,
        ⟨(some 14), (.nilc (.tmp 13)), some (11, false)⟩,
        ⟨(some 15), (.faddr S3 (.tmp 14) 0), some (11, false)⟩,
        ⟨(some 16), (.load .ref (.tmp 15)), some (11, false)⟩,
        ⟨(some 17), (.len (.tmp 16)), some (11, false)⟩,
        ⟨(some 18), (.bin .geq (.tmp 12) (.tmp 17)), some (11, false)⟩,
        ⟨(some 19), (.pick (.tmp 11) (.const (.bool true)) (.tmp 18)), none⟩,
        ⟨(some 8), (.mv (.tmp 19)), none⟩])
       (.cond (.tmp 8)
        (.seq
         (.region false [⟨(some 4), (.mv (.const (it 9))), none⟩])
         .ret)
        .skip)))))
   (.seq
    (.region false [⟨(some 4), (.mv (.const (it 0))), none⟩])
    .ret)))
def r_fuse_Array_there : List ARes := [(.tmp 4)]
theorem c_fuse_Array_there : o2 Go.Proofs.Tryd.f61.body (comp Go.Proofs.Tryd.prog Go.Proofs.Tryd.f61.ntmps) = some a_fuse_Array_there := by kernel_rfl
theorem s_fuse_Array_there : cRess Go.Proofs.Tryd.prog Go.Proofs.Tryd.f61.results.toList = some r_fuse_Array_there := by kernel_rfl
theorem m_fuse_Array_there (C : Ctx) (hC : CtxOK C Go.Proofs.Tryd.prog) : Meets C.glob Go.Proofs.Tryd.prog 61 (afun C 2 r_fuse_Array_there a_fuse_Array_there) :=
  fn_sound hC Go.Proofs.Tryd.func61 c_fuse_Array_there s_fuse_Array_there (Nat.le_of_ble_eq_true (by kernel_rfl))

/-- curtilage/sha.spread -/
def a_sha_spread : ACode :=
 (.seq
  (.region false [⟨(some 1), (.box (.ar 64 L8) (.tmp 0)), none⟩,
   ⟨(some 2), (.alloc (.ar 64 L32) (.agg (.ar 64 L32) (List.replicate 64 (.raw (u32 0#32))))), none⟩])
  (.seq
   (.region false [⟨(some 3), (.alloc (.ar 64 L32) (.agg (.ar 64 L32) (List.replicate 64 (.raw (u32 0#32))))), none⟩])
   (.seq
    (.seq
     (.region false [⟨(some 10), (.mv (.const (it 0))), none⟩])
     (.block 0
      (.loop
       (.seq
        (.region false [⟨(some 11), (.bin .lss (.tmp 10) (.const (it 16))), none⟩])
        (.seq
         (.cond (.tmp 11)
          .skip
          (.exit 0))
         (.seq
          (.block 1
           (.seq
            (.region false [⟨(some 12), (.mv (.tmp 10)), none⟩,
             ⟨(some 4), (.mv (.tmp 12)), none⟩])
            (.region false [⟨(some 13), (.mv (.tmp 4)), none⟩,
             ⟨(some 14), (.mv (.tmp 4)), none⟩,
             ⟨(some 15), (.bin .mul (.const (it 4)) (.tmp 14)), none⟩,
             ⟨(some 16), (.mv (.tmp 4)), none⟩,
             ⟨(some 17), (.bin .mul (.const (it 4)) (.tmp 16)), none⟩,
             ⟨(some 18), (.bin .add (.tmp 17) (.const (it 4))), none⟩,
             ⟨(some 19), (.slicea 64 L8 (.tmp 1) (some (.tmp 15)) (some (.tmp 18)) none), none⟩,
             ⟨(some 20), (.call 64 [(.tmp 19)]), none⟩,
             ⟨(some 21), (.iaddra 64 L32 (.tmp 3) (.tmp 13)), none⟩,
             ⟨none, (.store L32 (.tmp 21) (.tmp 20)), none⟩])))
          (.region false [⟨(some 22), (.bin .add (.tmp 10) (.const (it 1))), none⟩,
           ⟨(some 10), (.mv (.tmp 22)), none⟩])))))))
    (.seq
     (.seq
      (.region false [⟨(some 5), (.mv (.const (it 16))), none⟩])
      (.block 2
       (.loop
        (.seq
         (.seq
          (.region false [⟨(some 23), (.mv (.tmp 5)), none⟩,
           ⟨(some 24), (.bin .lss (.tmp 23) (.const (it 64))), none⟩])
          (.cond (.tmp 24)
           .skip
           (.exit 2)))
         (.seq
          (.block 3
           (.seq
            (.region true [⟨(some 27), (.mv (.tmp 5)), none⟩,
             ⟨(some 28), (.bin .sub (.tmp 27) (.const (it 15))), none⟩,
             ⟨(some 29), (.iaddra 64 L32 (.tmp 3) (.tmp 28)), none⟩,
             ⟨(some 30), (.load L32 (.tmp 29)), none⟩,
             ⟨(some 31), (.mv (.tmp 5)), none⟩,
             ⟨(some 32), (.bin .sub (.tmp 31) (.const (it 2))), none⟩,
             ⟨(some 33), (.iaddra 64 L32 (.tmp 3) (.tmp 32)), none⟩,
             ⟨(some 34), (.load L32 (.tmp 33)), none⟩,
             ⟨(some 6), (.mv (.tmp 30)), none⟩,
             ⟨(some 7), (.mv (.tmp 34)), none⟩])
            (.seq
             (.region false [⟨(some 35), (.mv (.tmp 6)), none⟩,
              ⟨(some 36), (.call 63 [(.tmp 35), (.const (it (-7)))]), none⟩,
              ⟨(some 37), (.mv (.tmp 6)), none⟩,
              ⟨(some 38), (.call 63 [(.tmp 37), (.const (it (-18)))]), none⟩,
              ⟨(some 39), (.bin .xor (.tmp 36) (.tmp 38)), none⟩,
              ⟨(some 40), (.mv (.tmp 6)), none⟩,
              ⟨(some 41), (.bin .shr (.tmp 40) (.const (u64 3#64))), none⟩,
              ⟨(some 42), (.bin .xor (.tmp 39) (.tmp 41)), none⟩,
              ⟨(some 8), (.mv (.tmp 42)), none⟩])
             (.seq
              (.region false [⟨(some 43), (.mv (.tmp 7)), none⟩,
               ⟨(some 44), (.call 63 [(.tmp 43), (.const (it (-17)))]), none⟩,
               ⟨(some 45), (.mv (.tmp 7)), none⟩,
               ⟨(some 46), (.call 63 [(.tmp 45), (.const (it (-19)))]), none⟩,
               ⟨(some 47), (.bin .xor (.tmp 44) (.tmp 46)), none⟩,
               ⟨(some 48), (.mv (.tmp 7)), none⟩,
               ⟨(some 49), (.bin .shr (.tmp 48) (.const (u64 10#64))), none⟩,
               ⟨(some 50), (.bin .xor (.tmp 47) (.tmp 49)), none⟩,
               ⟨(some 9), (.mv (.tmp 50)), none⟩])
              (.region true [⟨(some 51), (.mv (.tmp 5)), none⟩,
               ⟨(some 52), (.mv (.tmp 5)), none⟩,
               ⟨(some 53), (.bin .sub (.tmp 52) (.const (it 16))), none⟩,
               ⟨(some 54), (.iaddra 64 L32 (.tmp 3) (.tmp 53)), none⟩,
               ⟨(some 55), (.load L32 (.tmp 54)), none⟩,
               ⟨(some 56), (.mv (.tmp 8)), none⟩,
               ⟨(some 57), (.bin .add (.tmp 55) (.tmp 56)), none⟩,
               ⟨(some 58), (.mv (.tmp 5)), none⟩,
               ⟨(some 59), (.bin .sub (.tmp 58) (.const (it 7))), none⟩,
               ⟨(some 60), (.iaddra 64 L32 (.tmp 3) (.tmp 59)), none⟩,
               ⟨(some 61), (.load L32 (.tmp 60)), none⟩,
               ⟨(some 62), (.bin .add (.tmp 57) (.tmp 61)), none⟩,
               ⟨(some 63), (.mv (.tmp 9)), none⟩,
               ⟨(some 64), (.bin .add (.tmp 62) (.tmp 63)), none⟩,
               ⟨(some 65), (.iaddra 64 L32 (.tmp 3) (.tmp 51)), none⟩,
               ⟨none, (.store L32 (.tmp 65) (.tmp 64)), none⟩])))))
          (.region false [⟨(some 25), (.mv (.tmp 5)), none⟩,
           ⟨(some 26), (.bin .add (.tmp 25) (.const (it 1))), none⟩,
           ⟨(some 5), (.mv (.tmp 26)), none⟩]))))))
     (.seq
      (.region false [⟨(some 66), (.load (.ar 64 L32) (.tmp 3)), none⟩,
       ⟨none, (.store (.ar 64 L32) (.tmp 2) (.tmp 66)), none⟩])
      .ret)))))
def r_sha_spread : List ARes := [(.cell 2 (.ar 64 L32))]
theorem c_sha_spread : o2 Go.Proofs.Tryd.f62.body (comp Go.Proofs.Tryd.prog Go.Proofs.Tryd.f62.ntmps) = some a_sha_spread := by kernel_rfl
theorem s_sha_spread : cRess Go.Proofs.Tryd.prog Go.Proofs.Tryd.f62.results.toList = some r_sha_spread := by kernel_rfl
theorem m_sha_spread (C : Ctx) (hC : CtxOK C Go.Proofs.Tryd.prog) : Meets C.glob Go.Proofs.Tryd.prog 62 (afun C 1 r_sha_spread a_sha_spread) :=
  fn_sound hC Go.Proofs.Tryd.func62 c_sha_spread s_sha_spread (Nat.le_of_ble_eq_true (by kernel_rfl))

/-- math/bits.RotateLeft32 -/
def a_math_bits_RotateLeft32 : ACode :=
 (.seq
  (.region false [⟨(some 4), (.mv (.const (u32 0#32))), none⟩])
  (.seq
   (.region false [⟨(some 6), (.mv (.tmp 1)), none⟩,
    ⟨(some 7), (.conv .u64 (.tmp 6)), none⟩,
    ⟨(some 8), (.bin .and (.tmp 7) (.const (u64 31#64))), none⟩,
    ⟨(some 5), (.mv (.tmp 8)), none⟩])
   (.seq
    (.region false [⟨(some 9), (.mv (.tmp 0)), none⟩,
     ⟨(some 10), (.mv (.tmp 5)), none⟩,
     ⟨(some 11), (.bin .shl (.tmp 9) (.tmp 10)), none⟩,
     ⟨(some 12), (.mv (.tmp 0)), none⟩,
     ⟨(some 13), (.mv (.tmp 5)), none⟩,
     ⟨(some 14), (.bin .sub (.const (u64 32#64)) (.tmp 13)), none⟩,
     ⟨(some 15), (.bin .shr (.tmp 12) (.tmp 14)), none⟩,
     ⟨(some 16), (.bin .or (.tmp 11) (.tmp 15)), none⟩,
     ⟨(some 4), (.mv (.tmp 16)), none⟩])
    .ret)))
def r_math_bits_RotateLeft32 : List ARes := [(.tmp 4)]
theorem c_math_bits_RotateLeft32 : o2 Go.Proofs.Tryd.f63.body (comp Go.Proofs.Tryd.prog Go.Proofs.Tryd.f63.ntmps) = some a_math_bits_RotateLeft32 := by kernel_rfl
theorem s_math_bits_RotateLeft32 : cRess Go.Proofs.Tryd.prog Go.Proofs.Tryd.f63.results.toList = some r_math_bits_RotateLeft32 := by kernel_rfl
theorem m_math_bits_RotateLeft32 (C : Ctx) (hC : CtxOK C Go.Proofs.Tryd.prog) : Meets C.glob Go.Proofs.Tryd.prog 63 (afun C 2 r_math_bits_RotateLeft32 a_math_bits_RotateLeft32) :=
  fn_sound hC Go.Proofs.Tryd.func63 c_math_bits_RotateLeft32 s_math_bits_RotateLeft32 (Nat.le_of_ble_eq_true (by kernel_rfl))

/-- curtilage/sha.word -/
def a_sha_word : ACode :=
 (.seq
  (.region false [⟨(some 2), (.mv (.const (u32 0#32))), none⟩])
  (.seq
   (.region true [⟨(some 3), (.mv (.tmp 0)), none⟩,
    ⟨(some 4), (.iaddrs L8 (.tmp 3) (.const (it 0))), none⟩,
    ⟨(some 5), (.load L8 (.tmp 4)), none⟩,
    ⟨(some 6), (.conv .u32 (.tmp 5)), none⟩,
    ⟨(some 7), (.bin .shl (.tmp 6) (.const (u64 24#64))), none⟩,
    ⟨(some 8), (.mv (.tmp 0)), none⟩,
    ⟨(some 9), (.iaddrs L8 (.tmp 8) (.const (it 1))), none⟩,
    ⟨(some 10), (.load L8 (.tmp 9)), none⟩,
    ⟨(some 11), (.conv .u32 (.tmp 10)), none⟩,
    ⟨(some 12), (.bin .shl (.tmp 11) (.const (u64 16#64))), none⟩,
    ⟨(some 13), (.bin .or (.tmp 7) (.tmp 12)), none⟩,
    ⟨(some 14), (.mv (.tmp 0)), none⟩,
    ⟨(some 15), (.iaddrs L8 (.tmp 14) (.const (it 2))), none⟩,
    ⟨(some 16), (.load L8 (.tmp 15)), none⟩,
    ⟨(some 17), (.conv .u32 (.tmp 16)), none⟩,
    ⟨(some 18), (.bin .shl (.tmp 17) (.const (u64 8#64))), none⟩,
    ⟨(some 19), (.bin .or (.tmp 13) (.tmp 18)), none⟩,
    ⟨(some 20), (.mv (.tmp 0)), none⟩,
    ⟨(some 21), (.iaddrs L8 (.tmp 20) (.const (it 3))), none⟩,
    ⟨(some 22), (.load L8 (.tmp 21)), none⟩,
    ⟨(some 23), (.conv .u32 (.tmp 22)), none⟩,
    ⟨(some 24), (.bin .or (.tmp 19) (.tmp 23)), none⟩,
    ⟨(some 2), (.mv (.tmp 24)), none⟩])
   .ret))
def r_sha_word : List ARes := [(.tmp 2)]
theorem c_sha_word : o2 Go.Proofs.Tryd.f64.body (comp Go.Proofs.Tryd.prog Go.Proofs.Tryd.f64.ntmps) = some a_sha_word := by kernel_rfl
theorem s_sha_word : cRess Go.Proofs.Tryd.prog Go.Proofs.Tryd.f64.results.toList = some r_sha_word := by kernel_rfl
theorem m_sha_word (C : Ctx) (hC : CtxOK C Go.Proofs.Tryd.prog) : Meets C.glob Go.Proofs.Tryd.prog 64 (afun C 1 r_sha_word a_sha_word) :=
  fn_sound hC Go.Proofs.Tryd.func64 c_sha_word s_sha_word (Nat.le_of_ble_eq_true (by kernel_rfl))

/-- gosem.cut.vars -/
def a_gosem_cut_vars : ACode :=
 (.seq
  (.region false [⟨(some 0), (.build (.ar 8 L32) (List.replicate 8 (.raw (u32 0#32))) [(0, (.const (u32 1779033703#32))), (1, (.const (u32 3144134277#32))), (2, (.const (u32 1013904242#32))), (3, (.const (u32 2773480762#32))), (4, (.const (u32 1359893119#32))), (5, (.const (u32 2600822924#32))), (6, (.const (u32 528734635#32))), (7, (.const (u32 1541459225#32)))]), none⟩,
   ⟨none, (.store (.ar 8 L32) (.glob 0) (.tmp 0)), none⟩])
  (.region false [⟨(some 1), (.build (.ar 64 L32) (List.replicate 64 (.raw (u32 0#32))) [(0, (.const (u32 1116352408#32))), (1, (.const (u32 1899447441#32))), (2, (.const (u32 3049323471#32))), (3, (.const (u32 3921009573#32))), (4, (.const (u32 961987163#32))), (5, (.const (u32 1508970993#32))), (6, (.const (u32 2453635748#32))), (7, (.const (u32 2870763221#32))), (8, (.const (u32 3624381080#32))), (9, (.const (u32 310598401#32))), (10, (.const (u32 607225278#32))), (11, (.const (u32 1426881987#32))), (12, (.const (u32 1925078388#32))), (13, (.const (u32 2162078206#32))), (14, (.const (u32 2614888103#32))), (15, (.const (u32 3248222580#32))), (16, (.const (u32 3835390401#32))), (17, (.const (u32 4022224774#32))), (18, (.const (u32 264347078#32))), (19, (.const (u32 604807628#32))), (20, (.const (u32 770255983#32))), (21, (.const (u32 1249150122#32))), (22, (.const (u32 1555081692#32))), (23, (.const (u32 1996064986#32))), (24, (.const (u32 2554220882#32))), (25, (.const (u32 2821834349#32))), (26, (.const (u32 2952996808#32))), (27, (.const (u32 3210313671#32))), (28, (.const (u32 3336571891#32))), (29, (.const (u32 3584528711#32))), (30, (.const (u32 113926993#32))), (31, (.const (u32 338241895#32))), (32, (.const (u32 666307205#32))), (33, (.const (u32 773529912#32))), (34, (.const (u32 1294757372#32))), (35, (.const (u32 1396182291#32))), (36, (.const (u32 1695183700#32))), (37, (.const (u32 1986661051#32))), (38, (.const (u32 2177026350#32))), (39, (.const (u32 2456956037#32))), (40, (.const (u32 2730485921#32))), (41, (.const (u32 2820302411#32))), (42, (.const (u32 3259730800#32))), (43, (.const (u32 3345764771#32))), (44, (.const (u32 3516065817#32))), (45, (.const (u32 3600352804#32))), (46, (.const (u32 4094571909#32))), (47, (.const (u32 275423344#32))), (48, (.const (u32 430227734#32))), (49, (.const (u32 506948616#32))), (50, (.const (u32 659060556#32))), (51, (.const (u32 883997877#32))), (52, (.const (u32 958139571#32))), (53, (.const (u32 1322822218#32))), (54, (.const (u32 1537002063#32))), (55, (.const (u32 1747873779#32))), (56, (.const (u32 1955562222#32))), (57, (.const (u32 2024104815#32))), (58, (.const (u32 2227730452#32))), (59, (.const (u32 2361852424#32))), (60, (.const (u32 2428436474#32))), (61, (.const (u32 2756734187#32))), (62, (.const (u32 3204031479#32))), (63, (.const (u32 3329325298#32)))]), none⟩,
   ⟨none, (.store (.ar 64 L32) (.glob 2) (.tmp 1)), none⟩]))
def r_gosem_cut_vars : List ARes := []
theorem c_gosem_cut_vars : o2 Go.Proofs.Tryd.f88.body (comp Go.Proofs.Tryd.prog Go.Proofs.Tryd.f88.ntmps) = some a_gosem_cut_vars := by kernel_rfl
theorem s_gosem_cut_vars : cRess Go.Proofs.Tryd.prog Go.Proofs.Tryd.f88.results.toList = some r_gosem_cut_vars := by kernel_rfl
theorem m_gosem_cut_vars (C : Ctx) (hC : CtxOK C Go.Proofs.Tryd.prog) : Meets C.glob Go.Proofs.Tryd.prog 88 (afun C 0 r_gosem_cut_vars a_gosem_cut_vars) :=
  fn_sound hC Go.Proofs.Tryd.func88 c_gosem_cut_vars s_gosem_cut_vars (Nat.le_of_ble_eq_true (by kernel_rfl))

end Go.Am.F
