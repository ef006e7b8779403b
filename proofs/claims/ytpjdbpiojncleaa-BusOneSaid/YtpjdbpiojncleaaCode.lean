/- The functions as the abstract machine has them: printed. -/
import Derived.Test.YtpjdbpiojncleaaProg
import Derived.Test.YtpjdbpiojncleaaAm24
namespace Go.Am.F
set_option linter.unusedVariables false
set_option linter.unusedSimpArgs false
abbrev S1 : Sh := .cons LB (.cons LI .nil)
abbrev S2 : Sh := .cons (.ar 4 S1) (.cons LI (.cons LI (.cons LI .nil)))
/-- gosem.cut.init -/
def a_gosem_cut_init : ACode :=
 (.region false [⟨(some 0), .fail, none⟩])
def r_gosem_cut_init : List ARes := []
theorem c_gosem_cut_init : o2 Go.Proofs.Try.f2.body (comp Go.Proofs.Try.prog Go.Proofs.Try.f2.ntmps) = some a_gosem_cut_init := by kernel_rfl
theorem s_gosem_cut_init : cRess Go.Proofs.Try.prog Go.Proofs.Try.f2.results.toList = some r_gosem_cut_init := by kernel_rfl
theorem m_gosem_cut_init (C : Ctx) (hC : CtxOK C Go.Proofs.Try.prog) : Meets C.glob Go.Proofs.Try.prog 2 (afun C 0 r_gosem_cut_init a_gosem_cut_init) :=
  fn_sound hC Go.Proofs.Try.func2 c_gosem_cut_init s_gosem_cut_init (Nat.le_of_ble_eq_true (by kernel_rfl))

/-- curtilage/curtilagelaw13.BusOne -/
def a_law13_BusOne : ACode :=
 (.seq
  (.region false [⟨(some 6), (.mv (.const (.bool false))), none⟩])
  (.seq
   (.seq
    (.region false [⟨(some 16), (.call 4 []), none⟩,
     ⟨(some 17), (.un .not (.tmp 16)), none⟩])
    (.cond (.tmp 17)
     (.seq
      (.region false [⟨(some 6), (.mv (.const (.bool false))), none⟩])
      .ret)
     .skip))
   (.seq
    (.region false [⟨(some 18), (.mv (.tmp 0)), none⟩,
     ⟨(some 19), (.bin .rem (.tmp 18) (.const (u8 4#8))), none⟩,
     ⟨(some 20), (.conv .i64 (.tmp 19)), none⟩,
     ⟨(some 21), (.mv (.tmp 1)), none⟩,
     ⟨(some 22), (.bin .rem (.tmp 21) (.const (u8 16#8))), none⟩,
     ⟨(some 23), (.conv .i64 (.tmp 22)), none⟩,
     ⟨(some 7), (.mv (.tmp 20)), none⟩,
     ⟨(some 8), (.mv (.tmp 23)), none⟩])
    (.seq
     (.region false [⟨(some 25), (.call 5 []), none⟩,
      ⟨(some 26), (.mv (.tmp 7)), none⟩,
      ⟨(some 27), (.mv (.tmp 8)), none⟩,
      ⟨(some 28), (.call 6 [(.tmp 25), (.tmp 26), (.tmp 27)]), none⟩,
      ⟨(some 24), (.mv (.tmp 28)), none⟩,
      ⟨(some 29), (.ext (.tmp 24) 0), none⟩,
      ⟨(some 30), (.ext (.tmp 24) 1), none⟩,
      ⟨(some 9), (.alloc S2 (.agg S2 [(.agg (.ar 4 S1) (List.replicate 4 (.agg S1 [(.raw (.bool false)), (.raw (it 0))]))), (.raw (it 0)), (.raw (it 0)), (.raw (it 0))])), none⟩,
      ⟨none, (.store S2 (.tmp 9) (.tmp 29)), none⟩,
      ⟨(some 10), (.mv (.tmp 30)), none⟩])
     (.seq
      (.seq
       (.region false [⟨(some 31), (.mv (.tmp 10)), none⟩,
        ⟨(some 32), (.bin .neq (.tmp 31) (.const (it 0))), none⟩,
        ⟨(some 33), (.mv (.tmp 32)), none⟩,
        ⟨(some 34), (.load S2 (.tmp 9)), some (33, false)⟩,
        ⟨(some 35), (.call 7 [(.tmp 34)]), some (33, false)⟩,
        ⟨(some 36), (.bin .neq (.tmp 35) (.const (it (-1)))), some (33, false)⟩,
        ⟨(some 37), (.pick (.tmp 33) (.const (.bool true)) (.tmp 36)), none⟩,
        ⟨(some 38), (.mv (.tmp 37)), none⟩,
        ⟨(some 39), (.load S2 (.tmp 9)), some (38, false)⟩,
        ⟨(some 40), (.call 8 [(.tmp 39)]), some (38, false)⟩,
        ⟨(some 41), (.mv (.tmp 7)), some (38, false)⟩,
        ⟨(some 42), (.index 4 LB (.tmp 40) (.tmp 41)), some (38, false)⟩,
        ⟨(some 43), (.un .not (.tmp 42)), some (38, false)⟩,
        ⟨(some 44), (.pick (.tmp 38) (.const (.bool true)) (.tmp 43)), none⟩])
       (.cond (.tmp 44)
        (.seq
         (.region false [⟨(some 6), (.mv (.const (.bool false))), none⟩])
         .ret)
        .skip))
      (.seq
       (.seq
        (.region false [⟨(some 45), (.mv (.tmp 2)), none⟩])
        (.cond (.tmp 45)
         (.region false [⟨(some 46), (.load S2 (.tmp 9)), none⟩,
          ⟨(some 47), (.mv (.tmp 7)), none⟩,
          ⟨(some 48), (.call 9 [(.tmp 46), (.tmp 47)]), none⟩,
          ⟨none, (.store S2 (.tmp 9) (.tmp 48)), none⟩])
         .skip))
       (.seq
        (.seq
         (.region false [⟨(some 11), (.mv (.const (it 0))), none⟩])
         (.block 0
          (.loop
           (.seq
            (.seq
             (.region false [⟨(some 49), (.mv (.tmp 11)), none⟩,
              ⟨(some 50), (.mv (.tmp 8)), none⟩,
              ⟨(some 51), (.bin .add (.tmp 50) (.const (it 3))), none⟩,
              ⟨(some 52), (.bin .lss (.tmp 49) (.tmp 51)), none⟩])
             (.cond (.tmp 52)
              .skip
              (.exit 0)))
            (.seq
             (.block 1
              (.seq
               (.region false [⟨(some 56), (.load S2 (.tmp 9)), none⟩,
                ⟨(some 57), (.call 10 [(.tmp 56)]), none⟩,
                ⟨(some 55), (.mv (.tmp 57)), none⟩,
                ⟨(some 58), (.ext (.tmp 55) 0), none⟩,
                ⟨(some 59), (.ext (.tmp 55) 1), none⟩,
                ⟨(some 12), (.alloc S2 (.agg S2 [(.agg (.ar 4 S1) (List.replicate 4 (.agg S1 [(.raw (.bool false)), (.raw (it 0))]))), (.raw (it 0)), (.raw (it 0)), (.raw (it 0))])), none⟩,
                ⟨none, (.store S2 (.tmp 12) (.tmp 58)), none⟩,
                ⟨(some 13), (.mv (.tmp 59)), none⟩])
               (.seq
                (.seq
                 (.region false [⟨(some 60), (.mv (.tmp 13)), none⟩,
                  ⟨(some 61), (.mv (.tmp 7)), none⟩,
                  ⟨(some 62), (.bin .eql (.tmp 60) (.tmp 61)), none⟩,
                  ⟨(some 63), (.mv (.tmp 2)), none⟩,
                  ⟨(some 64), (.un .not (.tmp 63)), none⟩,
                  ⟨(some 65), (.mv (.tmp 64)), none⟩,
                  ⟨(some 66), (.mv (.tmp 11)), some (65, true)⟩,
                  ⟨(some 67), (.mv (.tmp 8)), some (65, true)⟩,
                  ⟨(some 68), (.bin .eql (.tmp 66) (.tmp 67)), some (65, true)⟩,
                  ⟨(some 69), (.pick (.tmp 65) (.tmp 68) (.const (.bool false))), none⟩,
                  ⟨(some 70), (.beq true (.tmp 62) (.tmp 69)), none⟩,
                  ⟨(some 71), (.mv (.tmp 70)), none⟩,
                  ⟨(some 72), (.mv (.tmp 13)), some (71, false)⟩,
                  ⟨(some 73), (.bin .geq (.tmp 72) (.const (it 0))), some (71, false)⟩,
                  ⟨(some 74), (.mv (.tmp 73)), some (71, false)⟩,
                  ⟨(some 75), (.mv (.tmp 13)), some (74, true)⟩,
                  ⟨(some 76), (.mv (.tmp 7)), some (74, true)⟩,
                  ⟨(some 77), (.bin .neq (.tmp 75) (.tmp 76)), some (74, true)⟩,
                  ⟨(some 78), (.pick (.tmp 74) (.tmp 77) (.const (.bool false))), some (71, false)⟩,
                  ⟨(some 79), (.pick (.tmp 71) (.const (.bool true)) (.tmp 78)), none⟩])
                 (.cond (.tmp 79)
                  (.seq
                   (.region false [⟨(some 6), (.mv (.const (.bool false))), none⟩])
                   .ret)
                  .skip))
                (.region false [⟨(some 80), (.load S2 (.tmp 12)), none⟩,
                 ⟨none, (.store S2 (.tmp 9) (.tmp 80)), none⟩]))))
             (.region false [⟨(some 53), (.mv (.tmp 11)), none⟩,
              ⟨(some 54), (.bin .add (.tmp 53) (.const (it 1))), none⟩,
              ⟨(some 11), (.mv (.tmp 54)), none⟩]))))))
        (.seq
         (.region false [⟨(some 82), (.load S2 (.tmp 9)), none⟩,
          ⟨(some 83), (.mv (.tmp 0)), none⟩,
          ⟨(some 84), (.conv .i64 (.tmp 83)), none⟩,
          ⟨(some 85), (.bin .add (.tmp 84) (.const (it 4))), none⟩,
          ⟨(some 86), (.mv (.tmp 8)), none⟩,
          ⟨(some 87), (.call 6 [(.tmp 82), (.tmp 85), (.tmp 86)]), none⟩,
          ⟨(some 81), (.mv (.tmp 87)), none⟩,
          ⟨(some 88), (.ext (.tmp 81) 0), none⟩,
          ⟨(some 89), (.ext (.tmp 81) 1), none⟩,
          ⟨(some 14), (.alloc S2 (.agg S2 [(.agg (.ar 4 S1) (List.replicate 4 (.agg S1 [(.raw (.bool false)), (.raw (it 0))]))), (.raw (it 0)), (.raw (it 0)), (.raw (it 0))])), none⟩,
          ⟨none, (.store S2 (.tmp 14) (.tmp 88)), none⟩,
          ⟨(some 15), (.mv (.tmp 89)), none⟩])
         (.seq
          (.region false [⟨(some 90), (.mv (.tmp 15)), none⟩,
           ⟨(some 91), (.bin .eql (.tmp 90) (.const (it 1))), none⟩,
           ⟨(some 92), (.mv (.tmp 91)), none⟩,
           ⟨(some 93), (.load S2 (.tmp 9)), some (92, true)⟩,
           ⟨(some 94), (.call 7 [(.tmp 93)]), some (92, true)⟩,
           ⟨(some 95), (.bin .eql (.tmp 94) (.const (it (-1)))), some (92, true)⟩,
           ⟨(some 96), (.pick (.tmp 92) (.tmp 95) (.const (.bool false))), none⟩,
           ⟨(some 6), (.mv (.tmp 96)), none⟩])
          .ret)))))))))
def r_law13_BusOne : List ARes := [(.tmp 6)]
theorem c_law13_BusOne : o2 Go.Proofs.Try.f3.body (comp Go.Proofs.Try.prog Go.Proofs.Try.f3.ntmps) = some a_law13_BusOne := by kernel_rfl
theorem s_law13_BusOne : cRess Go.Proofs.Try.prog Go.Proofs.Try.f3.results.toList = some r_law13_BusOne := by kernel_rfl
theorem m_law13_BusOne (C : Ctx) (hC : CtxOK C Go.Proofs.Try.prog) : Meets C.glob Go.Proofs.Try.prog 3 (afun C 3 r_law13_BusOne a_law13_BusOne) :=
  fn_sound hC Go.Proofs.Try.func3 c_law13_BusOne s_law13_BusOne (Nat.le_of_ble_eq_true (by kernel_rfl))

/-- curtilage/curtilagelaw13.awake -/
def a_law13_awake : ACode :=
 (.seq
  (.region false [⟨(some 0), (.mv (.const (.bool false))), none⟩])
  (.seq
   (.region false [⟨(some 10), (.call 5 []), none⟩,
    ⟨(some 11), (.call 6 [(.tmp 10), (.const (it 0)), (.const (it 2))]), none⟩,
    ⟨(some 9), (.mv (.tmp 11)), none⟩,
    ⟨(some 12), (.ext (.tmp 9) 0), none⟩,
    ⟨(some 13), (.ext (.tmp 9) 1), none⟩,
    ⟨(some 1), (.alloc S2 (.agg S2 [(.agg (.ar 4 S1) (List.replicate 4 (.agg S1 [(.raw (.bool false)), (.raw (it 0))]))), (.raw (it 0)), (.raw (it 0)), (.raw (it 0))])), none⟩,
    ⟨none, (.store S2 (.tmp 1) (.tmp 12)), none⟩,
    ⟨(some 2), (.mv (.tmp 13)), none⟩])
   (.seq
    (.region false [⟨(some 15), (.load S2 (.tmp 1)), none⟩,
     ⟨(some 16), (.call 6 [(.tmp 15), (.const (it 1)), (.const (it 0))]), none⟩,
     ⟨(some 14), (.mv (.tmp 16)), none⟩,
     ⟨(some 17), (.ext (.tmp 14) 0), none⟩,
     ⟨(some 18), (.ext (.tmp 14) 1), none⟩,
     ⟨none, (.store S2 (.tmp 1) (.tmp 17)), none⟩,
     ⟨(some 3), (.mv (.tmp 18)), none⟩])
    (.seq
     (.region false [⟨(some 20), (.load S2 (.tmp 1)), none⟩,
      ⟨(some 21), (.call 10 [(.tmp 20)]), none⟩,
      ⟨(some 19), (.mv (.tmp 21)), none⟩,
      ⟨(some 22), (.ext (.tmp 19) 0), none⟩,
      ⟨(some 23), (.ext (.tmp 19) 1), none⟩,
      ⟨none, (.store S2 (.tmp 1) (.tmp 22)), none⟩,
      ⟨(some 4), (.mv (.tmp 23)), none⟩])
     (.seq
      (.region false [⟨(some 25), (.load S2 (.tmp 1)), none⟩,
       ⟨(some 26), (.call 10 [(.tmp 25)]), none⟩,
       ⟨(some 24), (.mv (.tmp 26)), none⟩,
       ⟨(some 27), (.ext (.tmp 24) 0), none⟩,
       ⟨(some 28), (.ext (.tmp 24) 1), none⟩,
       ⟨none, (.store S2 (.tmp 1) (.tmp 27)), none⟩,
       ⟨(some 5), (.mv (.tmp 28)), none⟩])
      (.seq
       (.region false [⟨(some 30), (.load S2 (.tmp 1)), none⟩,
        ⟨(some 31), (.call 10 [(.tmp 30)]), none⟩,
        ⟨(some 29), (.mv (.tmp 31)), none⟩,
        ⟨(some 32), (.ext (.tmp 29) 0), none⟩,
        ⟨(some 33), (.ext (.tmp 29) 1), none⟩,
        ⟨none, (.store S2 (.tmp 1) (.tmp 32)), none⟩,
        ⟨(some 6), (.mv (.tmp 33)), none⟩])
       (.seq
        (.region false [⟨(some 35), (.load S2 (.tmp 1)), none⟩,
         ⟨(some 36), (.call 10 [(.tmp 35)]), none⟩,
         ⟨(some 34), (.mv (.tmp 36)), none⟩,
         ⟨(some 37), (.ext (.tmp 34) 0), none⟩,
         ⟨(some 38), (.ext (.tmp 34) 1), none⟩,
         ⟨(some 7), (.alloc S2 (.agg S2 [(.agg (.ar 4 S1) (List.replicate 4 (.agg S1 [(.raw (.bool false)), (.raw (it 0))]))), (.raw (it 0)), (.raw (it 0)), (.raw (it 0))])), none⟩,
         ⟨none, (.store S2 (.tmp 7) (.tmp 37)), none⟩,
         ⟨(some 8), (.mv (.tmp 38)), none⟩])
        (.seq
         (.region false [⟨(some 39), (.mv (.tmp 2)), none⟩,
          ⟨(some 40), (.bin .eql (.tmp 39) (.const (it 0))), none⟩,
          ⟨(some 41), (.mv (.tmp 40)), none⟩,
          ⟨(some 42), (.mv (.tmp 3)), some (41, true)⟩,
          ⟨(some 43), (.bin .eql (.tmp 42) (.const (it 0))), some (41, true)⟩,
          ⟨(some 44), (.pick (.tmp 41) (.tmp 43) (.const (.bool false))), none⟩,
          ⟨(some 45), (.mv (.tmp 44)), none⟩,
          ⟨(some 46), (.mv (.tmp 4)), some (45, true)⟩,
          ⟨(some 47), (.bin .eql (.tmp 46) (.const (it (-1)))), some (45, true)⟩,
          ⟨(some 48), (.pick (.tmp 45) (.tmp 47) (.const (.bool false))), none⟩,
          ⟨(some 49), (.mv (.tmp 48)), none⟩,
          ⟨(some 50), (.mv (.tmp 5)), some (49, true)⟩,
          ⟨(some 51), (.bin .eql (.tmp 50) (.const (it (-1)))), some (49, true)⟩,
          ⟨(some 52), (.pick (.tmp 49) (.tmp 51) (.const (.bool false))), none⟩,
          ⟨(some 53), (.mv (.tmp 52)), none⟩,
          ⟨(some 54), (.mv (.tmp 6)), some (53, true)⟩,
          ⟨(some 55), (.bin .eql (.tmp 54) (.const (it 0))), some (53, true)⟩,
          ⟨(some 56), (.pick (.tmp 53) (.tmp 55) (.const (.bool false))), none⟩,
          ⟨(some 57), (.mv (.tmp 56)), none⟩,
          ⟨(some 58), (.mv (.tmp 8)), some (57, true)⟩,
          ⟨(some 59), (.bin .eql (.tmp 58) (.const (it 1))), some (57, true)⟩,
          ⟨(some 60), (.pick (.tmp 57) (.tmp 59) (.const (.bool false))), none⟩,
          ⟨(some 0), (.mv (.tmp 60)), none⟩])
         .ret))))))))
def r_law13_awake : List ARes := [(.tmp 0)]
theorem c_law13_awake : o2 Go.Proofs.Try.f4.body (comp Go.Proofs.Try.prog Go.Proofs.Try.f4.ntmps) = some a_law13_awake := by kernel_rfl
theorem s_law13_awake : cRess Go.Proofs.Try.prog Go.Proofs.Try.f4.results.toList = some r_law13_awake := by kernel_rfl
theorem m_law13_awake (C : Ctx) (hC : CtxOK C Go.Proofs.Try.prog) : Meets C.glob Go.Proofs.Try.prog 4 (afun C 0 r_law13_awake a_law13_awake) :=
  fn_sound hC Go.Proofs.Try.func4 c_law13_awake s_law13_awake (Nat.le_of_ble_eq_true (by kernel_rfl))

/-- curtilage/bus.New -/
def a_bus_New : ACode :=
 (.seq
  (.region false [⟨(some 0), (.alloc S2 (.agg S2 [(.agg (.ar 4 S1) (List.replicate 4 (.agg S1 [(.raw (.bool false)), (.raw (it 0))]))), (.raw (it 0)), (.raw (it 0)), (.raw (it 0))])), none⟩])
  (.seq
   (.region false [⟨(some 1), (.build S2 [(.agg (.ar 4 S1) (List.replicate 4 (.agg S1 [(.raw (.bool false)), (.raw (it 0))]))), (.raw (it 0)), (.raw (it 0)), (.raw (it 0))] [(1, (.const (it (-1)))), (3, (.const (it 3)))]), none⟩,
    ⟨none, (.store S2 (.tmp 0) (.tmp 1)), none⟩])
   .ret))
def r_bus_New : List ARes := [(.cell 0 S2)]
theorem c_bus_New : o2 Go.Proofs.Try.f5.body (comp Go.Proofs.Try.prog Go.Proofs.Try.f5.ntmps) = some a_bus_New := by kernel_rfl
theorem s_bus_New : cRess Go.Proofs.Try.prog Go.Proofs.Try.f5.results.toList = some r_bus_New := by kernel_rfl
theorem m_bus_New (C : Ctx) (hC : CtxOK C Go.Proofs.Try.prog) : Meets C.glob Go.Proofs.Try.prog 5 (afun C 0 r_bus_New a_bus_New) :=
  fn_sound hC Go.Proofs.Try.func5 c_bus_New s_bus_New (Nat.le_of_ble_eq_true (by kernel_rfl))

/-- (curtilage/bus.Arbiter).Ask -/
def a_bus_Arbiter_Ask : ACode :=
 (.seq
  (.region false [⟨(some 3), (.box S2 (.tmp 0)), none⟩,
   ⟨(some 6), (.alloc S2 (.agg S2 [(.agg (.ar 4 S1) (List.replicate 4 (.agg S1 [(.raw (.bool false)), (.raw (it 0))]))), (.raw (it 0)), (.raw (it 0)), (.raw (it 0))])), none⟩,
   ⟨(some 7), (.mv (.const (it 0))), none⟩])
  (.seq
   (.block 0
    (.seq
     (.region false [⟨(some 9), (.mv (.tmp 1)), none⟩,
      ⟨(some 10), (.call 11 [(.tmp 9)]), none⟩,
      ⟨(some 11), (.un .not (.tmp 10)), none⟩,
      ⟨(some 12), (.mv (.tmp 11)), none⟩,
      ⟨(some 13), (.mv (.tmp 2)), some (12, false)⟩,
      ⟨(some 14), (.bin .lss (.tmp 13) (.const (it 0))), some (12, false)⟩,
      ⟨(some 15), (.pick (.tmp 12) (.const (.bool true)) (.tmp 14)), none⟩,
      ⟨(some 16), (.mv (.tmp 15)), none⟩,
      ⟨(some 17), (.mv (.tmp 2)), some (16, false)⟩,
      ⟨(some 18), (.bin .gtr (.tmp 17) (.const (it 15))), some (16, false)⟩,
      ⟨(some 19), (.pick (.tmp 16) (.const (.bool true)) (.tmp 18)), none⟩,
      ⟨(some 8), (.mv (.tmp 19)), none⟩])
     (.cond (.tmp 8)
      (.seq
       (.region false [⟨(some 20), (.load S2 (.tmp 3)), none⟩,
        ⟨none, (.store S2 (.tmp 6) (.tmp 20)), none⟩,
        ⟨(some 7), (.mv (.const (it 1))), none⟩])
       .ret)
      (.seq
       (.region false [⟨(some 22), (.mv (.tmp 1)), none⟩,
        ⟨(some 23), (.faddr S2 (.tmp 3) 0), none⟩,
        ⟨(some 24), (.iaddra 4 S1 (.tmp 23) (.tmp 22)), none⟩,
        ⟨(some 25), (.faddr S1 (.tmp 24) 0), none⟩,
        ⟨(some 26), (.load LB (.tmp 25)), none⟩,
        ⟨(some 27), (.mv (.tmp 26)), none⟩,
        ⟨(some 28), (.load S2 (.tmp 3)), some (27, false)⟩,
        ⟨(some 29), (.call 7 [(.tmp 28)]), some (27, false)⟩,
        ⟨(some 30), (.mv (.tmp 1)), some (27, false)⟩,
        ⟨(some 31), (.bin .eql (.tmp 29) (.tmp 30)), some (27, false)⟩,
        ⟨(some 32), (.pick (.tmp 27) (.const (.bool true)) (.tmp 31)), none⟩,
        ⟨(some 21), (.mv (.tmp 32)), none⟩])
       (.cond (.tmp 21)
        (.seq
         (.region false [⟨(some 33), (.load S2 (.tmp 3)), none⟩,
          ⟨none, (.store S2 (.tmp 6) (.tmp 33)), none⟩,
          ⟨(some 7), (.mv (.const (it 14))), none⟩])
         .ret)
        .skip)))))
   (.seq
    (.region false [⟨(some 34), (.mv (.tmp 1)), none⟩,
     ⟨(some 35), (.mv (.tmp 2)), none⟩,
     ⟨(some 36), (.build S1 [(.raw (.bool false)), (.raw (it 0))] [(0, (.const (.bool true))), (1, (.tmp 35))]), none⟩,
     ⟨(some 37), (.faddr S2 (.tmp 3) 0), none⟩,
     ⟨(some 38), (.iaddra 4 S1 (.tmp 37) (.tmp 34)), none⟩,
     ⟨none, (.store S1 (.tmp 38) (.tmp 36)), none⟩])
    (.seq
     (.region false [⟨(some 39), (.load S2 (.tmp 3)), none⟩,
      ⟨none, (.store S2 (.tmp 6) (.tmp 39)), none⟩,
      ⟨(some 7), (.mv (.const (it 0))), none⟩])
     .ret))))
def r_bus_Arbiter_Ask : List ARes := [(.cell 6 S2), (.tmp 7)]
theorem c_bus_Arbiter_Ask : o2 Go.Proofs.Try.f6.body (comp Go.Proofs.Try.prog Go.Proofs.Try.f6.ntmps) = some a_bus_Arbiter_Ask := by kernel_rfl
theorem s_bus_Arbiter_Ask : cRess Go.Proofs.Try.prog Go.Proofs.Try.f6.results.toList = some r_bus_Arbiter_Ask := by kernel_rfl
theorem m_bus_Arbiter_Ask (C : Ctx) (hC : CtxOK C Go.Proofs.Try.prog) : Meets C.glob Go.Proofs.Try.prog 6 (afun C 3 r_bus_Arbiter_Ask a_bus_Arbiter_Ask) :=
  fn_sound hC Go.Proofs.Try.func6 c_bus_Arbiter_Ask s_bus_Arbiter_Ask (Nat.le_of_ble_eq_true (by kernel_rfl))

/-- (curtilage/bus.Arbiter).Serves -/
def a_bus_Arbiter_Serves : ACode :=
 (.seq
  (.region false [⟨(some 1), (.box S2 (.tmp 0)), none⟩,
   ⟨(some 2), (.mv (.const (it 0))), none⟩])
  (.seq
   (.region false [⟨(some 3), (.faddr S2 (.tmp 1) 1), none⟩,
    ⟨(some 4), (.load LI (.tmp 3)), none⟩,
    ⟨(some 2), (.mv (.tmp 4)), none⟩])
   .ret))
def r_bus_Arbiter_Serves : List ARes := [(.tmp 2)]
theorem c_bus_Arbiter_Serves : o2 Go.Proofs.Try.f7.body (comp Go.Proofs.Try.prog Go.Proofs.Try.f7.ntmps) = some a_bus_Arbiter_Serves := by kernel_rfl
theorem s_bus_Arbiter_Serves : cRess Go.Proofs.Try.prog Go.Proofs.Try.f7.results.toList = some r_bus_Arbiter_Serves := by kernel_rfl
theorem m_bus_Arbiter_Serves (C : Ctx) (hC : CtxOK C Go.Proofs.Try.prog) : Meets C.glob Go.Proofs.Try.prog 7 (afun C 1 r_bus_Arbiter_Serves a_bus_Arbiter_Serves) :=
  fn_sound hC Go.Proofs.Try.func7 c_bus_Arbiter_Serves s_bus_Arbiter_Serves (Nat.le_of_ble_eq_true (by kernel_rfl))

/-- (curtilage/bus.Arbiter).Asked -/
def a_bus_Arbiter_Asked : ACode :=
 (.seq
  (.region false [⟨(some 1), (.box S2 (.tmp 0)), none⟩,
   ⟨(some 2), (.alloc (.ar 4 LB) (.agg (.ar 4 LB) (List.replicate 4 (.raw (.bool false))))), none⟩])
  (.seq
   (.region false [⟨(some 3), (.alloc (.ar 4 LB) (.agg (.ar 4 LB) (List.replicate 4 (.raw (.bool false))))), none⟩])
   (.seq
    (.seq
     (.region false [⟨(some 6), (.faddr S2 (.tmp 1) 0), none⟩,
      ⟨(some 7), (.load (.ar 4 S1) (.tmp 6)), none⟩,
      ⟨(some 8), (.mv (.const (it 0))), none⟩])
     (.block 0
      (.loop
       (.seq
        (.region false [⟨(some 9), (.bin .lss (.tmp 8) (.const (it 4))), none⟩])
        (.seq
         (.cond (.tmp 9)
          .skip
          (.exit 0))
         (.seq
          (.block 1
           (.seq
            (.region false [⟨(some 10), (.mv (.tmp 8)), none⟩,
             ⟨(some 11), (.index 4 S1 (.tmp 7) (.tmp 8)), none⟩,
             ⟨(some 5), (.alloc S1 (.agg S1 [(.raw (.bool false)), (.raw (it 0))])), none⟩,
             ⟨(some 4), (.mv (.tmp 10)), none⟩,
             ⟨none, (.store S1 (.tmp 5) (.tmp 11)), none⟩])
            (.region false [⟨(some 12), (.mv (.tmp 4)), none⟩,
             ⟨(some 13), (.faddr S1 (.tmp 5) 0), none⟩,
             ⟨(some 14), (.load LB (.tmp 13)), none⟩,
             ⟨(some 15), (.iaddra 4 LB (.tmp 3) (.tmp 12)), none⟩,
             ⟨none, (.store LB (.tmp 15) (.tmp 14)), none⟩])))
          (.region false [⟨(some 16), (.bin .add (.tmp 8) (.const (it 1))), none⟩,
           ⟨(some 8), (.mv (.tmp 16)), none⟩])))))))
    (.seq
     (.region false [⟨(some 17), (.load (.ar 4 LB) (.tmp 3)), none⟩,
      ⟨none, (.store (.ar 4 LB) (.tmp 2) (.tmp 17)), none⟩])
     .ret))))
def r_bus_Arbiter_Asked : List ARes := [(.cell 2 (.ar 4 LB))]
theorem c_bus_Arbiter_Asked : o2 Go.Proofs.Try.f8.body (comp Go.Proofs.Try.prog Go.Proofs.Try.f8.ntmps) = some a_bus_Arbiter_Asked := by kernel_rfl
theorem s_bus_Arbiter_Asked : cRess Go.Proofs.Try.prog Go.Proofs.Try.f8.results.toList = some r_bus_Arbiter_Asked := by kernel_rfl
theorem m_bus_Arbiter_Asked (C : Ctx) (hC : CtxOK C Go.Proofs.Try.prog) : Meets C.glob Go.Proofs.Try.prog 8 (afun C 1 r_bus_Arbiter_Asked a_bus_Arbiter_Asked) :=
  fn_sound hC Go.Proofs.Try.func8 c_bus_Arbiter_Asked s_bus_Arbiter_Asked (Nat.le_of_ble_eq_true (by kernel_rfl))

/-- (curtilage/bus.Arbiter).Drop -/
def a_bus_Arbiter_Drop : ACode :=
 (.seq
  (.region false [⟨(some 2), (.box S2 (.tmp 0)), none⟩,
   ⟨(some 4), (.alloc S2 (.agg S2 [(.agg (.ar 4 S1) (List.replicate 4 (.agg S1 [(.raw (.bool false)), (.raw (it 0))]))), (.raw (it 0)), (.raw (it 0)), (.raw (it 0))])), none⟩])
  (.seq
   (.seq
    (.region false [⟨(some 5), (.mv (.tmp 1)), none⟩,
     ⟨(some 6), (.call 11 [(.tmp 5)]), none⟩])
    (.cond (.tmp 6)
     (.region false [⟨(some 7), (.mv (.tmp 1)), none⟩,
      ⟨(some 8), (.build S1 [(.raw (.bool false)), (.raw (it 0))] []), none⟩,
      ⟨(some 9), (.faddr S2 (.tmp 2) 0), none⟩,
      ⟨(some 10), (.iaddra 4 S1 (.tmp 9) (.tmp 7)), none⟩,
      ⟨none, (.store S1 (.tmp 10) (.tmp 8)), none⟩])
     .skip))
   (.seq
    (.region false [⟨(some 11), (.load S2 (.tmp 2)), none⟩,
     ⟨none, (.store S2 (.tmp 4) (.tmp 11)), none⟩])
    .ret)))
def r_bus_Arbiter_Drop : List ARes := [(.cell 4 S2)]
theorem c_bus_Arbiter_Drop : o2 Go.Proofs.Try.f9.body (comp Go.Proofs.Try.prog Go.Proofs.Try.f9.ntmps) = some a_bus_Arbiter_Drop := by kernel_rfl
theorem s_bus_Arbiter_Drop : cRess Go.Proofs.Try.prog Go.Proofs.Try.f9.results.toList = some r_bus_Arbiter_Drop := by kernel_rfl
theorem m_bus_Arbiter_Drop (C : Ctx) (hC : CtxOK C Go.Proofs.Try.prog) : Meets C.glob Go.Proofs.Try.prog 9 (afun C 2 r_bus_Arbiter_Drop a_bus_Arbiter_Drop) :=
  fn_sound hC Go.Proofs.Try.func9 c_bus_Arbiter_Drop s_bus_Arbiter_Drop (Nat.le_of_ble_eq_true (by kernel_rfl))

/-- (curtilage/bus.Arbiter).Tick -/
def a_bus_Arbiter_Tick : ACode :=
 (.seq
  (.region false [⟨(some 1), (.box S2 (.tmp 0)), none⟩,
   ⟨(some 2), (.alloc S2 (.agg S2 [(.agg (.ar 4 S1) (List.replicate 4 (.agg S1 [(.raw (.bool false)), (.raw (it 0))]))), (.raw (it 0)), (.raw (it 0)), (.raw (it 0))])), none⟩,
   ⟨(some 3), (.mv (.const (it 0))), none⟩])
  (.seq
   (.seq
    (.region false [⟨(some 5), (.faddr S2 (.tmp 1) 1), none⟩,
     ⟨(some 6), (.load LI (.tmp 5)), none⟩,
     ⟨(some 7), (.bin .eql (.tmp 6) (.const (it (-1)))), none⟩])
    (.cond (.tmp 7)
     (.region false [⟨(some 8), (.load S2 (.tmp 1)), none⟩,
      ⟨(some 9), (.call 12 [(.tmp 8)]), none⟩,
      ⟨none, (.store S2 (.tmp 1) (.tmp 9)), none⟩])
     .skip))
   (.seq
    (.seq
     (.region false [⟨(some 10), (.faddr S2 (.tmp 1) 1), none⟩,
      ⟨(some 11), (.load LI (.tmp 10)), none⟩,
      ⟨(some 12), (.bin .eql (.tmp 11) (.const (it (-1)))), none⟩])
     (.cond (.tmp 12)
      (.seq
       (.region false [⟨(some 13), (.load S2 (.tmp 1)), none⟩,
        ⟨none, (.store S2 (.tmp 2) (.tmp 13)), none⟩,
        ⟨(some 3), (.mv (.const (it (-1)))), none⟩])
       .ret)
      .skip))
    (.seq
     (.seq
      (.region false [⟨(some 14), (.faddr S2 (.tmp 1) 2), none⟩,
       ⟨(some 15), (.load LI (.tmp 14)), none⟩,
       ⟨(some 16), (.bin .sub (.tmp 15) (.const (it 1))), none⟩,
       ⟨(some 17), (.faddr S2 (.tmp 1) 2), none⟩,
       ⟨none, (.store LI (.tmp 17) (.tmp 16)), none⟩])
      (.seq
       (.region false [⟨(some 18), (.faddr S2 (.tmp 1) 2), none⟩,
        ⟨(some 19), (.load LI (.tmp 18)), none⟩,
        ⟨(some 20), (.bin .gtr (.tmp 19) (.const (it 0))), none⟩])
       (.cond (.tmp 20)
        (.seq
         (.region false [⟨(some 21), (.load S2 (.tmp 1)), none⟩,
          ⟨none, (.store S2 (.tmp 2) (.tmp 21)), none⟩,
          ⟨(some 3), (.mv (.const (it (-1)))), none⟩])
         .ret)
        .skip)))
     (.seq
      (.region false [⟨(some 22), (.faddr S2 (.tmp 1) 1), none⟩,
       ⟨(some 23), (.load LI (.tmp 22)), none⟩,
       ⟨(some 4), (.mv (.tmp 23)), none⟩])
      (.seq
       (.region false [⟨(some 24), (.faddr S2 (.tmp 1) 1), none⟩,
        ⟨none, (.store LI (.tmp 24) (.const (it (-1)))), none⟩])
       (.seq
        (.region false [⟨(some 25), (.load S2 (.tmp 1)), none⟩,
         ⟨(some 26), (.mv (.tmp 4)), none⟩,
         ⟨none, (.store S2 (.tmp 2) (.tmp 25)), none⟩,
         ⟨(some 3), (.mv (.tmp 26)), none⟩])
        .ret)))))))
def r_bus_Arbiter_Tick : List ARes := [(.cell 2 S2), (.tmp 3)]
theorem c_bus_Arbiter_Tick : o2 Go.Proofs.Try.f10.body (comp Go.Proofs.Try.prog Go.Proofs.Try.f10.ntmps) = some a_bus_Arbiter_Tick := by kernel_rfl
theorem s_bus_Arbiter_Tick : cRess Go.Proofs.Try.prog Go.Proofs.Try.f10.results.toList = some r_bus_Arbiter_Tick := by kernel_rfl
theorem m_bus_Arbiter_Tick (C : Ctx) (hC : CtxOK C Go.Proofs.Try.prog) : Meets C.glob Go.Proofs.Try.prog 10 (afun C 1 r_bus_Arbiter_Tick a_bus_Arbiter_Tick) :=
  fn_sound hC Go.Proofs.Try.func10 c_bus_Arbiter_Tick s_bus_Arbiter_Tick (Nat.le_of_ble_eq_true (by kernel_rfl))

/-- curtilage/bus.there -/
def a_bus_there : ACode :=
 (.seq
  (.region false [⟨(some 2), (.mv (.const (.bool false))), none⟩])
  (.seq
   (.region false [⟨(some 3), (.mv (.tmp 0)), none⟩,
    ⟨(some 4), (.bin .geq (.tmp 3) (.const (it 0))), none⟩,
    ⟨(some 5), (.mv (.tmp 4)), none⟩,
    ⟨(some 6), (.mv (.tmp 0)), some (5, true)⟩,
    ⟨(some 7), (.bin .lss (.tmp 6) (.const (it 4))), some (5, true)⟩,
    ⟨(some 8), (.pick (.tmp 5) (.tmp 7) (.const (.bool false))), none⟩,
    ⟨(some 2), (.mv (.tmp 8)), none⟩])
   .ret))
def r_bus_there : List ARes := [(.tmp 2)]
theorem c_bus_there : o2 Go.Proofs.Try.f11.body (comp Go.Proofs.Try.prog Go.Proofs.Try.f11.ntmps) = some a_bus_there := by kernel_rfl
theorem s_bus_there : cRess Go.Proofs.Try.prog Go.Proofs.Try.f11.results.toList = some r_bus_there := by kernel_rfl
theorem m_bus_there (C : Ctx) (hC : CtxOK C Go.Proofs.Try.prog) : Meets C.glob Go.Proofs.Try.prog 11 (afun C 1 r_bus_there a_bus_there) :=
  fn_sound hC Go.Proofs.Try.func11 c_bus_there s_bus_there (Nat.le_of_ble_eq_true (by kernel_rfl))

/-- (curtilage/bus.Arbiter).next -/
def a_bus_Arbiter_next : ACode :=
 (.seq
  (.region false [⟨(some 1), (.box S2 (.tmp 0)), none⟩,
   ⟨(some 2), (.alloc S2 (.agg S2 [(.agg (.ar 4 S1) (List.replicate 4 (.agg S1 [(.raw (.bool false)), (.raw (it 0))]))), (.raw (it 0)), (.raw (it 0)), (.raw (it 0))])), none⟩])
  (.seq
   (.seq
    (.region false [⟨(some 5), (.mv (.const (it 0))), none⟩])
    (.block 0
     (.loop
      (.seq
       (.region false [⟨(some 6), (.bin .lss (.tmp 5) (.const (it 4))), none⟩])
       (.seq
        (.cond (.tmp 6)
         .skip
         (.exit 0))
        (.seq
         (.block 1
          (.seq
           (.region false [⟨(some 7), (.mv (.tmp 5)), none⟩,
            ⟨(some 3), (.mv (.tmp 7)), none⟩])
           (.seq
            (.region false [⟨(some 8), (.faddr S2 (.tmp 1) 3), none⟩,
             ⟨(some 9), (.load LI (.tmp 8)), none⟩,
             ⟨(some 10), (.bin .add (.tmp 9) (.const (it 1))), none⟩,
             ⟨(some 11), (.mv (.tmp 3)), none⟩,
             ⟨(some 12), (.bin .add (.tmp 10) (.tmp 11)), none⟩,
             ⟨(some 13), (.bin .rem (.tmp 12) (.const (it 4))), none⟩,
             ⟨(some 4), (.mv (.tmp 13)), none⟩])
            (.seq
             (.region false [⟨(some 14), (.mv (.tmp 4)), none⟩,
              ⟨(some 15), (.faddr S2 (.tmp 1) 0), none⟩,
              ⟨(some 16), (.iaddra 4 S1 (.tmp 15) (.tmp 14)), none⟩,
              ⟨(some 17), (.faddr S1 (.tmp 16) 0), none⟩,
              ⟨(some 18), (.load LB (.tmp 17)), none⟩])
             (.cond (.tmp 18)
              (.seq
               (.region false [⟨(some 19), (.mv (.tmp 4)), none⟩,
                ⟨(some 20), (.mv (.tmp 4)), none⟩,
                ⟨(some 21), (.faddr S2 (.tmp 1) 0), none⟩,
                ⟨(some 22), (.iaddra 4 S1 (.tmp 21) (.tmp 20)), none⟩,
                ⟨(some 23), (.faddr S1 (.tmp 22) 1), none⟩,
                ⟨(some 24), (.load LI (.tmp 23)), none⟩,
                ⟨(some 25), (.bin .add (.tmp 24) (.const (it 1))), none⟩,
                ⟨(some 26), (.mv (.tmp 4)), none⟩,
                ⟨(some 27), (.faddr S2 (.tmp 1) 1), none⟩,
                ⟨none, (.store LI (.tmp 27) (.tmp 19)), none⟩,
                ⟨(some 28), (.faddr S2 (.tmp 1) 2), none⟩,
                ⟨none, (.store LI (.tmp 28) (.tmp 25)), none⟩,
                ⟨(some 29), (.faddr S2 (.tmp 1) 3), none⟩,
                ⟨none, (.store LI (.tmp 29) (.tmp 26)), none⟩])
               (.seq
                (.region false [⟨(some 30), (.mv (.tmp 4)), none⟩,
                 ⟨(some 31), (.build S1 [(.raw (.bool false)), (.raw (it 0))] []), none⟩,
                 ⟨(some 32), (.faddr S2 (.tmp 1) 0), none⟩,
                 ⟨(some 33), (.iaddra 4 S1 (.tmp 32) (.tmp 30)), none⟩,
                 ⟨none, (.store S1 (.tmp 33) (.tmp 31)), none⟩])
                (.seq
                 (.region false [⟨(some 34), (.load S2 (.tmp 1)), none⟩,
                  ⟨none, (.store S2 (.tmp 2) (.tmp 34)), none⟩])
                 .ret)))
              .skip)))))
         (.region false [⟨(some 35), (.bin .add (.tmp 5) (.const (it 1))), none⟩,
          ⟨(some 5), (.mv (.tmp 35)), none⟩])))))))
   (.seq
    (.region false [⟨(some 36), (.load S2 (.tmp 1)), none⟩,
     ⟨none, (.store S2 (.tmp 2) (.tmp 36)), none⟩])
    .ret)))
def r_bus_Arbiter_next : List ARes := [(.cell 2 S2)]
theorem c_bus_Arbiter_next : o2 Go.Proofs.Try.f12.body (comp Go.Proofs.Try.prog Go.Proofs.Try.f12.ntmps) = some a_bus_Arbiter_next := by kernel_rfl
theorem s_bus_Arbiter_next : cRess Go.Proofs.Try.prog Go.Proofs.Try.f12.results.toList = some r_bus_Arbiter_next := by kernel_rfl
theorem m_bus_Arbiter_next (C : Ctx) (hC : CtxOK C Go.Proofs.Try.prog) : Meets C.glob Go.Proofs.Try.prog 12 (afun C 1 r_bus_Arbiter_next a_bus_Arbiter_next) :=
  fn_sound hC Go.Proofs.Try.func12 c_bus_Arbiter_next s_bus_Arbiter_next (Nat.le_of_ble_eq_true (by kernel_rfl))

end Go.Am.F
