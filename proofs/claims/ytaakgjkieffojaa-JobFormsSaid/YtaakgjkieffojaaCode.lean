/- The functions as the abstract machine has them: printed. -/
import Derived.Test.YtaakgjkieffojaaProg
import Derived.Test.YtaakgjkieffojaaAm24
namespace Go.Am.Job
set_option linter.unusedVariables false
set_option linter.unusedSimpArgs false
abbrev S1 : Sh := .cons L8 (.cons L8 (.cons L8 (.cons L8 (.cons L32 (.cons L32 (.cons L32 (.cons L32 (.cons L32 .nil))))))))
/-- gosem.cut.init -/
def a_gosem_cut_init : ACode :=
 (.region false [⟨(some 0), .fail, none⟩])
def r_gosem_cut_init : List ARes := []
theorem c_gosem_cut_init : o2 Go.Proofs.Try.f2.body (comp Go.Proofs.Try.prog Go.Proofs.Try.f2.ntmps) = some a_gosem_cut_init := by kernel_rfl
theorem s_gosem_cut_init : cRess Go.Proofs.Try.prog Go.Proofs.Try.f2.results.toList = some r_gosem_cut_init := by kernel_rfl
theorem m_gosem_cut_init (C : Ctx) (hC : CtxOK C Go.Proofs.Try.prog) : Meets C.glob Go.Proofs.Try.prog 2 (afun C 0 r_gosem_cut_init a_gosem_cut_init) :=
  fn_sound hC Go.Proofs.Try.func2 c_gosem_cut_init s_gosem_cut_init (Nat.le_of_ble_eq_true (by kernel_rfl))

/-- curtilage/curtilagelaw17.JobForms -/
def a_law17_JobForms : ACode :=
 (.seq
  (.region false [⟨(some 4), (.box S1 (.tmp 0)), none⟩,
   ⟨(some 8), (.mv (.const (.bool false))), none⟩])
  (.seq
   (.seq
    (.region false [⟨(some 17), (.call 6 []), none⟩,
     ⟨(some 18), (.un .not (.tmp 17)), none⟩])
    (.cond (.tmp 18)
     (.seq
      (.region false [⟨(some 8), (.mv (.const (.bool false))), none⟩])
      .ret)
     .skip))
   (.seq
    (.region false [⟨(some 19), (.mv (.tmp 1)), none⟩,
     ⟨(some 20), (.call 7 [(.tmp 19), (.const (it 40))]), none⟩,
     ⟨(some 1), (.mv (.tmp 20)), none⟩])
    (.seq
     (.region false [⟨(some 21), (.load S1 (.tmp 4)), none⟩,
      ⟨(some 22), (.call 8 [(.tmp 21)]), none⟩,
      ⟨(some 9), (.mv (.tmp 22)), none⟩])
     (.seq
      (.seq
       (.region true [⟨(some 23), (.mv (.tmp 9)), none⟩,
        ⟨(some 24), (.load S1 (.tmp 4)), none⟩,
        ⟨(some 25), (.call 10 [(.tmp 24)]), none⟩,
        ⟨(some 26), (.call 9 [(.tmp 23), (.tmp 25)]), none⟩,
        ⟨(some 27), (.un .not (.tmp 26)), none⟩,
        ⟨(some 28), (.mv (.tmp 27)), none⟩,
        ⟨(some 29), (.load S1 (.tmp 4)), some (28, false)⟩,
        ⟨(some 30), (.call 11 [(.tmp 29)]), some (28, false)⟩,
        ⟨(some 31), (.load S1 (.tmp 4)), some (28, false)⟩,
        ⟨(some 32), (.call 12 [(.tmp 31)]), some (28, false)⟩,
        ⟨(some 33), (.bin .neq (.tmp 30) (.tmp 32)), some (28, false)⟩,
        ⟨(some 34), (.pick (.tmp 28) (.const (.bool true)) (.tmp 33)), none⟩])
       (.cond (.tmp 34)
        (.seq
         (.region false [⟨(some 8), (.mv (.const (.bool false))), none⟩])
         .ret)
        .skip))
      (.seq
       (.region false [⟨(some 35), (.mv (.tmp 9)), none⟩,
        ⟨(some 36), (.bslice .ref 1 (.raw (.slice none 0 0)) [(0, (.tmp 35))]), none⟩,
        ⟨(some 37), (.call 13 [(.tmp 36)]), none⟩,
        ⟨(some 10), (.mv (.tmp 37)), none⟩])
       (.seq
        (.region false [⟨(some 38), (.mv (.tmp 10)), none⟩,
         ⟨(some 39), (.mv (.tmp 2)), none⟩,
         ⟨(some 40), (.bin .rem (.tmp 39) (.const (u8 32#8))), none⟩,
         ⟨(some 41), (.iaddrs L8 (.tmp 38) (.tmp 40)), none⟩,
         ⟨(some 42), (.load L8 (.tmp 41)), none⟩,
         ⟨(some 43), (.mv (.tmp 3)), none⟩,
         ⟨(some 44), (.bin .xor (.tmp 42) (.tmp 43)), none⟩,
         ⟨(some 45), (.iaddrs L8 (.tmp 38) (.tmp 40)), none⟩,
         ⟨none, (.store L8 (.tmp 45) (.tmp 44)), none⟩])
        (.seq
         (.seq
          (.region false [⟨(some 46), (.mv (.tmp 9)), none⟩,
           ⟨(some 47), (.mv (.tmp 10)), none⟩,
           ⟨(some 48), (.mv (.tmp 1)), none⟩,
           ⟨(some 49), (.bslice .ref 3 (.raw (.slice none 0 0)) [(0, (.tmp 46)), (1, (.tmp 47)), (2, (.tmp 48))]), none⟩,
           ⟨(some 50), (.len (.tmp 49)), none⟩,
           ⟨(some 51), (.mv (.const (it 0))), none⟩])
          (.block 0
           (.loop
            (.seq
             (.region false [⟨(some 52), (.bin .lss (.tmp 51) (.tmp 50)), none⟩])
             (.seq
              (.cond (.tmp 52)
               .skip
               (.exit 0))
              (.seq
               (.block 1
                (.seq
                 (.region false [⟨(some 53), (.iaddrs .ref (.tmp 49) (.tmp 51)), none⟩,
                  ⟨(some 54), (.load .ref (.tmp 53)), none⟩,
                  ⟨(some 12), (.mv (.tmp 54)), none⟩])
                 (.seq
                  (.region false [⟨(some 56), (.mv (.tmp 12)), none⟩,
                   ⟨(some 57), (.call 14 [(.tmp 56)]), none⟩,
                   ⟨(some 55), (.mv (.tmp 57)), none⟩,
                   ⟨(some 58), (.ext (.tmp 55) 0), none⟩,
                   ⟨(some 59), (.ext (.tmp 55) 1), none⟩,
                   ⟨(some 13), (.alloc S1 (.agg S1 [(.raw (u8 0#8)), (.raw (u8 0#8)), (.raw (u8 0#8)), (.raw (u8 0#8)), (.raw (u32 0#32)), (.raw (u32 0#32)), (.raw (u32 0#32)), (.raw (u32 0#32)), (.raw (u32 0#32))])), none⟩,
                   ⟨none, (.store S1 (.tmp 13) (.tmp 58)), none⟩,
                   ⟨(some 14), (.mv (.tmp 59)), none⟩])
                  (.seq
                   (.region false [⟨(some 61), (.mv (.tmp 12)), none⟩,
                    ⟨(some 62), (.call 15 [(.tmp 61)]), none⟩,
                    ⟨(some 60), (.mv (.tmp 62)), none⟩,
                    ⟨(some 63), (.ext (.tmp 60) 0), none⟩,
                    ⟨(some 64), (.ext (.tmp 60) 1), none⟩,
                    ⟨(some 15), (.alloc S1 (.agg S1 [(.raw (u8 0#8)), (.raw (u8 0#8)), (.raw (u8 0#8)), (.raw (u8 0#8)), (.raw (u32 0#32)), (.raw (u32 0#32)), (.raw (u32 0#32)), (.raw (u32 0#32)), (.raw (u32 0#32))])), none⟩,
                    ⟨none, (.store S1 (.tmp 15) (.tmp 63)), none⟩,
                    ⟨(some 16), (.mv (.tmp 64)), none⟩])
                   (.seq
                    (.region false [⟨(some 65), (.mv (.tmp 14)), none⟩,
                     ⟨(some 66), (.mv (.tmp 16)), none⟩,
                     ⟨(some 67), (.bin .neq (.tmp 65) (.tmp 66)), none⟩,
                     ⟨(some 68), (.mv (.tmp 67)), none⟩,
                     ⟨(some 69), (.load S1 (.tmp 13)), some (68, false)⟩,
                     ⟨(some 70), (.load S1 (.tmp 15)), some (68, false)⟩,
                     ⟨(some 71), (.eqa S1 true (.tmp 69) (.tmp 70)), some (68, false)⟩,
                     ⟨(some 72), (.pick (.tmp 68) (.const (.bool true)) (.tmp 71)), none⟩,
                     ⟨(some 73), (.mv (.tmp 72)), none⟩,
                     ⟨(some 74), (.mv (.tmp 14)), some (73, false)⟩,
                     ⟨(some 75), (.bin .eql (.tmp 74) (.const (it 0))), some (73, false)⟩,
                     ⟨(some 76), (.mv (.tmp 75)), some (73, false)⟩,
                     ⟨(some 77), (.load S1 (.tmp 13)), some (76, true)⟩,
                     ⟨(some 78), (.call 8 [(.tmp 77)]), some (76, true)⟩,
                     ⟨(some 79), (.mv (.tmp 12)), some (76, true)⟩,
                     ⟨(some 80), (.call 9 [(.tmp 78), (.tmp 79)]), some (76, true)⟩,
                     ⟨(some 81), (.un .not (.tmp 80)), some (76, true)⟩,
                     ⟨(some 82), (.pick (.tmp 76) (.tmp 81) (.const (.bool false))), some (73, false)⟩,
                     ⟨(some 83), (.pick (.tmp 73) (.const (.bool true)) (.tmp 82)), none⟩])
                    (.cond (.tmp 83)
                     (.seq
                      (.region false [⟨(some 8), (.mv (.const (.bool false))), none⟩])
                      .ret)
                     .skip))))))
               (.region false [⟨(some 84), (.bin .add (.tmp 51) (.const (it 1))), none⟩,
                ⟨(some 51), (.mv (.tmp 84)), none⟩])))))))
         (.seq
          (.region false [⟨(some 8), (.mv (.const (.bool true))), none⟩])
          .ret)))))))))
def r_law17_JobForms : List ARes := [(.tmp 8)]
theorem c_law17_JobForms : o2 Go.Proofs.Try.f3.body (comp Go.Proofs.Try.prog Go.Proofs.Try.f3.ntmps) = some a_law17_JobForms := by kernel_rfl
theorem s_law17_JobForms : cRess Go.Proofs.Try.prog Go.Proofs.Try.f3.results.toList = some r_law17_JobForms := by kernel_rfl
theorem m_law17_JobForms (C : Ctx) (hC : CtxOK C Go.Proofs.Try.prog) : Meets C.glob Go.Proofs.Try.prog 3 (afun C 4 r_law17_JobForms a_law17_JobForms) :=
  fn_sound hC Go.Proofs.Try.func3 c_law17_JobForms s_law17_JobForms (Nat.le_of_ble_eq_true (by kernel_rfl))

/-- curtilage/curtilagelaw17.JobRights -/
def a_law17_JobRights : ACode :=
 (.seq
  (.region false [⟨(some 5), (.box S1 (.tmp 0)), none⟩,
   ⟨(some 10), (.mv (.const (.bool false))), none⟩])
  (.seq
   (.seq
    (.region false [⟨(some 13), (.call 6 []), none⟩,
     ⟨(some 14), (.un .not (.tmp 13)), none⟩])
    (.cond (.tmp 14)
     (.seq
      (.region false [⟨(some 10), (.mv (.const (.bool false))), none⟩])
      .ret)
     .skip))
   (.seq
    (.region false [⟨(some 15), (.load S1 (.tmp 5)), none⟩,
     ⟨(some 11), (.alloc S1 (.agg S1 [(.raw (u8 0#8)), (.raw (u8 0#8)), (.raw (u8 0#8)), (.raw (u8 0#8)), (.raw (u32 0#32)), (.raw (u32 0#32)), (.raw (u32 0#32)), (.raw (u32 0#32)), (.raw (u32 0#32))])), none⟩,
     ⟨none, (.store S1 (.tmp 11) (.tmp 15)), none⟩])
    (.seq
     (.region false [⟨(some 16), (.mv (.tmp 1)), none⟩,
      ⟨(some 17), (.mv (.tmp 2)), none⟩,
      ⟨(some 18), (.mv (.tmp 3)), none⟩,
      ⟨(some 19), (.faddr S1 (.tmp 11) 4), none⟩,
      ⟨none, (.store L32 (.tmp 19) (.tmp 16)), none⟩,
      ⟨(some 20), (.faddr S1 (.tmp 11) 5), none⟩,
      ⟨none, (.store L32 (.tmp 20) (.tmp 17)), none⟩,
      ⟨(some 21), (.faddr S1 (.tmp 11) 7), none⟩,
      ⟨none, (.store L32 (.tmp 21) (.tmp 18)), none⟩])
     (.seq
      (.seq
       (.region true [⟨(some 22), (.load S1 (.tmp 5)), none⟩,
        ⟨(some 23), (.call 11 [(.tmp 22)]), none⟩,
        ⟨(some 24), (.load S1 (.tmp 11)), none⟩,
        ⟨(some 25), (.call 11 [(.tmp 24)]), none⟩,
        ⟨(some 26), (.bin .neq (.tmp 23) (.tmp 25)), none⟩])
       (.cond (.tmp 26)
        (.seq
         (.region false [⟨(some 10), (.mv (.const (.bool false))), none⟩])
         .ret)
        .skip))
      (.seq
       (.seq
        (.region false [⟨(some 27), (.load S1 (.tmp 5)), none⟩,
         ⟨(some 28), (.call 11 [(.tmp 27)]), none⟩,
         ⟨(some 29), (.bin .neq (.tmp 28) (.const (it 0))), none⟩])
        (.cond (.tmp 29)
         (.seq
          (.region false [⟨(some 10), (.mv (.const (.bool true))), none⟩])
          .ret)
         .skip))
       (.seq
        (.region false [⟨(some 12), (.mv (.const (it 1))), none⟩])
        (.seq
         (.seq
          (.region false [⟨(some 30), (.mv (.tmp 4)), none⟩,
           ⟨(some 31), (.bin .rem (.tmp 30) (.const (u8 4#8))), none⟩])
          (.block 0
           (.seq
            (.region false [⟨(some 55), (.bin .eql (.tmp 31) (.const (u8 0#8))), none⟩,
             ⟨(some 54), (.mv (.tmp 55)), none⟩])
            (.cond (.tmp 54)
             (.region false [⟨(some 56), (.faddr S1 (.tmp 5) 0), none⟩,
              ⟨(some 57), (.load L8 (.tmp 56)), none⟩,
              ⟨(some 58), (.bin .add (.const (u8 9#8)) (.tmp 57)), none⟩,
              ⟨(some 59), (.faddr S1 (.tmp 11) 0), none⟩,
              ⟨none, (.store L8 (.tmp 59) (.tmp 58)), none⟩])
             (.seq
              (.region false [⟨(some 61), (.bin .eql (.tmp 31) (.const (u8 1#8))), none⟩,
               ⟨(some 60), (.mv (.tmp 61)), none⟩])
              (.cond (.tmp 60)
               (.region false [⟨(some 62), (.faddr S1 (.tmp 5) 6), none⟩,
                ⟨(some 63), (.load L32 (.tmp 62)), none⟩,
                ⟨(some 64), (.bin .add (.const (u32 1025#32)) (.tmp 63)), none⟩,
                ⟨(some 65), (.faddr S1 (.tmp 11) 6), none⟩,
                ⟨none, (.store L32 (.tmp 65) (.tmp 64)), none⟩,
                ⟨(some 12), (.mv (.const (it 4))), none⟩])
               (.seq
                (.region false [⟨(some 67), (.bin .eql (.tmp 31) (.const (u8 2#8))), none⟩,
                 ⟨(some 66), (.mv (.tmp 67)), none⟩])
                (.cond (.tmp 66)
                 (.region false [⟨(some 68), (.faddr S1 (.tmp 5) 8), none⟩,
                  ⟨(some 69), (.load L32 (.tmp 68)), none⟩,
                  ⟨(some 70), (.bin .or (.tmp 69) (.const (u32 2#32))), none⟩,
                  ⟨(some 71), (.faddr S1 (.tmp 11) 8), none⟩,
                  ⟨none, (.store L32 (.tmp 71) (.tmp 70)), none⟩,
                  ⟨(some 12), (.mv (.const (it 10))), none⟩])
                 (.seq
                  (.seq
                   (.region false [⟨(some 32), (.faddr S1 (.tmp 5) 0), none⟩,
                    ⟨(some 33), (.load L8 (.tmp 32)), none⟩,
                    ⟨(some 34), (.bin .neq (.tmp 33) (.const (u8 2#8))), none⟩,
                    ⟨(some 35), (.mv (.tmp 34)), none⟩,
                    ⟨(some 36), (.faddr S1 (.tmp 5) 0), some (35, true)⟩,
                    ⟨(some 37), (.load L8 (.tmp 36)), some (35, true)⟩,
                    ⟨(some 38), (.bin .neq (.tmp 37) (.const (u8 3#8))), some (35, true)⟩,
                    ⟨(some 39), (.pick (.tmp 35) (.tmp 38) (.const (.bool false))), none⟩,
                    ⟨(some 40), (.mv (.tmp 39)), none⟩,
                    ⟨(some 41), (.faddr S1 (.tmp 5) 0), some (40, true)⟩,
                    ⟨(some 42), (.load L8 (.tmp 41)), some (40, true)⟩,
                    ⟨(some 43), (.bin .neq (.tmp 42) (.const (u8 4#8))), some (40, true)⟩,
                    ⟨(some 44), (.pick (.tmp 40) (.tmp 43) (.const (.bool false))), none⟩,
                    ⟨(some 45), (.mv (.tmp 44)), none⟩,
                    ⟨(some 46), (.faddr S1 (.tmp 5) 0), some (45, true)⟩,
                    ⟨(some 47), (.load L8 (.tmp 46)), some (45, true)⟩,
                    ⟨(some 48), (.bin .neq (.tmp 47) (.const (u8 6#8))), some (45, true)⟩,
                    ⟨(some 49), (.pick (.tmp 45) (.tmp 48) (.const (.bool false))), none⟩])
                   (.cond (.tmp 49)
                    (.seq
                     (.region false [⟨(some 10), (.mv (.const (.bool true))), none⟩])
                     .ret)
                    .skip))
                  (.region false [⟨(some 50), (.faddr S1 (.tmp 5) 1), none⟩,
                   ⟨(some 51), (.load L8 (.tmp 50)), none⟩,
                   ⟨(some 52), (.bin .add (.const (u8 8#8)) (.tmp 51)), none⟩,
                   ⟨(some 53), (.faddr S1 (.tmp 11) 1), none⟩,
                   ⟨none, (.store L8 (.tmp 53) (.tmp 52)), none⟩]))))))))))
         (.seq
          (.region false [⟨(some 72), (.load S1 (.tmp 11)), none⟩,
           ⟨(some 73), (.call 11 [(.tmp 72)]), none⟩,
           ⟨(some 74), (.mv (.tmp 12)), none⟩,
           ⟨(some 75), (.bin .eql (.tmp 73) (.tmp 74)), none⟩,
           ⟨(some 10), (.mv (.tmp 75)), none⟩])
          .ret)))))))))
def r_law17_JobRights : List ARes := [(.tmp 10)]
theorem c_law17_JobRights : o2 Go.Proofs.Try.f4.body (comp Go.Proofs.Try.prog Go.Proofs.Try.f4.ntmps) = some a_law17_JobRights := by kernel_rfl
theorem s_law17_JobRights : cRess Go.Proofs.Try.prog Go.Proofs.Try.f4.results.toList = some r_law17_JobRights := by kernel_rfl
theorem m_law17_JobRights (C : Ctx) (hC : CtxOK C Go.Proofs.Try.prog) : Meets C.glob Go.Proofs.Try.prog 4 (afun C 5 r_law17_JobRights a_law17_JobRights) :=
  fn_sound hC Go.Proofs.Try.func4 c_law17_JobRights s_law17_JobRights (Nat.le_of_ble_eq_true (by kernel_rfl))

/-- curtilage/curtilagelaw17.JobChains -/
def a_law17_JobChains : ACode :=
 (.seq
  (.region false [⟨(some 4), (.mv (.const (.bool false))), none⟩])
  (.seq
   (.seq
    (.region false [⟨(some 9), (.call 6 []), none⟩,
     ⟨(some 10), (.un .not (.tmp 9)), none⟩])
    (.cond (.tmp 10)
     (.seq
      (.region false [⟨(some 4), (.mv (.const (.bool false))), none⟩])
      .ret)
     .skip))
   (.seq
    (.region false [⟨(some 11), (.mv (.tmp 1)), none⟩,
     ⟨(some 12), (.mv (.tmp 1)), none⟩,
     ⟨(some 13), (.len (.tmp 12)), none⟩,
     ⟨(some 14), (.minmax false [(.tmp 13), (.const (it 20))]), none⟩,
     ⟨(some 15), (.slice S1 (.tmp 11) none (some (.tmp 14)) none), none⟩,
     ⟨(some 1), (.mv (.tmp 15)), none⟩])
    (.seq
     (.region false [⟨(some 16), (.mv (.tmp 0)), none⟩,
      ⟨(some 17), (.mv (.tmp 1)), none⟩,
      ⟨(some 18), (.call 16 [(.tmp 16), (.tmp 17)]), none⟩,
      ⟨(some 5), (.mv (.tmp 18)), none⟩])
     (.seq
      (.seq
       (.region false [⟨(some 19), (.mv (.tmp 5)), none⟩,
        ⟨(some 20), (.len (.tmp 19)), none⟩,
        ⟨(some 21), (.mv (.tmp 1)), none⟩,
        ⟨(some 22), (.len (.tmp 21)), none⟩,
        ⟨(some 23), (.bin .mul (.const (it 32)) (.tmp 22)), none⟩,
        ⟨(some 24), (.bin .neq (.tmp 20) (.tmp 23)), none⟩])
       (.cond (.tmp 24)
        (.seq
         (.region false [⟨(some 4), (.mv (.const (.bool false))), none⟩])
         .ret)
        .skip))
      (.seq
       (.seq
        (.region false [⟨(some 25), (.mv (.tmp 1)), none⟩,
         ⟨(some 26), (.len (.tmp 25)), none⟩,
         ⟨(some 27), (.mv (.const (it 0))), none⟩])
        (.block 0
         (.loop
          (.seq
           (.region false [⟨(some 28), (.bin .lss (.tmp 27) (.tmp 26)), none⟩])
           (.seq
            (.cond (.tmp 28)
             .skip
             (.exit 0))
            (.seq
             (.block 1
              (.seq
               (.region false [⟨(some 29), (.mv (.tmp 27)), none⟩,
                ⟨(some 30), (.iaddrs S1 (.tmp 25) (.tmp 27)), none⟩,
                ⟨(some 31), (.load S1 (.tmp 30)), none⟩,
                ⟨(some 7), (.alloc S1 (.agg S1 [(.raw (u8 0#8)), (.raw (u8 0#8)), (.raw (u8 0#8)), (.raw (u8 0#8)), (.raw (u32 0#32)), (.raw (u32 0#32)), (.raw (u32 0#32)), (.raw (u32 0#32)), (.raw (u32 0#32))])), none⟩,
                ⟨(some 6), (.mv (.tmp 29)), none⟩,
                ⟨none, (.store S1 (.tmp 7) (.tmp 31)), none⟩])
               (.seq
                (.region false [⟨(some 32), (.load S1 (.tmp 7)), none⟩,
                 ⟨(some 8), (.alloc S1 (.agg S1 [(.raw (u8 0#8)), (.raw (u8 0#8)), (.raw (u8 0#8)), (.raw (u8 0#8)), (.raw (u32 0#32)), (.raw (u32 0#32)), (.raw (u32 0#32)), (.raw (u32 0#32)), (.raw (u32 0#32))])), none⟩,
                 ⟨none, (.store S1 (.tmp 8) (.tmp 32)), none⟩])
                (.seq
                 (.region false [⟨(some 33), (.mv (.tmp 0)), none⟩,
                  ⟨(some 34), (.mv (.tmp 6)), none⟩,
                  ⟨(some 35), (.bin .mul (.const (it 32)) (.tmp 34)), none⟩,
                  ⟨(some 36), (.bin .add (.tmp 35) (.const (it 32))), none⟩,
                  ⟨(some 37), (.conv .u32 (.tmp 36)), none⟩,
                  ⟨(some 38), (.bin .add (.tmp 33) (.tmp 37)), none⟩,
                  ⟨(some 39), (.faddr S1 (.tmp 8) 8), none⟩,
                  ⟨none, (.store L32 (.tmp 39) (.tmp 38)), none⟩])
                 (.seq
                  (.seq
                   (.region false [⟨(some 40), (.mv (.tmp 6)), none⟩,
                    ⟨(some 41), (.mv (.tmp 1)), none⟩,
                    ⟨(some 42), (.len (.tmp 41)), none⟩,
                    ⟨(some 43), (.bin .sub (.tmp 42) (.const (it 1))), none⟩,
                    ⟨(some 44), (.bin .eql (.tmp 40) (.tmp 43)), none⟩])
                   (.cond (.tmp 44)
                    (.region false [⟨(some 45), (.faddr S1 (.tmp 8) 8), none⟩,
                     ⟨none, (.store L32 (.tmp 45) (.const (u32 0#32))), none⟩])
                    .skip))
                  (.seq
                   (.region true [⟨(some 46), (.mv (.tmp 5)), none⟩,
                    ⟨(some 47), (.mv (.tmp 6)), none⟩,
                    ⟨(some 48), (.bin .mul (.const (it 32)) (.tmp 47)), none⟩,
                    ⟨(some 49), (.mv (.tmp 6)), none⟩,
                    ⟨(some 50), (.bin .mul (.const (it 32)) (.tmp 49)), none⟩,
                    ⟨(some 51), (.bin .add (.tmp 50) (.const (it 32))), none⟩,
                    ⟨(some 52), (.slice L8 (.tmp 46) (some (.tmp 48)) (some (.tmp 51)) none), none⟩,
                    ⟨(some 53), (.load S1 (.tmp 8)), none⟩,
                    ⟨(some 54), (.call 10 [(.tmp 53)]), none⟩,
                    ⟨(some 55), (.call 9 [(.tmp 52), (.tmp 54)]), none⟩,
                    ⟨(some 56), (.un .not (.tmp 55)), none⟩])
                   (.cond (.tmp 56)
                    (.seq
                     (.region false [⟨(some 4), (.mv (.const (.bool false))), none⟩])
                     .ret)
                    .skip)))))))
             (.region false [⟨(some 57), (.bin .add (.tmp 27) (.const (it 1))), none⟩,
              ⟨(some 27), (.mv (.tmp 57)), none⟩])))))))
       (.seq
        (.region false [⟨(some 4), (.mv (.const (.bool true))), none⟩])
        .ret)))))))
def r_law17_JobChains : List ARes := [(.tmp 4)]
theorem c_law17_JobChains : o2 Go.Proofs.Try.f5.body (comp Go.Proofs.Try.prog Go.Proofs.Try.f5.ntmps) = some a_law17_JobChains := by kernel_rfl
theorem s_law17_JobChains : cRess Go.Proofs.Try.prog Go.Proofs.Try.f5.results.toList = some r_law17_JobChains := by kernel_rfl
theorem m_law17_JobChains (C : Ctx) (hC : CtxOK C Go.Proofs.Try.prog) : Meets C.glob Go.Proofs.Try.prog 5 (afun C 2 r_law17_JobChains a_law17_JobChains) :=
  fn_sound hC Go.Proofs.Try.func5 c_law17_JobChains s_law17_JobChains (Nat.le_of_ble_eq_true (by kernel_rfl))

/-- curtilage/curtilagelaw17.awake -/
def a_law17_awake : ACode :=
 (.seq
  (.region false [⟨(some 0), (.mv (.const (.bool false))), none⟩])
  (.seq
   (.region false [⟨(some 4), (.build S1 [(.raw (u8 0#8)), (.raw (u8 0#8)), (.raw (u8 0#8)), (.raw (u8 0#8)), (.raw (u32 0#32)), (.raw (u32 0#32)), (.raw (u32 0#32)), (.raw (u32 0#32)), (.raw (u32 0#32))] [(0, (.const (u8 1#8))), (4, (.const (u32 536875008#32))), (5, (.const (u32 536875264#32))), (6, (.const (u32 5#32)))]), none⟩,
    ⟨(some 5), (.call 8 [(.tmp 4)]), none⟩,
    ⟨(some 1), (.mv (.tmp 5)), none⟩])
   (.seq
    (.region false [⟨(some 7), (.mv (.tmp 1)), none⟩,
     ⟨(some 8), (.call 14 [(.tmp 7)]), none⟩,
     ⟨(some 6), (.mv (.tmp 8)), none⟩,
     ⟨(some 9), (.ext (.tmp 6) 0), none⟩,
     ⟨(some 10), (.ext (.tmp 6) 1), none⟩,
     ⟨(some 2), (.alloc S1 (.agg S1 [(.raw (u8 0#8)), (.raw (u8 0#8)), (.raw (u8 0#8)), (.raw (u8 0#8)), (.raw (u32 0#32)), (.raw (u32 0#32)), (.raw (u32 0#32)), (.raw (u32 0#32)), (.raw (u32 0#32))])), none⟩,
     ⟨none, (.store S1 (.tmp 2) (.tmp 9)), none⟩,
     ⟨(some 3), (.mv (.tmp 10)), none⟩])
    (.seq
     (.region false [⟨(some 11), (.mv (.tmp 3)), none⟩,
      ⟨(some 12), (.bin .eql (.tmp 11) (.const (it 0))), none⟩,
      ⟨(some 13), (.mv (.tmp 12)), none⟩,
      ⟨(some 14), (.faddr S1 (.tmp 2) 6), some (13, true)⟩,
      ⟨(some 15), (.load L32 (.tmp 14)), some (13, true)⟩,
      ⟨(some 16), (.bin .eql (.tmp 15) (.const (u32 5#32))), some (13, true)⟩,
      ⟨(some 17), (.pick (.tmp 13) (.tmp 16) (.const (.bool false))), none⟩,
      ⟨(some 18), (.mv (.tmp 17)), none⟩,
      ⟨(some 19), (.mv (.tmp 1)), some (18, true)⟩,
      ⟨(some 20), (.len (.tmp 19)), some (18, true)⟩,
      ⟨(some 21), (.bin .eql (.tmp 20) (.const (it 32))), some (18, true)⟩,
      ⟨(some 22), (.pick (.tmp 18) (.tmp 21) (.const (.bool false))), none⟩,
      ⟨(some 23), (.mv (.tmp 22)), none⟩,
      ⟨(some 24), (.mv (.tmp 1)), some (23, true)⟩,
      ⟨(some 25), (.slice L8 (.tmp 24) none (some (.const (it 16))) none), some (23, true)⟩,
      ⟨(some 26), (.call 17 [(.tmp 25)]), some (23, true)⟩,
      ⟨(some 27), (.bin .eql (.tmp 26) (.const (.string ⟨#[48, 49, 48, 48, 48, 48, 48, 48, 50, 48, 48, 48, 49, 48, 48, 48, 50, 48, 48, 48, 49, 49, 48, 48, 48, 48, 48, 48, 48, 48, 48, 53]⟩))), some (23, true)⟩,
      ⟨(some 28), (.pick (.tmp 23) (.tmp 27) (.const (.bool false))), none⟩,
      ⟨(some 0), (.mv (.tmp 28)), none⟩])
     .ret))))
def r_law17_awake : List ARes := [(.tmp 0)]
theorem c_law17_awake : o2 Go.Proofs.Try.f6.body (comp Go.Proofs.Try.prog Go.Proofs.Try.f6.ntmps) = some a_law17_awake := by kernel_rfl
theorem s_law17_awake : cRess Go.Proofs.Try.prog Go.Proofs.Try.f6.results.toList = some r_law17_awake := by kernel_rfl
theorem m_law17_awake (C : Ctx) (hC : CtxOK C Go.Proofs.Try.prog) : Meets C.glob Go.Proofs.Try.prog 6 (afun C 0 r_law17_awake a_law17_awake) :=
  fn_sound hC Go.Proofs.Try.func6 c_law17_awake s_law17_awake (Nat.le_of_ble_eq_true (by kernel_rfl))

/-- curtilage/curtilageref01.Cut -/
def a_ref01_Cut : ACode :=
 (.seq
  (.region false [⟨(some 4), (.mv (.const (.slice none 0 0))), none⟩])
  (.seq
   (.region false [⟨(some 5), (.mv (.const (.slice none 0 0))), none⟩])
   (.seq
    (.seq
     (.region false [⟨(some 8), (.mv (.tmp 0)), none⟩,
      ⟨(some 9), (.len (.tmp 8)), none⟩,
      ⟨(some 10), (.mv (.const (it 0))), none⟩])
     (.block 0
      (.loop
       (.seq
        (.region false [⟨(some 11), (.bin .lss (.tmp 10) (.tmp 9)), none⟩])
        (.seq
         (.cond (.tmp 11)
          .skip
          (.exit 0))
         (.seq
          (.block 1
           (.seq
            (.region false [⟨(some 12), (.mv (.tmp 10)), none⟩,
             ⟨(some 13), (.iaddrs L8 (.tmp 8) (.tmp 10)), none⟩,
             ⟨(some 14), (.load L8 (.tmp 13)), none⟩,
             ⟨(some 6), (.mv (.tmp 12)), none⟩,
             ⟨(some 7), (.mv (.tmp 14)), none⟩])
            (.seq
             (.region false [⟨(some 15), (.mv (.tmp 6)), none⟩,
              ⟨(some 16), (.mv (.tmp 1)), none⟩,
              ⟨(some 17), (.bin .lss (.tmp 15) (.tmp 16)), none⟩])
             (.cond (.tmp 17)
              (.region false [⟨(some 18), (.mv (.tmp 5)), none⟩,
               ⟨(some 19), (.mv (.tmp 7)), none⟩,
               ⟨(some 20), (.bslice L8 1 (.raw (u8 0#8)) [(0, (.tmp 19))]), none⟩,
               ⟨(some 21), (.append L8 1 (.tmp 18) (.tmp 20)), none⟩,
               ⟨(some 5), (.mv (.tmp 21)), none⟩])
              .skip))))
          (.region false [⟨(some 22), (.bin .add (.tmp 10) (.const (it 1))), none⟩,
           ⟨(some 10), (.mv (.tmp 22)), none⟩])))))))
    (.seq
     (.region false [⟨(some 23), (.mv (.tmp 5)), none⟩,
      ⟨(some 4), (.mv (.tmp 23)), none⟩])
     .ret))))
def r_ref01_Cut : List ARes := [(.tmp 4)]
theorem c_ref01_Cut : o2 Go.Proofs.Try.f7.body (comp Go.Proofs.Try.prog Go.Proofs.Try.f7.ntmps) = some a_ref01_Cut := by kernel_rfl
theorem s_ref01_Cut : cRess Go.Proofs.Try.prog Go.Proofs.Try.f7.results.toList = some r_ref01_Cut := by kernel_rfl
theorem m_ref01_Cut (C : Ctx) (hC : CtxOK C Go.Proofs.Try.prog) : Meets C.glob Go.Proofs.Try.prog 7 (afun C 2 r_ref01_Cut a_ref01_Cut) :=
  fn_sound hC Go.Proofs.Try.func7 c_ref01_Cut s_ref01_Cut (Nat.le_of_ble_eq_true (by kernel_rfl))

/-- (curtilage/job.Job).Bytes -/
def a_job_Job_Bytes : ACode :=
 (.seq
  (.region false [⟨(some 1), (.box S1 (.tmp 0)), none⟩,
   ⟨(some 2), (.mv (.const (.slice none 0 0))), none⟩])
  (.seq
   (.region false [⟨(some 6), (.faddr S1 (.tmp 1) 0), none⟩,
    ⟨(some 7), (.load L8 (.tmp 6)), none⟩,
    ⟨(some 8), (.faddr S1 (.tmp 1) 1), none⟩,
    ⟨(some 9), (.load L8 (.tmp 8)), none⟩,
    ⟨(some 10), (.faddr S1 (.tmp 1) 2), none⟩,
    ⟨(some 11), (.load L8 (.tmp 10)), none⟩,
    ⟨(some 12), (.faddr S1 (.tmp 1) 3), none⟩,
    ⟨(some 13), (.load L8 (.tmp 12)), none⟩,
    ⟨(some 14), (.bslice L8 4 (.raw (u8 0#8)) [(0, (.tmp 7)), (1, (.tmp 9)), (2, (.tmp 11)), (3, (.tmp 13))]), none⟩,
    ⟨(some 3), (.mv (.tmp 14)), none⟩])
   (.seq
    (.seq
     (.region false [⟨(some 15), (.faddr S1 (.tmp 1) 4), none⟩,
      ⟨(some 16), (.load L32 (.tmp 15)), none⟩,
      ⟨(some 17), (.faddr S1 (.tmp 1) 5), none⟩,
      ⟨(some 18), (.load L32 (.tmp 17)), none⟩,
      ⟨(some 19), (.faddr S1 (.tmp 1) 6), none⟩,
      ⟨(some 20), (.load L32 (.tmp 19)), none⟩,
      ⟨(some 21), (.faddr S1 (.tmp 1) 7), none⟩,
      ⟨(some 22), (.load L32 (.tmp 21)), none⟩,
      ⟨(some 23), (.faddr S1 (.tmp 1) 8), none⟩,
      ⟨(some 24), (.load L32 (.tmp 23)), none⟩,
      ⟨(some 25), (.bslice L32 7 (.raw (u32 0#32)) [(0, (.tmp 16)), (1, (.tmp 18)), (2, (.tmp 20)), (3, (.tmp 22)), (4, (.const (u32 0#32))), (5, (.const (u32 0#32))), (6, (.tmp 24))]), none⟩,
      ⟨(some 26), (.len (.tmp 25)), none⟩,
      ⟨(some 27), (.mv (.const (it 0))), none⟩])
     (.block 0
      (.loop
       (.seq
        (.region false [⟨(some 28), (.bin .lss (.tmp 27) (.tmp 26)), none⟩])
        (.seq
         (.cond (.tmp 28)
          .skip
          (.exit 0))
         (.seq
          (.block 1
           (.seq
            (.region false [⟨(some 29), (.iaddrs L32 (.tmp 25) (.tmp 27)), none⟩,
             ⟨(some 30), (.load L32 (.tmp 29)), none⟩,
             ⟨(some 5), (.mv (.tmp 30)), none⟩])
            (.region false [⟨(some 31), (.mv (.tmp 3)), none⟩,
             ⟨(some 32), (.mv (.tmp 5)), none⟩,
             ⟨(some 33), (.call 18 [(.tmp 32)]), none⟩,
             ⟨(some 34), (.append L8 1 (.tmp 31) (.tmp 33)), none⟩,
             ⟨(some 3), (.mv (.tmp 34)), none⟩])))
          (.region false [⟨(some 35), (.bin .add (.tmp 27) (.const (it 1))), none⟩,
           ⟨(some 27), (.mv (.tmp 35)), none⟩])))))))
    (.seq
     (.region false [⟨(some 36), (.mv (.tmp 3)), none⟩,
      ⟨(some 2), (.mv (.tmp 36)), none⟩])
     .ret))))
def r_job_Job_Bytes : List ARes := [(.tmp 2)]
theorem c_job_Job_Bytes : o2 Go.Proofs.Try.f8.body (comp Go.Proofs.Try.prog Go.Proofs.Try.f8.ntmps) = some a_job_Job_Bytes := by kernel_rfl
theorem s_job_Job_Bytes : cRess Go.Proofs.Try.prog Go.Proofs.Try.f8.results.toList = some r_job_Job_Bytes := by kernel_rfl
theorem m_job_Job_Bytes (C : Ctx) (hC : CtxOK C Go.Proofs.Try.prog) : Meets C.glob Go.Proofs.Try.prog 8 (afun C 1 r_job_Job_Bytes a_job_Job_Bytes) :=
  fn_sound hC Go.Proofs.Try.func8 c_job_Job_Bytes s_job_Job_Bytes (Nat.le_of_ble_eq_true (by kernel_rfl))

/-- curtilage/curtilageref01.Same -/
def a_ref01_Same : ACode :=
 (.seq
  (.region false [⟨(some 4), (.mv (.const (.bool false))), none⟩])
  (.seq
   (.seq
    (.region false [⟨(some 6), (.mv (.tmp 0)), none⟩,
     ⟨(some 7), (.len (.tmp 6)), none⟩,
     ⟨(some 8), (.mv (.tmp 1)), none⟩,
     ⟨(some 9), (.len (.tmp 8)), none⟩,
     ⟨(some 10), (.bin .neq (.tmp 7) (.tmp 9)), none⟩])
    (.cond (.tmp 10)
     (.seq
      (.region false [⟨(some 4), (.mv (.const (.bool false))), none⟩])
      .ret)
     .skip))
   (.seq
    (.seq
     (.region false [⟨(some 11), (.mv (.tmp 0)), none⟩,
      ⟨(some 12), (.len (.tmp 11)), none⟩,
      ⟨(some 13), (.mv (.const (it 0))), none⟩])
     (.block 0
      (.loop
       (.seq
        (.region false [⟨(some 14), (.bin .lss (.tmp 13) (.tmp 12)), none⟩])
        (.seq
         (.cond (.tmp 14)
          .skip
          (.exit 0))
         (.seq
          (.block 1
           (.seq
            (.region false [⟨(some 15), (.mv (.tmp 13)), none⟩,
             ⟨(some 5), (.mv (.tmp 15)), none⟩])
            (.seq
             (.region true [⟨(some 16), (.mv (.tmp 0)), none⟩,
              ⟨(some 17), (.mv (.tmp 5)), none⟩,
              ⟨(some 18), (.iaddrs L8 (.tmp 16) (.tmp 17)), none⟩,
              ⟨(some 19), (.load L8 (.tmp 18)), none⟩,
              ⟨(some 20), (.mv (.tmp 1)), none⟩,
              ⟨(some 21), (.mv (.tmp 5)), none⟩,
              ⟨(some 22), (.iaddrs L8 (.tmp 20) (.tmp 21)), none⟩,
              ⟨(some 23), (.load L8 (.tmp 22)), none⟩,
              ⟨(some 24), (.bin .neq (.tmp 19) (.tmp 23)), none⟩])
             (.cond (.tmp 24)
              (.seq
               (.region false [⟨(some 4), (.mv (.const (.bool false))), none⟩])
               .ret)
              .skip))))
          (.region false [⟨(some 25), (.bin .add (.tmp 13) (.const (it 1))), none⟩,
           ⟨(some 13), (.mv (.tmp 25)), none⟩])))))))
    (.seq
     (.region false [⟨(some 4), (.mv (.const (.bool true))), none⟩])
     .ret))))
def r_ref01_Same : List ARes := [(.tmp 4)]
theorem c_ref01_Same : o2 Go.Proofs.Try.f9.body (comp Go.Proofs.Try.prog Go.Proofs.Try.f9.ntmps) = some a_ref01_Same := by kernel_rfl
theorem s_ref01_Same : cRess Go.Proofs.Try.prog Go.Proofs.Try.f9.results.toList = some r_ref01_Same := by kernel_rfl
theorem m_ref01_Same (C : Ctx) (hC : CtxOK C Go.Proofs.Try.prog) : Meets C.glob Go.Proofs.Try.prog 9 (afun C 2 r_ref01_Same a_ref01_Same) :=
  fn_sound hC Go.Proofs.Try.func9 c_ref01_Same s_ref01_Same (Nat.le_of_ble_eq_true (by kernel_rfl))

/-- curtilage/curtilageref17.Bytes -/
def a_ref17_Bytes : ACode :=
 (.seq
  (.region false [⟨(some 1), (.box S1 (.tmp 0)), none⟩,
   ⟨(some 2), (.mv (.const (.slice none 0 0))), none⟩])
  (.seq
   (.region false [⟨(some 6), (.faddr S1 (.tmp 1) 0), none⟩,
    ⟨(some 7), (.load L8 (.tmp 6)), none⟩,
    ⟨(some 8), (.faddr S1 (.tmp 1) 1), none⟩,
    ⟨(some 9), (.load L8 (.tmp 8)), none⟩,
    ⟨(some 10), (.faddr S1 (.tmp 1) 2), none⟩,
    ⟨(some 11), (.load L8 (.tmp 10)), none⟩,
    ⟨(some 12), (.faddr S1 (.tmp 1) 3), none⟩,
    ⟨(some 13), (.load L8 (.tmp 12)), none⟩,
    ⟨(some 14), (.bslice L8 4 (.raw (u8 0#8)) [(0, (.tmp 7)), (1, (.tmp 9)), (2, (.tmp 11)), (3, (.tmp 13))]), none⟩,
    ⟨(some 3), (.mv (.tmp 14)), none⟩])
   (.seq
    (.seq
     (.region false [⟨(some 15), (.faddr S1 (.tmp 1) 4), none⟩,
      ⟨(some 16), (.load L32 (.tmp 15)), none⟩,
      ⟨(some 17), (.faddr S1 (.tmp 1) 5), none⟩,
      ⟨(some 18), (.load L32 (.tmp 17)), none⟩,
      ⟨(some 19), (.faddr S1 (.tmp 1) 6), none⟩,
      ⟨(some 20), (.load L32 (.tmp 19)), none⟩,
      ⟨(some 21), (.faddr S1 (.tmp 1) 7), none⟩,
      ⟨(some 22), (.load L32 (.tmp 21)), none⟩,
      ⟨(some 23), (.faddr S1 (.tmp 1) 8), none⟩,
      ⟨(some 24), (.load L32 (.tmp 23)), none⟩,
      ⟨(some 25), (.bslice L32 7 (.raw (u32 0#32)) [(0, (.tmp 16)), (1, (.tmp 18)), (2, (.tmp 20)), (3, (.tmp 22)), (4, (.const (u32 0#32))), (5, (.const (u32 0#32))), (6, (.tmp 24))]), none⟩,
      ⟨(some 26), (.len (.tmp 25)), none⟩,
      ⟨(some 27), (.mv (.const (it 0))), none⟩])
     (.block 0
      (.loop
       (.seq
        (.region false [⟨(some 28), (.bin .lss (.tmp 27) (.tmp 26)), none⟩])
        (.seq
         (.cond (.tmp 28)
          .skip
          (.exit 0))
         (.seq
          (.block 1
           (.seq
            (.region false [⟨(some 29), (.iaddrs L32 (.tmp 25) (.tmp 27)), none⟩,
             ⟨(some 30), (.load L32 (.tmp 29)), none⟩,
             ⟨(some 5), (.mv (.tmp 30)), none⟩])
            (.region false [⟨(some 31), (.mv (.tmp 3)), none⟩,
             ⟨(some 32), (.mv (.tmp 5)), none⟩,
             ⟨(some 33), (.conv .u64 (.tmp 32)), none⟩,
             ⟨(some 34), (.call 19 [(.tmp 33), (.const (it 4))]), none⟩,
             ⟨(some 35), (.append L8 1 (.tmp 31) (.tmp 34)), none⟩,
             ⟨(some 3), (.mv (.tmp 35)), none⟩])))
          (.region false [⟨(some 36), (.bin .add (.tmp 27) (.const (it 1))), none⟩,
           ⟨(some 27), (.mv (.tmp 36)), none⟩])))))))
    (.seq
     (.region false [⟨(some 37), (.mv (.tmp 3)), none⟩,
      ⟨(some 2), (.mv (.tmp 37)), none⟩])
     .ret))))
def r_ref17_Bytes : List ARes := [(.tmp 2)]
theorem c_ref17_Bytes : o2 Go.Proofs.Try.f10.body (comp Go.Proofs.Try.prog Go.Proofs.Try.f10.ntmps) = some a_ref17_Bytes := by kernel_rfl
theorem s_ref17_Bytes : cRess Go.Proofs.Try.prog Go.Proofs.Try.f10.results.toList = some r_ref17_Bytes := by kernel_rfl
theorem m_ref17_Bytes (C : Ctx) (hC : CtxOK C Go.Proofs.Try.prog) : Meets C.glob Go.Proofs.Try.prog 10 (afun C 1 r_ref17_Bytes a_ref17_Bytes) :=
  fn_sound hC Go.Proofs.Try.func10 c_ref17_Bytes s_ref17_Bytes (Nat.le_of_ble_eq_true (by kernel_rfl))

/-- (curtilage/job.Job).Right -/
def a_job_Job_Right : ACode :=
 (.seq
  (.region false [⟨(some 1), (.box S1 (.tmp 0)), none⟩,
   ⟨(some 2), (.mv (.const (it 0))), none⟩])
  (.seq
   (.region false [⟨(some 6), (.load S1 (.tmp 1)), none⟩,
    ⟨(some 7), (.call 20 [(.tmp 6)]), none⟩,
    ⟨(some 5), (.mv (.tmp 7)), none⟩,
    ⟨(some 8), (.ext (.tmp 5) 0), none⟩,
    ⟨(some 9), (.ext (.tmp 5) 1), none⟩,
    ⟨(some 3), (.mv (.tmp 8)), none⟩,
    ⟨(some 4), (.mv (.tmp 9)), none⟩])
   (.seq
    (.block 0
     (.seq
      (.region false [⟨(some 11), (.faddr S1 (.tmp 1) 0), none⟩,
       ⟨(some 12), (.load L8 (.tmp 11)), none⟩,
       ⟨(some 13), (.bin .lss (.tmp 12) (.const (u8 1#8))), none⟩,
       ⟨(some 14), (.mv (.tmp 13)), none⟩,
       ⟨(some 15), (.faddr S1 (.tmp 1) 0), some (14, false)⟩,
       ⟨(some 16), (.load L8 (.tmp 15)), some (14, false)⟩,
       ⟨(some 17), (.bin .gtr (.tmp 16) (.const (u8 8#8))), some (14, false)⟩,
       ⟨(some 18), (.pick (.tmp 14) (.const (.bool true)) (.tmp 17)), none⟩,
       ⟨(some 10), (.mv (.tmp 18)), none⟩])
      (.cond (.tmp 10)
       (.seq
        (.region false [⟨(some 2), (.mv (.const (it 1))), none⟩])
        .ret)
       (.seq
        (.region false [⟨(some 20), (.faddr S1 (.tmp 1) 6), none⟩,
         ⟨(some 21), (.load L32 (.tmp 20)), none⟩,
         ⟨(some 22), (.bin .gtr (.tmp 21) (.const (u32 1024#32))), none⟩,
         ⟨(some 19), (.mv (.tmp 22)), none⟩])
        (.cond (.tmp 19)
         (.seq
          (.region false [⟨(some 2), (.mv (.const (it 4))), none⟩])
          .ret)
         (.seq
          (.seq
           (.region false [⟨(some 24), (.load S1 (.tmp 1)), none⟩,
            ⟨(some 25), (.call 21 [(.tmp 24)]), none⟩,
            ⟨(some 26), (.mv (.tmp 25)), none⟩,
            ⟨(some 27), (.faddr S1 (.tmp 1) 1), some (26, true)⟩,
            ⟨(some 28), (.load L8 (.tmp 27)), some (26, true)⟩,
            ⟨(some 29), (.bin .geq (.tmp 28) (.const (u8 8#8))), some (26, true)⟩,
            ⟨(some 30), (.pick (.tmp 26) (.tmp 29) (.const (.bool false))), none⟩,
            ⟨(some 23), (.mv (.tmp 30)), none⟩])
           (.cond (.tmp 23)
            .skip
            (.seq
             (.region false [⟨(some 31), (.faddr S1 (.tmp 1) 0), none⟩,
              ⟨(some 32), (.load L8 (.tmp 31)), none⟩,
              ⟨(some 33), (.bin .eql (.tmp 32) (.const (u8 4#8))), none⟩,
              ⟨(some 34), (.mv (.tmp 33)), none⟩,
              ⟨(some 35), (.faddr S1 (.tmp 1) 2), some (34, true)⟩,
              ⟨(some 36), (.load L8 (.tmp 35)), some (34, true)⟩,
              ⟨(some 37), (.bin .geq (.tmp 36) (.const (u8 8#8))), some (34, true)⟩,
              ⟨(some 38), (.pick (.tmp 34) (.tmp 37) (.const (.bool false))), none⟩,
              ⟨(some 23), (.mv (.tmp 38)), none⟩])
             (.cond (.tmp 23)
              .skip
              (.region false [⟨(some 39), (.faddr S1 (.tmp 1) 0), none⟩,
               ⟨(some 40), (.load L8 (.tmp 39)), none⟩,
               ⟨(some 41), (.bin .eql (.tmp 40) (.const (u8 5#8))), none⟩,
               ⟨(some 42), (.mv (.tmp 41)), none⟩,
               ⟨(some 43), (.faddr S1 (.tmp 1) 2), some (42, true)⟩,
               ⟨(some 44), (.load L8 (.tmp 43)), some (42, true)⟩,
               ⟨(some 45), (.bin .geq (.tmp 44) (.const (u8 4#8))), some (42, true)⟩,
               ⟨(some 46), (.pick (.tmp 42) (.tmp 45) (.const (.bool false))), none⟩,
               ⟨(some 23), (.mv (.tmp 46)), none⟩])))))
          (.cond (.tmp 23)
           (.seq
            (.region false [⟨(some 2), (.mv (.const (it 1))), none⟩])
            .ret)
           (.seq
            (.region false [⟨(some 48), (.faddr S1 (.tmp 1) 0), none⟩,
             ⟨(some 49), (.load L8 (.tmp 48)), none⟩,
             ⟨(some 50), (.bin .eql (.tmp 49) (.const (u8 3#8))), none⟩,
             ⟨(some 51), (.mv (.tmp 50)), none⟩,
             ⟨(some 52), (.faddr S1 (.tmp 1) 3), some (51, true)⟩,
             ⟨(some 53), (.load L8 (.tmp 52)), some (51, true)⟩,
             ⟨(some 54), (.bin .gtr (.tmp 53) (.const (u8 7#8))), some (51, true)⟩,
             ⟨(some 55), (.mv (.tmp 54)), some (51, true)⟩,
             ⟨(some 56), (.mv (.tmp 3)), some (55, false)⟩,
             ⟨(some 57), (.bin .eql (.tmp 56) (.const (it 3))), some (55, false)⟩,
             ⟨(some 58), (.pick (.tmp 55) (.const (.bool true)) (.tmp 57)), some (51, true)⟩,
             ⟨(some 59), (.mv (.tmp 58)), some (51, true)⟩,
             ⟨(some 60), (.faddr S1 (.tmp 1) 6), some (59, false)⟩,
             ⟨(some 61), (.load L32 (.tmp 60)), some (59, false)⟩,
             ⟨(some 62), (.bin .rem (.tmp 61) (.const (u32 16#32))), some (59, false)⟩,
             ⟨(some 63), (.bin .neq (.tmp 62) (.const (u32 0#32))), some (59, false)⟩,
             ⟨(some 64), (.pick (.tmp 59) (.const (.bool true)) (.tmp 63)), some (51, true)⟩,
             ⟨(some 65), (.pick (.tmp 51) (.tmp 64) (.const (.bool false))), none⟩,
             ⟨(some 47), (.mv (.tmp 65)), none⟩])
            (.cond (.tmp 47)
             (.seq
              (.region false [⟨(some 2), (.mv (.const (it 1))), none⟩])
              .ret)
             (.seq
              (.region false [⟨(some 67), (.faddr S1 (.tmp 1) 8), none⟩,
               ⟨(some 68), (.load L32 (.tmp 67)), none⟩,
               ⟨(some 69), (.bin .rem (.tmp 68) (.const (u32 4#32))), none⟩,
               ⟨(some 70), (.bin .neq (.tmp 69) (.const (u32 0#32))), none⟩,
               ⟨(some 66), (.mv (.tmp 70)), none⟩])
              (.cond (.tmp 66)
               (.seq
                (.region false [⟨(some 2), (.mv (.const (it 10))), none⟩])
                .ret)
               .skip)))))))))))
    (.seq
     (.region false [⟨(some 2), (.mv (.const (it 0))), none⟩])
     .ret))))
def r_job_Job_Right : List ARes := [(.tmp 2)]
theorem c_job_Job_Right : o2 Go.Proofs.Try.f11.body (comp Go.Proofs.Try.prog Go.Proofs.Try.f11.ntmps) = some a_job_Job_Right := by kernel_rfl
theorem s_job_Job_Right : cRess Go.Proofs.Try.prog Go.Proofs.Try.f11.results.toList = some r_job_Job_Right := by kernel_rfl
theorem m_job_Job_Right (C : Ctx) (hC : CtxOK C Go.Proofs.Try.prog) : Meets C.glob Go.Proofs.Try.prog 11 (afun C 1 r_job_Job_Right a_job_Job_Right) :=
  fn_sound hC Go.Proofs.Try.func11 c_job_Job_Right s_job_Job_Right (Nat.le_of_ble_eq_true (by kernel_rfl))

/-- curtilage/curtilageref17.Right -/
def a_ref17_Right : ACode :=
 (.seq
  (.region false [⟨(some 1), (.box S1 (.tmp 0)), none⟩,
   ⟨(some 2), (.mv (.const (it 0))), none⟩])
  (.seq
   (.seq
    (.region false [⟨(some 4), (.faddr S1 (.tmp 1) 0), none⟩,
     ⟨(some 5), (.load L8 (.tmp 4)), none⟩,
     ⟨(some 6), (.bin .eql (.tmp 5) (.const (u8 0#8))), none⟩,
     ⟨(some 7), (.mv (.tmp 6)), none⟩,
     ⟨(some 8), (.faddr S1 (.tmp 1) 0), some (7, false)⟩,
     ⟨(some 9), (.load L8 (.tmp 8)), some (7, false)⟩,
     ⟨(some 10), (.bin .gtr (.tmp 9) (.const (u8 8#8))), some (7, false)⟩,
     ⟨(some 11), (.pick (.tmp 7) (.const (.bool true)) (.tmp 10)), none⟩])
    (.cond (.tmp 11)
     (.seq
      (.region false [⟨(some 2), (.mv (.const (it 1))), none⟩])
      .ret)
     .skip))
   (.seq
    (.seq
     (.region false [⟨(some 12), (.faddr S1 (.tmp 1) 6), none⟩,
      ⟨(some 13), (.load L32 (.tmp 12)), none⟩,
      ⟨(some 14), (.bin .gtr (.tmp 13) (.const (u32 1024#32))), none⟩])
     (.cond (.tmp 14)
      (.seq
       (.region false [⟨(some 2), (.mv (.const (it 4))), none⟩])
       .ret)
      .skip))
    (.seq
     (.region false [⟨(some 15), (.faddr S1 (.tmp 1) 0), none⟩,
      ⟨(some 16), (.load L8 (.tmp 15)), none⟩,
      ⟨(some 17), (.bin .eql (.tmp 16) (.const (u8 2#8))), none⟩,
      ⟨(some 18), (.mv (.tmp 17)), none⟩,
      ⟨(some 19), (.faddr S1 (.tmp 1) 0), some (18, false)⟩,
      ⟨(some 20), (.load L8 (.tmp 19)), some (18, false)⟩,
      ⟨(some 21), (.bin .eql (.tmp 20) (.const (u8 3#8))), some (18, false)⟩,
      ⟨(some 22), (.pick (.tmp 18) (.const (.bool true)) (.tmp 21)), none⟩,
      ⟨(some 23), (.mv (.tmp 22)), none⟩,
      ⟨(some 24), (.faddr S1 (.tmp 1) 0), some (23, false)⟩,
      ⟨(some 25), (.load L8 (.tmp 24)), some (23, false)⟩,
      ⟨(some 26), (.bin .eql (.tmp 25) (.const (u8 4#8))), some (23, false)⟩,
      ⟨(some 27), (.pick (.tmp 23) (.const (.bool true)) (.tmp 26)), none⟩,
      ⟨(some 28), (.mv (.tmp 27)), none⟩,
      ⟨(some 29), (.faddr S1 (.tmp 1) 0), some (28, false)⟩,
      ⟨(some 30), (.load L8 (.tmp 29)), some (28, false)⟩,
      ⟨(some 31), (.bin .eql (.tmp 30) (.const (u8 6#8))), some (28, false)⟩,
      ⟨(some 32), (.pick (.tmp 28) (.const (.bool true)) (.tmp 31)), none⟩,
      ⟨(some 3), (.mv (.tmp 32)), none⟩])
     (.seq
      (.seq
       (.region false [⟨(some 33), (.mv (.tmp 3)), none⟩,
        ⟨(some 34), (.mv (.tmp 33)), none⟩,
        ⟨(some 35), (.faddr S1 (.tmp 1) 1), some (34, true)⟩,
        ⟨(some 36), (.load L8 (.tmp 35)), some (34, true)⟩,
        ⟨(some 37), (.bin .gtr (.tmp 36) (.const (u8 7#8))), some (34, true)⟩,
        ⟨(some 38), (.pick (.tmp 34) (.tmp 37) (.const (.bool false))), none⟩,
        ⟨(some 39), (.mv (.tmp 38)), none⟩,
        ⟨(some 40), (.faddr S1 (.tmp 1) 0), some (39, false)⟩,
        ⟨(some 41), (.load L8 (.tmp 40)), some (39, false)⟩,
        ⟨(some 42), (.bin .eql (.tmp 41) (.const (u8 4#8))), some (39, false)⟩,
        ⟨(some 43), (.mv (.tmp 42)), some (39, false)⟩,
        ⟨(some 44), (.faddr S1 (.tmp 1) 2), some (43, true)⟩,
        ⟨(some 45), (.load L8 (.tmp 44)), some (43, true)⟩,
        ⟨(some 46), (.bin .gtr (.tmp 45) (.const (u8 7#8))), some (43, true)⟩,
        ⟨(some 47), (.pick (.tmp 43) (.tmp 46) (.const (.bool false))), some (39, false)⟩,
        ⟨(some 48), (.pick (.tmp 39) (.const (.bool true)) (.tmp 47)), none⟩,
        ⟨(some 49), (.mv (.tmp 48)), none⟩,
        ⟨(some 50), (.faddr S1 (.tmp 1) 0), some (49, false)⟩,
        ⟨(some 51), (.load L8 (.tmp 50)), some (49, false)⟩,
        ⟨(some 52), (.bin .eql (.tmp 51) (.const (u8 5#8))), some (49, false)⟩,
        ⟨(some 53), (.mv (.tmp 52)), some (49, false)⟩,
        ⟨(some 54), (.faddr S1 (.tmp 1) 2), some (53, true)⟩,
        ⟨(some 55), (.load L8 (.tmp 54)), some (53, true)⟩,
        ⟨(some 56), (.bin .gtr (.tmp 55) (.const (u8 3#8))), some (53, true)⟩,
        ⟨(some 57), (.pick (.tmp 53) (.tmp 56) (.const (.bool false))), some (49, false)⟩,
        ⟨(some 58), (.pick (.tmp 49) (.const (.bool true)) (.tmp 57)), none⟩])
       (.cond (.tmp 58)
        (.seq
         (.region false [⟨(some 2), (.mv (.const (it 1))), none⟩])
         .ret)
        .skip))
      (.seq
       (.seq
        (.region false [⟨(some 59), (.faddr S1 (.tmp 1) 0), none⟩,
         ⟨(some 60), (.load L8 (.tmp 59)), none⟩,
         ⟨(some 61), (.bin .eql (.tmp 60) (.const (u8 3#8))), none⟩,
         ⟨(some 62), (.mv (.tmp 61)), none⟩,
         ⟨(some 63), (.faddr S1 (.tmp 1) 3), some (62, true)⟩,
         ⟨(some 64), (.load L8 (.tmp 63)), some (62, true)⟩,
         ⟨(some 65), (.bin .gtr (.tmp 64) (.const (u8 7#8))), some (62, true)⟩,
         ⟨(some 66), (.mv (.tmp 65)), some (62, true)⟩,
         ⟨(some 67), (.faddr S1 (.tmp 1) 3), some (66, false)⟩,
         ⟨(some 68), (.load L8 (.tmp 67)), some (66, false)⟩,
         ⟨(some 69), (.bin .rem (.tmp 68) (.const (u8 4#8))), some (66, false)⟩,
         ⟨(some 70), (.bin .eql (.tmp 69) (.const (u8 3#8))), some (66, false)⟩,
         ⟨(some 71), (.pick (.tmp 66) (.const (.bool true)) (.tmp 70)), some (62, true)⟩,
         ⟨(some 72), (.mv (.tmp 71)), some (62, true)⟩,
         ⟨(some 73), (.faddr S1 (.tmp 1) 6), some (72, false)⟩,
         ⟨(some 74), (.load L32 (.tmp 73)), some (72, false)⟩,
         ⟨(some 75), (.bin .rem (.tmp 74) (.const (u32 16#32))), some (72, false)⟩,
         ⟨(some 76), (.bin .neq (.tmp 75) (.const (u32 0#32))), some (72, false)⟩,
         ⟨(some 77), (.pick (.tmp 72) (.const (.bool true)) (.tmp 76)), some (62, true)⟩,
         ⟨(some 78), (.pick (.tmp 62) (.tmp 77) (.const (.bool false))), none⟩])
        (.cond (.tmp 78)
         (.seq
          (.region false [⟨(some 2), (.mv (.const (it 1))), none⟩])
          .ret)
         .skip))
       (.seq
        (.seq
         (.region false [⟨(some 79), (.faddr S1 (.tmp 1) 8), none⟩,
          ⟨(some 80), (.load L32 (.tmp 79)), none⟩,
          ⟨(some 81), (.bin .rem (.tmp 80) (.const (u32 4#32))), none⟩,
          ⟨(some 82), (.bin .neq (.tmp 81) (.const (u32 0#32))), none⟩])
         (.cond (.tmp 82)
          (.seq
           (.region false [⟨(some 2), (.mv (.const (it 10))), none⟩])
           .ret)
          .skip))
        (.seq
         (.region false [⟨(some 2), (.mv (.const (it 0))), none⟩])
         .ret))))))))
def r_ref17_Right : List ARes := [(.tmp 2)]
theorem c_ref17_Right : o2 Go.Proofs.Try.f12.body (comp Go.Proofs.Try.prog Go.Proofs.Try.f12.ntmps) = some a_ref17_Right := by kernel_rfl
theorem s_ref17_Right : cRess Go.Proofs.Try.prog Go.Proofs.Try.f12.results.toList = some r_ref17_Right := by kernel_rfl
theorem m_ref17_Right (C : Ctx) (hC : CtxOK C Go.Proofs.Try.prog) : Meets C.glob Go.Proofs.Try.prog 12 (afun C 1 r_ref17_Right a_ref17_Right) :=
  fn_sound hC Go.Proofs.Try.func12 c_ref17_Right s_ref17_Right (Nat.le_of_ble_eq_true (by kernel_rfl))

/-- curtilage/curtilageref01.Join -/
def a_ref01_Join : ACode :=
 (.seq
  (.region false [⟨(some 2), (.mv (.const (.slice none 0 0))), none⟩])
  (.seq
   (.region false [⟨(some 3), (.mv (.const (.slice none 0 0))), none⟩])
   (.seq
    (.seq
     (.region false [⟨(some 6), (.mv (.tmp 0)), none⟩,
      ⟨(some 7), (.len (.tmp 6)), none⟩,
      ⟨(some 8), (.mv (.const (it 0))), none⟩])
     (.block 0
      (.loop
       (.seq
        (.region false [⟨(some 9), (.bin .lss (.tmp 8) (.tmp 7)), none⟩])
        (.seq
         (.cond (.tmp 9)
          .skip
          (.exit 0))
         (.seq
          (.block 1
           (.seq
            (.region false [⟨(some 10), (.iaddrs .ref (.tmp 6) (.tmp 8)), none⟩,
             ⟨(some 11), (.load .ref (.tmp 10)), none⟩,
             ⟨(some 5), (.mv (.tmp 11)), none⟩])
            (.region false [⟨(some 12), (.mv (.tmp 3)), none⟩,
             ⟨(some 13), (.mv (.tmp 5)), none⟩,
             ⟨(some 14), (.append L8 1 (.tmp 12) (.tmp 13)), none⟩,
             ⟨(some 3), (.mv (.tmp 14)), none⟩])))
          (.region false [⟨(some 15), (.bin .add (.tmp 8) (.const (it 1))), none⟩,
           ⟨(some 8), (.mv (.tmp 15)), none⟩])))))))
    (.seq
     (.region false [⟨(some 16), (.mv (.tmp 3)), none⟩,
      ⟨(some 2), (.mv (.tmp 16)), none⟩])
     .ret))))
def r_ref01_Join : List ARes := [(.tmp 2)]
theorem c_ref01_Join : o2 Go.Proofs.Try.f13.body (comp Go.Proofs.Try.prog Go.Proofs.Try.f13.ntmps) = some a_ref01_Join := by kernel_rfl
theorem s_ref01_Join : cRess Go.Proofs.Try.prog Go.Proofs.Try.f13.results.toList = some r_ref01_Join := by kernel_rfl
theorem m_ref01_Join (C : Ctx) (hC : CtxOK C Go.Proofs.Try.prog) : Meets C.glob Go.Proofs.Try.prog 13 (afun C 1 r_ref01_Join a_ref01_Join) :=
  fn_sound hC Go.Proofs.Try.func13 c_ref01_Join s_ref01_Join (Nat.le_of_ble_eq_true (by kernel_rfl))

/-- curtilage/job.Parse -/
def a_job_Parse : ACode :=
 (.seq
  (.region false [⟨(some 2), (.alloc S1 (.agg S1 [(.raw (u8 0#8)), (.raw (u8 0#8)), (.raw (u8 0#8)), (.raw (u8 0#8)), (.raw (u32 0#32)), (.raw (u32 0#32)), (.raw (u32 0#32)), (.raw (u32 0#32)), (.raw (u32 0#32))])), none⟩,
   ⟨(some 3), (.mv (.const (it 0))), none⟩])
  (.seq
   (.seq
    (.region true [⟨(some 6), (.mv (.tmp 0)), none⟩,
     ⟨(some 7), (.len (.tmp 6)), none⟩,
     ⟨(some 8), (.bin .neq (.tmp 7) (.const (it 32))), none⟩,
     ⟨(some 9), (.mv (.tmp 8)), none⟩,
     ⟨(some 10), (.mv (.tmp 0)), some (9, false)⟩,
     ⟨(some 11), (.slice L8 (.tmp 10) (some (.const (it 20))) none none), some (9, false)⟩,
     ⟨(some 12), (.call 22 [(.tmp 11)]), some (9, false)⟩,
     ⟨(some 13), (.mv (.tmp 0)), some (9, false)⟩,
     ⟨(some 14), (.slice L8 (.tmp 13) (some (.const (it 24))) none none), some (9, false)⟩,
     ⟨(some 15), (.call 22 [(.tmp 14)]), some (9, false)⟩,
     ⟨(some 16), (.bin .or (.tmp 12) (.tmp 15)), some (9, false)⟩,
     ⟨(some 17), (.bin .neq (.tmp 16) (.const (u32 0#32))), some (9, false)⟩,
     ⟨(some 18), (.pick (.tmp 9) (.const (.bool true)) (.tmp 17)), none⟩])
    (.cond (.tmp 18)
     (.seq
      (.region false [⟨(some 19), (.build S1 [(.raw (u8 0#8)), (.raw (u8 0#8)), (.raw (u8 0#8)), (.raw (u8 0#8)), (.raw (u32 0#32)), (.raw (u32 0#32)), (.raw (u32 0#32)), (.raw (u32 0#32)), (.raw (u32 0#32))] []), none⟩,
       ⟨none, (.store S1 (.tmp 2) (.tmp 19)), none⟩,
       ⟨(some 3), (.mv (.const (it 2))), none⟩])
      .ret)
     .skip))
   (.seq
    (.region true [⟨(some 20), (.mv (.tmp 0)), none⟩,
     ⟨(some 21), (.iaddrs L8 (.tmp 20) (.const (it 0))), none⟩,
     ⟨(some 22), (.load L8 (.tmp 21)), none⟩,
     ⟨(some 23), (.mv (.tmp 0)), none⟩,
     ⟨(some 24), (.iaddrs L8 (.tmp 23) (.const (it 1))), none⟩,
     ⟨(some 25), (.load L8 (.tmp 24)), none⟩,
     ⟨(some 26), (.mv (.tmp 0)), none⟩,
     ⟨(some 27), (.iaddrs L8 (.tmp 26) (.const (it 2))), none⟩,
     ⟨(some 28), (.load L8 (.tmp 27)), none⟩,
     ⟨(some 29), (.mv (.tmp 0)), none⟩,
     ⟨(some 30), (.iaddrs L8 (.tmp 29) (.const (it 3))), none⟩,
     ⟨(some 31), (.load L8 (.tmp 30)), none⟩,
     ⟨(some 32), (.mv (.tmp 0)), none⟩,
     ⟨(some 33), (.slice L8 (.tmp 32) (some (.const (it 4))) none none), none⟩,
     ⟨(some 34), (.call 22 [(.tmp 33)]), none⟩,
     ⟨(some 35), (.mv (.tmp 0)), none⟩,
     ⟨(some 36), (.slice L8 (.tmp 35) (some (.const (it 8))) none none), none⟩,
     ⟨(some 37), (.call 22 [(.tmp 36)]), none⟩,
     ⟨(some 38), (.mv (.tmp 0)), none⟩,
     ⟨(some 39), (.slice L8 (.tmp 38) (some (.const (it 12))) none none), none⟩,
     ⟨(some 40), (.call 22 [(.tmp 39)]), none⟩,
     ⟨(some 41), (.mv (.tmp 0)), none⟩,
     ⟨(some 42), (.slice L8 (.tmp 41) (some (.const (it 16))) none none), none⟩,
     ⟨(some 43), (.call 22 [(.tmp 42)]), none⟩,
     ⟨(some 44), (.mv (.tmp 0)), none⟩,
     ⟨(some 45), (.slice L8 (.tmp 44) (some (.const (it 28))) none none), none⟩,
     ⟨(some 46), (.call 22 [(.tmp 45)]), none⟩,
     ⟨(some 47), (.build S1 [(.raw (u8 0#8)), (.raw (u8 0#8)), (.raw (u8 0#8)), (.raw (u8 0#8)), (.raw (u32 0#32)), (.raw (u32 0#32)), (.raw (u32 0#32)), (.raw (u32 0#32)), (.raw (u32 0#32))] [(0, (.tmp 22)), (1, (.tmp 25)), (2, (.tmp 28)), (3, (.tmp 31)), (4, (.tmp 34)), (5, (.tmp 37)), (6, (.tmp 40)), (7, (.tmp 43)), (8, (.tmp 46))]), none⟩,
     ⟨(some 4), (.alloc S1 (.agg S1 [(.raw (u8 0#8)), (.raw (u8 0#8)), (.raw (u8 0#8)), (.raw (u8 0#8)), (.raw (u32 0#32)), (.raw (u32 0#32)), (.raw (u32 0#32)), (.raw (u32 0#32)), (.raw (u32 0#32))])), none⟩,
     ⟨none, (.store S1 (.tmp 4) (.tmp 47)), none⟩])
    (.seq
     (.seq
      (.region false [⟨(some 48), (.load S1 (.tmp 4)), none⟩,
       ⟨(some 49), (.call 11 [(.tmp 48)]), none⟩,
       ⟨(some 5), (.mv (.tmp 49)), none⟩])
      (.seq
       (.region false [⟨(some 50), (.mv (.tmp 5)), none⟩,
        ⟨(some 51), (.bin .neq (.tmp 50) (.const (it 0))), none⟩])
       (.cond (.tmp 51)
        (.seq
         (.region false [⟨(some 52), (.build S1 [(.raw (u8 0#8)), (.raw (u8 0#8)), (.raw (u8 0#8)), (.raw (u8 0#8)), (.raw (u32 0#32)), (.raw (u32 0#32)), (.raw (u32 0#32)), (.raw (u32 0#32)), (.raw (u32 0#32))] []), none⟩,
          ⟨(some 53), (.mv (.tmp 5)), none⟩,
          ⟨none, (.store S1 (.tmp 2) (.tmp 52)), none⟩,
          ⟨(some 3), (.mv (.tmp 53)), none⟩])
         .ret)
        .skip)))
     (.seq
      (.region false [⟨(some 54), (.load S1 (.tmp 4)), none⟩,
       ⟨none, (.store S1 (.tmp 2) (.tmp 54)), none⟩,
       ⟨(some 3), (.mv (.const (it 0))), none⟩])
      .ret)))))
def r_job_Parse : List ARes := [(.cell 2 S1), (.tmp 3)]
theorem c_job_Parse : o2 Go.Proofs.Try.f14.body (comp Go.Proofs.Try.prog Go.Proofs.Try.f14.ntmps) = some a_job_Parse := by kernel_rfl
theorem s_job_Parse : cRess Go.Proofs.Try.prog Go.Proofs.Try.f14.results.toList = some r_job_Parse := by kernel_rfl
theorem m_job_Parse (C : Ctx) (hC : CtxOK C Go.Proofs.Try.prog) : Meets C.glob Go.Proofs.Try.prog 14 (afun C 1 r_job_Parse a_job_Parse) :=
  fn_sound hC Go.Proofs.Try.func14 c_job_Parse s_job_Parse (Nat.le_of_ble_eq_true (by kernel_rfl))

/-- curtilage/curtilageref17.Parse -/
def a_ref17_Parse : ACode :=
 (.seq
  (.region false [⟨(some 2), (.alloc S1 (.agg S1 [(.raw (u8 0#8)), (.raw (u8 0#8)), (.raw (u8 0#8)), (.raw (u8 0#8)), (.raw (u32 0#32)), (.raw (u32 0#32)), (.raw (u32 0#32)), (.raw (u32 0#32)), (.raw (u32 0#32))])), none⟩,
   ⟨(some 3), (.mv (.const (it 0))), none⟩])
  (.seq
   (.seq
    (.region false [⟨(some 8), (.mv (.tmp 0)), none⟩,
     ⟨(some 9), (.len (.tmp 8)), none⟩,
     ⟨(some 10), (.bin .neq (.tmp 9) (.const (it 32))), none⟩,
     ⟨(some 11), (.mv (.tmp 10)), none⟩,
     ⟨(some 12), (.mv (.tmp 0)), some (11, false)⟩,
     ⟨(some 13), (.slice L8 (.tmp 12) (some (.const (it 20))) (some (.const (it 28))) none), some (11, false)⟩,
     ⟨(some 14), (.call 23 [(.tmp 13)]), some (11, false)⟩,
     ⟨(some 15), (.bin .neq (.tmp 14) (.const (u64 0#64))), some (11, false)⟩,
     ⟨(some 16), (.pick (.tmp 11) (.const (.bool true)) (.tmp 15)), none⟩])
    (.cond (.tmp 16)
     (.seq
      (.region false [⟨(some 17), (.build S1 [(.raw (u8 0#8)), (.raw (u8 0#8)), (.raw (u8 0#8)), (.raw (u8 0#8)), (.raw (u32 0#32)), (.raw (u32 0#32)), (.raw (u32 0#32)), (.raw (u32 0#32)), (.raw (u32 0#32))] []), none⟩,
       ⟨none, (.store S1 (.tmp 2) (.tmp 17)), none⟩,
       ⟨(some 3), (.mv (.const (it 2))), none⟩])
      .ret)
     .skip))
   (.seq
    (.region false [⟨(some 18), (.mks L32 4 (.raw (u32 0#32)) (.const (it 8)) (.const (it 8))), none⟩,
     ⟨(some 4), (.mv (.tmp 18)), none⟩])
    (.seq
     (.seq
      (.region false [⟨(some 19), (.mv (.tmp 4)), none⟩,
       ⟨(some 20), (.len (.tmp 19)), none⟩,
       ⟨(some 21), (.mv (.const (it 0))), none⟩])
      (.block 0
       (.loop
        (.seq
         (.region false [⟨(some 22), (.bin .lss (.tmp 21) (.tmp 20)), none⟩])
         (.seq
          (.cond (.tmp 22)
           .skip
           (.exit 0))
          (.seq
           (.block 1
            (.seq
             (.region false [⟨(some 23), (.mv (.tmp 21)), none⟩,
              ⟨(some 5), (.mv (.tmp 23)), none⟩])
             (.region false [⟨(some 24), (.mv (.tmp 4)), none⟩,
              ⟨(some 25), (.mv (.tmp 5)), none⟩,
              ⟨(some 26), (.mv (.tmp 0)), none⟩,
              ⟨(some 27), (.mv (.tmp 5)), none⟩,
              ⟨(some 28), (.bin .mul (.const (it 4)) (.tmp 27)), none⟩,
              ⟨(some 29), (.mv (.tmp 5)), none⟩,
              ⟨(some 30), (.bin .mul (.const (it 4)) (.tmp 29)), none⟩,
              ⟨(some 31), (.bin .add (.tmp 30) (.const (it 4))), none⟩,
              ⟨(some 32), (.slice L8 (.tmp 26) (some (.tmp 28)) (some (.tmp 31)) none), none⟩,
              ⟨(some 33), (.call 23 [(.tmp 32)]), none⟩,
              ⟨(some 34), (.conv .u32 (.tmp 33)), none⟩,
              ⟨(some 35), (.iaddrs L32 (.tmp 24) (.tmp 25)), none⟩,
              ⟨none, (.store L32 (.tmp 35) (.tmp 34)), none⟩])))
           (.region false [⟨(some 36), (.bin .add (.tmp 21) (.const (it 1))), none⟩,
            ⟨(some 21), (.mv (.tmp 36)), none⟩])))))))
     (.seq
      (.region true [⟨(some 37), (.mv (.tmp 0)), none⟩,
       ⟨(some 38), (.iaddrs L8 (.tmp 37) (.const (it 0))), none⟩,
       ⟨(some 39), (.load L8 (.tmp 38)), none⟩,
       ⟨(some 40), (.mv (.tmp 0)), none⟩,
       ⟨(some 41), (.iaddrs L8 (.tmp 40) (.const (it 1))), none⟩,
       ⟨(some 42), (.load L8 (.tmp 41)), none⟩,
       ⟨(some 43), (.mv (.tmp 0)), none⟩,
       ⟨(some 44), (.iaddrs L8 (.tmp 43) (.const (it 2))), none⟩,
       ⟨(some 45), (.load L8 (.tmp 44)), none⟩,
       ⟨(some 46), (.mv (.tmp 0)), none⟩,
       ⟨(some 47), (.iaddrs L8 (.tmp 46) (.const (it 3))), none⟩,
       ⟨(some 48), (.load L8 (.tmp 47)), none⟩,
       ⟨(some 49), (.mv (.tmp 4)), none⟩,
       ⟨(some 50), (.iaddrs L32 (.tmp 49) (.const (it 1))), none⟩,
       ⟨(some 51), (.load L32 (.tmp 50)), none⟩,
       ⟨(some 52), (.mv (.tmp 4)), none⟩,
       ⟨(some 53), (.iaddrs L32 (.tmp 52) (.const (it 2))), none⟩,
       ⟨(some 54), (.load L32 (.tmp 53)), none⟩,
       ⟨(some 55), (.mv (.tmp 4)), none⟩,
       ⟨(some 56), (.iaddrs L32 (.tmp 55) (.const (it 3))), none⟩,
       ⟨(some 57), (.load L32 (.tmp 56)), none⟩,
       ⟨(some 58), (.mv (.tmp 4)), none⟩,
       ⟨(some 59), (.iaddrs L32 (.tmp 58) (.const (it 4))), none⟩,
       ⟨(some 60), (.load L32 (.tmp 59)), none⟩,
       ⟨(some 61), (.mv (.tmp 4)), none⟩,
       ⟨(some 62), (.iaddrs L32 (.tmp 61) (.const (it 7))), none⟩,
       ⟨(some 63), (.load L32 (.tmp 62)), none⟩,
       ⟨(some 64), (.build S1 [(.raw (u8 0#8)), (.raw (u8 0#8)), (.raw (u8 0#8)), (.raw (u8 0#8)), (.raw (u32 0#32)), (.raw (u32 0#32)), (.raw (u32 0#32)), (.raw (u32 0#32)), (.raw (u32 0#32))] [(0, (.tmp 39)), (1, (.tmp 42)), (2, (.tmp 45)), (3, (.tmp 48)), (4, (.tmp 51)), (5, (.tmp 54)), (6, (.tmp 57)), (7, (.tmp 60)), (8, (.tmp 63))]), none⟩,
       ⟨(some 6), (.alloc S1 (.agg S1 [(.raw (u8 0#8)), (.raw (u8 0#8)), (.raw (u8 0#8)), (.raw (u8 0#8)), (.raw (u32 0#32)), (.raw (u32 0#32)), (.raw (u32 0#32)), (.raw (u32 0#32)), (.raw (u32 0#32))])), none⟩,
       ⟨none, (.store S1 (.tmp 6) (.tmp 64)), none⟩])
      (.seq
       (.seq
        (.region false [⟨(some 65), (.load S1 (.tmp 6)), none⟩,
         ⟨(some 66), (.call 12 [(.tmp 65)]), none⟩,
         ⟨(some 7), (.mv (.tmp 66)), none⟩])
        (.seq
         (.region false [⟨(some 67), (.mv (.tmp 7)), none⟩,
          ⟨(some 68), (.bin .neq (.tmp 67) (.const (it 0))), none⟩])
         (.cond (.tmp 68)
          (.seq
           (.region false [⟨(some 69), (.build S1 [(.raw (u8 0#8)), (.raw (u8 0#8)), (.raw (u8 0#8)), (.raw (u8 0#8)), (.raw (u32 0#32)), (.raw (u32 0#32)), (.raw (u32 0#32)), (.raw (u32 0#32)), (.raw (u32 0#32))] []), none⟩,
            ⟨(some 70), (.mv (.tmp 7)), none⟩,
            ⟨none, (.store S1 (.tmp 2) (.tmp 69)), none⟩,
            ⟨(some 3), (.mv (.tmp 70)), none⟩])
           .ret)
          .skip)))
       (.seq
        (.region false [⟨(some 71), (.load S1 (.tmp 6)), none⟩,
         ⟨none, (.store S1 (.tmp 2) (.tmp 71)), none⟩,
         ⟨(some 3), (.mv (.const (it 0))), none⟩])
        .ret)))))))
def r_ref17_Parse : List ARes := [(.cell 2 S1), (.tmp 3)]
theorem c_ref17_Parse : o2 Go.Proofs.Try.f15.body (comp Go.Proofs.Try.prog Go.Proofs.Try.f15.ntmps) = some a_ref17_Parse := by kernel_rfl
theorem s_ref17_Parse : cRess Go.Proofs.Try.prog Go.Proofs.Try.f15.results.toList = some r_ref17_Parse := by kernel_rfl
theorem m_ref17_Parse (C : Ctx) (hC : CtxOK C Go.Proofs.Try.prog) : Meets C.glob Go.Proofs.Try.prog 15 (afun C 1 r_ref17_Parse a_ref17_Parse) :=
  fn_sound hC Go.Proofs.Try.func15 c_ref17_Parse s_ref17_Parse (Nat.le_of_ble_eq_true (by kernel_rfl))

/-- curtilage/job.Chain -/
def a_job_Chain : ACode :=
 (.seq
  (.region false [⟨(some 4), (.mv (.const (.slice none 0 0))), none⟩])
  (.seq
   (.region false [⟨(some 5), (.mv (.const (.slice none 0 0))), none⟩])
   (.seq
    (.seq
     (.region false [⟨(some 8), (.mv (.tmp 1)), none⟩,
      ⟨(some 9), (.len (.tmp 8)), none⟩,
      ⟨(some 10), (.mv (.const (it 0))), none⟩])
     (.block 0
      (.loop
       (.seq
        (.region false [⟨(some 11), (.bin .lss (.tmp 10) (.tmp 9)), none⟩])
        (.seq
         (.cond (.tmp 11)
          .skip
          (.exit 0))
         (.seq
          (.block 1
           (.seq
            (.region false [⟨(some 12), (.mv (.tmp 10)), none⟩,
             ⟨(some 13), (.iaddrs S1 (.tmp 8) (.tmp 10)), none⟩,
             ⟨(some 14), (.load S1 (.tmp 13)), none⟩,
             ⟨(some 7), (.alloc S1 (.agg S1 [(.raw (u8 0#8)), (.raw (u8 0#8)), (.raw (u8 0#8)), (.raw (u8 0#8)), (.raw (u32 0#32)), (.raw (u32 0#32)), (.raw (u32 0#32)), (.raw (u32 0#32)), (.raw (u32 0#32))])), none⟩,
             ⟨(some 6), (.mv (.tmp 12)), none⟩,
             ⟨none, (.store S1 (.tmp 7) (.tmp 14)), none⟩])
            (.seq
             (.region false [⟨(some 15), (.faddr S1 (.tmp 7) 8), none⟩,
              ⟨none, (.store L32 (.tmp 15) (.const (u32 0#32))), none⟩])
             (.seq
              (.seq
               (.region false [⟨(some 16), (.mv (.tmp 6)), none⟩,
                ⟨(some 17), (.mv (.tmp 1)), none⟩,
                ⟨(some 18), (.len (.tmp 17)), none⟩,
                ⟨(some 19), (.bin .sub (.tmp 18) (.const (it 1))), none⟩,
                ⟨(some 20), (.bin .lss (.tmp 16) (.tmp 19)), none⟩])
               (.cond (.tmp 20)
                (.region false [⟨(some 21), (.mv (.tmp 0)), none⟩,
                 ⟨(some 22), (.mv (.tmp 6)), none⟩,
                 ⟨(some 23), (.bin .add (.tmp 22) (.const (it 1))), none⟩,
                 ⟨(some 24), (.conv .u32 (.tmp 23)), none⟩,
                 ⟨(some 25), (.bin .mul (.const (u32 32#32)) (.tmp 24)), none⟩,
                 ⟨(some 26), (.bin .add (.tmp 21) (.tmp 25)), none⟩,
                 ⟨(some 27), (.faddr S1 (.tmp 7) 8), none⟩,
                 ⟨none, (.store L32 (.tmp 27) (.tmp 26)), none⟩])
                .skip))
              (.region false [⟨(some 28), (.mv (.tmp 5)), none⟩,
               ⟨(some 29), (.load S1 (.tmp 7)), none⟩,
               ⟨(some 30), (.call 8 [(.tmp 29)]), none⟩,
               ⟨(some 31), (.append L8 1 (.tmp 28) (.tmp 30)), none⟩,
               ⟨(some 5), (.mv (.tmp 31)), none⟩])))))
          (.region false [⟨(some 32), (.bin .add (.tmp 10) (.const (it 1))), none⟩,
           ⟨(some 10), (.mv (.tmp 32)), none⟩])))))))
    (.seq
     (.region false [⟨(some 33), (.mv (.tmp 5)), none⟩,
      ⟨(some 4), (.mv (.tmp 33)), none⟩])
     .ret))))
def r_job_Chain : List ARes := [(.tmp 4)]
theorem c_job_Chain : o2 Go.Proofs.Try.f16.body (comp Go.Proofs.Try.prog Go.Proofs.Try.f16.ntmps) = some a_job_Chain := by kernel_rfl
theorem s_job_Chain : cRess Go.Proofs.Try.prog Go.Proofs.Try.f16.results.toList = some r_job_Chain := by kernel_rfl
theorem m_job_Chain (C : Ctx) (hC : CtxOK C Go.Proofs.Try.prog) : Meets C.glob Go.Proofs.Try.prog 16 (afun C 2 r_job_Chain a_job_Chain) :=
  fn_sound hC Go.Proofs.Try.func16 c_job_Chain s_job_Chain (Nat.le_of_ble_eq_true (by kernel_rfl))

/-- curtilage/curtilageref01.Hex -/
def a_ref01_Hex : ACode :=
 (.seq
  (.region false [⟨(some 2), (.mv (.const (.string ⟨#[]⟩))), none⟩])
  (.seq
   (.region false [⟨(some 3), (.mv (.const (.string ⟨#[]⟩))), none⟩])
   (.seq
    (.seq
     (.region false [⟨(some 6), (.mv (.tmp 0)), none⟩,
      ⟨(some 7), (.len (.tmp 6)), none⟩,
      ⟨(some 8), (.mv (.const (it 0))), none⟩])
     (.block 0
      (.loop
       (.seq
        (.region false [⟨(some 9), (.bin .lss (.tmp 8) (.tmp 7)), none⟩])
        (.seq
         (.cond (.tmp 9)
          .skip
          (.exit 0))
         (.seq
          (.block 1
           (.seq
            (.region false [⟨(some 10), (.iaddrs L8 (.tmp 6) (.tmp 8)), none⟩,
             ⟨(some 11), (.load L8 (.tmp 10)), none⟩,
             ⟨(some 5), (.mv (.tmp 11)), none⟩])
            (.region true [⟨(some 12), (.mv (.tmp 3)), none⟩,
             ⟨(some 13), (.mv (.tmp 5)), none⟩,
             ⟨(some 14), (.bin .quo (.tmp 13) (.const (u8 16#8))), none⟩,
             ⟨(some 15), (.mv (.tmp 5)), none⟩,
             ⟨(some 16), (.bin .quo (.tmp 15) (.const (u8 16#8))), none⟩,
             ⟨(some 17), (.bin .add (.tmp 16) (.const (u8 1#8))), none⟩,
             ⟨(some 18), (.sslice (.const (.string ⟨#[48, 49, 50, 51, 52, 53, 54, 55, 56, 57, 97, 98, 99, 100, 101, 102]⟩)) (some (.tmp 14)) (some (.tmp 17))), none⟩,
             ⟨(some 19), (.mv (.tmp 5)), none⟩,
             ⟨(some 20), (.bin .rem (.tmp 19) (.const (u8 16#8))), none⟩,
             ⟨(some 21), (.mv (.tmp 5)), none⟩,
             ⟨(some 22), (.bin .rem (.tmp 21) (.const (u8 16#8))), none⟩,
             ⟨(some 23), (.bin .add (.tmp 22) (.const (u8 1#8))), none⟩,
             ⟨(some 24), (.sslice (.const (.string ⟨#[48, 49, 50, 51, 52, 53, 54, 55, 56, 57, 97, 98, 99, 100, 101, 102]⟩)) (some (.tmp 20)) (some (.tmp 23))), none⟩,
             ⟨(some 25), (.bin .add (.tmp 18) (.tmp 24)), none⟩,
             ⟨(some 26), (.bin .add (.tmp 12) (.tmp 25)), none⟩,
             ⟨(some 3), (.mv (.tmp 26)), none⟩])))
          (.region false [⟨(some 27), (.bin .add (.tmp 8) (.const (it 1))), none⟩,
           ⟨(some 8), (.mv (.tmp 27)), none⟩])))))))
    (.seq
     (.region false [⟨(some 28), (.mv (.tmp 3)), none⟩,
      ⟨(some 2), (.mv (.tmp 28)), none⟩])
     .ret))))
def r_ref01_Hex : List ARes := [(.tmp 2)]
theorem c_ref01_Hex : o2 Go.Proofs.Try.f17.body (comp Go.Proofs.Try.prog Go.Proofs.Try.f17.ntmps) = some a_ref01_Hex := by kernel_rfl
theorem s_ref01_Hex : cRess Go.Proofs.Try.prog Go.Proofs.Try.f17.results.toList = some r_ref01_Hex := by kernel_rfl
theorem m_ref01_Hex (C : Ctx) (hC : CtxOK C Go.Proofs.Try.prog) : Meets C.glob Go.Proofs.Try.prog 17 (afun C 1 r_ref01_Hex a_ref01_Hex) :=
  fn_sound hC Go.Proofs.Try.func17 c_ref01_Hex s_ref01_Hex (Nat.le_of_ble_eq_true (by kernel_rfl))

/-- curtilage/job.word -/
def a_job_word : ACode :=
 (.seq
  (.region false [⟨(some 2), (.mv (.const (.slice none 0 0))), none⟩])
  (.seq
   (.region false [⟨(some 3), (.mv (.tmp 0)), none⟩,
    ⟨(some 4), (.bin .shr (.tmp 3) (.const (u64 24#64))), none⟩,
    ⟨(some 5), (.conv .u8 (.tmp 4)), none⟩,
    ⟨(some 6), (.mv (.tmp 0)), none⟩,
    ⟨(some 7), (.bin .shr (.tmp 6) (.const (u64 16#64))), none⟩,
    ⟨(some 8), (.conv .u8 (.tmp 7)), none⟩,
    ⟨(some 9), (.mv (.tmp 0)), none⟩,
    ⟨(some 10), (.bin .shr (.tmp 9) (.const (u64 8#64))), none⟩,
    ⟨(some 11), (.conv .u8 (.tmp 10)), none⟩,
    ⟨(some 12), (.mv (.tmp 0)), none⟩,
    ⟨(some 13), (.conv .u8 (.tmp 12)), none⟩,
    ⟨(some 14), (.bslice L8 4 (.raw (u8 0#8)) [(0, (.tmp 5)), (1, (.tmp 8)), (2, (.tmp 11)), (3, (.tmp 13))]), none⟩,
    ⟨(some 2), (.mv (.tmp 14)), none⟩])
   .ret))
def r_job_word : List ARes := [(.tmp 2)]
theorem c_job_word : o2 Go.Proofs.Try.f18.body (comp Go.Proofs.Try.prog Go.Proofs.Try.f18.ntmps) = some a_job_word := by kernel_rfl
theorem s_job_word : cRess Go.Proofs.Try.prog Go.Proofs.Try.f18.results.toList = some r_job_word := by kernel_rfl
theorem m_job_word (C : Ctx) (hC : CtxOK C Go.Proofs.Try.prog) : Meets C.glob Go.Proofs.Try.prog 18 (afun C 1 r_job_word a_job_word) :=
  fn_sound hC Go.Proofs.Try.func18 c_job_word s_job_word (Nat.le_of_ble_eq_true (by kernel_rfl))

/-- curtilage/curtilageref01.Num -/
def a_ref01_Num : ACode :=
 (.seq
  (.region false [⟨(some 4), (.mv (.const (.slice none 0 0))), none⟩])
  (.seq
   (.region false [⟨(some 7), (.mv (.tmp 1)), none⟩,
    ⟨(some 8), (.mks L8 1 (.raw (u8 0#8)) (.tmp 7) (.tmp 7)), none⟩,
    ⟨(some 5), (.mv (.tmp 8)), none⟩])
   (.seq
    (.seq
     (.region false [⟨(some 9), (.mv (.tmp 1)), none⟩,
      ⟨(some 10), (.bin .sub (.tmp 9) (.const (it 1))), none⟩,
      ⟨(some 6), (.mv (.tmp 10)), none⟩])
     (.block 0
      (.loop
       (.seq
        (.seq
         (.region false [⟨(some 11), (.mv (.tmp 6)), none⟩,
          ⟨(some 12), (.bin .geq (.tmp 11) (.const (it 0))), none⟩])
         (.cond (.tmp 12)
          .skip
          (.exit 0)))
        (.seq
         (.block 1
          (.seq
           (.region false [⟨(some 15), (.mv (.tmp 5)), none⟩,
            ⟨(some 16), (.mv (.tmp 6)), none⟩,
            ⟨(some 17), (.mv (.tmp 0)), none⟩,
            ⟨(some 18), (.bin .rem (.tmp 17) (.const (u64 256#64))), none⟩,
            ⟨(some 19), (.conv .u8 (.tmp 18)), none⟩,
            ⟨(some 20), (.iaddrs L8 (.tmp 15) (.tmp 16)), none⟩,
            ⟨none, (.store L8 (.tmp 20) (.tmp 19)), none⟩])
           (.region false [⟨(some 21), (.mv (.tmp 0)), none⟩,
            ⟨(some 22), (.bin .quo (.tmp 21) (.const (u64 256#64))), none⟩,
            ⟨(some 0), (.mv (.tmp 22)), none⟩])))
         (.region false [⟨(some 13), (.mv (.tmp 6)), none⟩,
          ⟨(some 14), (.bin .sub (.tmp 13) (.const (it 1))), none⟩,
          ⟨(some 6), (.mv (.tmp 14)), none⟩]))))))
    (.seq
     (.region false [⟨(some 23), (.mv (.tmp 5)), none⟩,
      ⟨(some 4), (.mv (.tmp 23)), none⟩])
     .ret))))
def r_ref01_Num : List ARes := [(.tmp 4)]
theorem c_ref01_Num : o2 Go.Proofs.Try.f19.body (comp Go.Proofs.Try.prog Go.Proofs.Try.f19.ntmps) = some a_ref01_Num := by kernel_rfl
theorem s_ref01_Num : cRess Go.Proofs.Try.prog Go.Proofs.Try.f19.results.toList = some r_ref01_Num := by kernel_rfl
theorem m_ref01_Num (C : Ctx) (hC : CtxOK C Go.Proofs.Try.prog) : Meets C.glob Go.Proofs.Try.prog 19 (afun C 2 r_ref01_Num a_ref01_Num) :=
  fn_sound hC Go.Proofs.Try.func19 c_ref01_Num s_ref01_Num (Nat.le_of_ble_eq_true (by kernel_rfl))

/-- (curtilage/job.Job).Mode -/
def a_job_Job_Mode : ACode :=
 (.seq
  (.region false [⟨(some 1), (.box S1 (.tmp 0)), none⟩,
   ⟨(some 2), (.mv (.const (it 0))), none⟩,
   ⟨(some 3), (.mv (.const (.bool false))), none⟩])
  (.seq
   (.region true [⟨(some 4), (.faddr S1 (.tmp 1) 3), none⟩,
    ⟨(some 5), (.load L8 (.tmp 4)), none⟩,
    ⟨(some 6), (.bin .and (.tmp 5) (.const (u8 3#8))), none⟩,
    ⟨(some 7), (.conv .i64 (.tmp 6)), none⟩,
    ⟨(some 8), (.faddr S1 (.tmp 1) 3), none⟩,
    ⟨(some 9), (.load L8 (.tmp 8)), none⟩,
    ⟨(some 10), (.bin .and (.tmp 9) (.const (u8 4#8))), none⟩,
    ⟨(some 11), (.bin .neq (.tmp 10) (.const (u8 0#8))), none⟩,
    ⟨(some 2), (.mv (.tmp 7)), none⟩,
    ⟨(some 3), (.mv (.tmp 11)), none⟩])
   .ret))
def r_job_Job_Mode : List ARes := [(.tmp 2), (.tmp 3)]
theorem c_job_Job_Mode : o2 Go.Proofs.Try.f20.body (comp Go.Proofs.Try.prog Go.Proofs.Try.f20.ntmps) = some a_job_Job_Mode := by kernel_rfl
theorem s_job_Job_Mode : cRess Go.Proofs.Try.prog Go.Proofs.Try.f20.results.toList = some r_job_Job_Mode := by kernel_rfl
theorem m_job_Job_Mode (C : Ctx) (hC : CtxOK C Go.Proofs.Try.prog) : Meets C.glob Go.Proofs.Try.prog 20 (afun C 1 r_job_Job_Mode a_job_Job_Mode) :=
  fn_sound hC Go.Proofs.Try.func20 c_job_Job_Mode s_job_Job_Mode (Nat.le_of_ble_eq_true (by kernel_rfl))

/-- (curtilage/job.Job).keyed -/
def a_job_Job_keyed : ACode :=
 (.seq
  (.region false [⟨(some 1), (.box S1 (.tmp 0)), none⟩,
   ⟨(some 2), (.mv (.const (.bool false))), none⟩])
  (.seq
   (.region false [⟨(some 3), (.faddr S1 (.tmp 1) 0), none⟩,
    ⟨(some 4), (.load L8 (.tmp 3)), none⟩,
    ⟨(some 5), (.bin .eql (.tmp 4) (.const (u8 2#8))), none⟩,
    ⟨(some 6), (.mv (.tmp 5)), none⟩,
    ⟨(some 7), (.faddr S1 (.tmp 1) 0), some (6, false)⟩,
    ⟨(some 8), (.load L8 (.tmp 7)), some (6, false)⟩,
    ⟨(some 9), (.bin .eql (.tmp 8) (.const (u8 3#8))), some (6, false)⟩,
    ⟨(some 10), (.pick (.tmp 6) (.const (.bool true)) (.tmp 9)), none⟩,
    ⟨(some 11), (.mv (.tmp 10)), none⟩,
    ⟨(some 12), (.faddr S1 (.tmp 1) 0), some (11, false)⟩,
    ⟨(some 13), (.load L8 (.tmp 12)), some (11, false)⟩,
    ⟨(some 14), (.bin .eql (.tmp 13) (.const (u8 4#8))), some (11, false)⟩,
    ⟨(some 15), (.pick (.tmp 11) (.const (.bool true)) (.tmp 14)), none⟩,
    ⟨(some 16), (.mv (.tmp 15)), none⟩,
    ⟨(some 17), (.faddr S1 (.tmp 1) 0), some (16, false)⟩,
    ⟨(some 18), (.load L8 (.tmp 17)), some (16, false)⟩,
    ⟨(some 19), (.bin .eql (.tmp 18) (.const (u8 6#8))), some (16, false)⟩,
    ⟨(some 20), (.pick (.tmp 16) (.const (.bool true)) (.tmp 19)), none⟩,
    ⟨(some 2), (.mv (.tmp 20)), none⟩])
   .ret))
def r_job_Job_keyed : List ARes := [(.tmp 2)]
theorem c_job_Job_keyed : o2 Go.Proofs.Try.f21.body (comp Go.Proofs.Try.prog Go.Proofs.Try.f21.ntmps) = some a_job_Job_keyed := by kernel_rfl
theorem s_job_Job_keyed : cRess Go.Proofs.Try.prog Go.Proofs.Try.f21.results.toList = some r_job_Job_keyed := by kernel_rfl
theorem m_job_Job_keyed (C : Ctx) (hC : CtxOK C Go.Proofs.Try.prog) : Meets C.glob Go.Proofs.Try.prog 21 (afun C 1 r_job_Job_keyed a_job_Job_keyed) :=
  fn_sound hC Go.Proofs.Try.func21 c_job_Job_keyed s_job_Job_keyed (Nat.le_of_ble_eq_true (by kernel_rfl))

/-- curtilage/job.num -/
def a_job_num : ACode :=
 (.seq
  (.region false [⟨(some 2), (.mv (.const (u32 0#32))), none⟩])
  (.seq
   (.region true [⟨(some 3), (.mv (.tmp 0)), none⟩,
    ⟨(some 4), (.iaddrs L8 (.tmp 3) (.const (it 0))), none⟩,
    ⟨(some 5), (.load L8 (.tmp 4)), none⟩,
    ⟨(some 6), (.conv .u32 (.tmp 5)), none⟩,
    ⟨(some 7), (.bin .shl (.tmp 6) (.const (u64 24#64))), none⟩,
    ⟨(some 8), (.mv (.tmp 0)), none⟩,
    ⟨(some 9), (.iaddrs L8 (.tmp 8) (.const (it 1))), none⟩,
    ⟨(some 10), (.load L8 (.tmp 9)), none⟩,
    ⟨(some 11), (.conv .u32 (.tmp 10)), none⟩,
    ⟨(some 12), (.bin .shl (.tmp 11) (.const (u64 16#64))), none⟩,
    ⟨(some 13), (.bin .or (.tmp 7) (.tmp 12)), none⟩,
    ⟨(some 14), (.mv (.tmp 0)), none⟩,
    ⟨(some 15), (.iaddrs L8 (.tmp 14) (.const (it 2))), none⟩,
    ⟨(some 16), (.load L8 (.tmp 15)), none⟩,
    ⟨(some 17), (.conv .u32 (.tmp 16)), none⟩,
    ⟨(some 18), (.bin .shl (.tmp 17) (.const (u64 8#64))), none⟩,
    ⟨(some 19), (.bin .or (.tmp 13) (.tmp 18)), none⟩,
    ⟨(some 20), (.mv (.tmp 0)), none⟩,
    ⟨(some 21), (.iaddrs L8 (.tmp 20) (.const (it 3))), none⟩,
    ⟨(some 22), (.load L8 (.tmp 21)), none⟩,
    ⟨(some 23), (.conv .u32 (.tmp 22)), none⟩,
    ⟨(some 24), (.bin .or (.tmp 19) (.tmp 23)), none⟩,
    ⟨(some 2), (.mv (.tmp 24)), none⟩])
   .ret))
def r_job_num : List ARes := [(.tmp 2)]
theorem c_job_num : o2 Go.Proofs.Try.f22.body (comp Go.Proofs.Try.prog Go.Proofs.Try.f22.ntmps) = some a_job_num := by kernel_rfl
theorem s_job_num : cRess Go.Proofs.Try.prog Go.Proofs.Try.f22.results.toList = some r_job_num := by kernel_rfl
theorem m_job_num (C : Ctx) (hC : CtxOK C Go.Proofs.Try.prog) : Meets C.glob Go.Proofs.Try.prog 22 (afun C 1 r_job_num a_job_num) :=
  fn_sound hC Go.Proofs.Try.func22 c_job_num s_job_num (Nat.le_of_ble_eq_true (by kernel_rfl))

/-- curtilage/curtilageref01.Value -/
def a_ref01_Value : ACode :=
 (.seq
  (.region false [⟨(some 2), (.mv (.const (u64 0#64))), none⟩])
  (.seq
   (.region false [⟨(some 3), (.mv (.const (u64 0#64))), none⟩])
   (.seq
    (.seq
     (.region false [⟨(some 6), (.mv (.tmp 0)), none⟩,
      ⟨(some 7), (.len (.tmp 6)), none⟩,
      ⟨(some 8), (.mv (.const (it 0))), none⟩])
     (.block 0
      (.loop
       (.seq
        (.region false [⟨(some 9), (.bin .lss (.tmp 8) (.tmp 7)), none⟩])
        (.seq
         (.cond (.tmp 9)
          .skip
          (.exit 0))
         (.seq
          (.block 1
           (.seq
            (.region false [⟨(some 10), (.iaddrs L8 (.tmp 6) (.tmp 8)), none⟩,
             ⟨(some 11), (.load L8 (.tmp 10)), none⟩,
             ⟨(some 5), (.mv (.tmp 11)), none⟩])
            (.region false [⟨(some 12), (.mv (.tmp 3)), none⟩,
             ⟨(some 13), (.bin .mul (.const (u64 256#64)) (.tmp 12)), none⟩,
             ⟨(some 14), (.mv (.tmp 5)), none⟩,
             ⟨(some 15), (.conv .u64 (.tmp 14)), none⟩,
             ⟨(some 16), (.bin .add (.tmp 13) (.tmp 15)), none⟩,
             ⟨(some 3), (.mv (.tmp 16)), none⟩])))
          (.region false [⟨(some 17), (.bin .add (.tmp 8) (.const (it 1))), none⟩,
           ⟨(some 8), (.mv (.tmp 17)), none⟩])))))))
    (.seq
     (.region false [⟨(some 18), (.mv (.tmp 3)), none⟩,
      ⟨(some 2), (.mv (.tmp 18)), none⟩])
     .ret))))
def r_ref01_Value : List ARes := [(.tmp 2)]
theorem c_ref01_Value : o2 Go.Proofs.Try.f23.body (comp Go.Proofs.Try.prog Go.Proofs.Try.f23.ntmps) = some a_ref01_Value := by kernel_rfl
theorem s_ref01_Value : cRess Go.Proofs.Try.prog Go.Proofs.Try.f23.results.toList = some r_ref01_Value := by kernel_rfl
theorem m_ref01_Value (C : Ctx) (hC : CtxOK C Go.Proofs.Try.prog) : Meets C.glob Go.Proofs.Try.prog 23 (afun C 1 r_ref01_Value a_ref01_Value) :=
  fn_sound hC Go.Proofs.Try.func23 c_ref01_Value s_ref01_Value (Nat.le_of_ble_eq_true (by kernel_rfl))

end Go.Am.Job
