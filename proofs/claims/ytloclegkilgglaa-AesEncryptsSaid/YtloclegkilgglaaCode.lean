/- The functions as the abstract machine has them: printed. -/
import Derived.Test.YtloclegkilgglaaProg
import Derived.Test.YtloclegkilgglaaAm24
namespace Go.Am.F
set_option linter.unusedVariables false
set_option linter.unusedSimpArgs false
abbrev S1 : Sh := .cons .ref (.cons (.ar 256 L8) (.cons (.ar 256 L8) .nil))
/-- gosem.cut.init -/
def a_gosem_cut_init : ACode :=
 (.region false [⟨(some 0), .fail, none⟩])
def r_gosem_cut_init : List ARes := []
theorem c_gosem_cut_init : o2 Go.Proofs.Try.f2.body (comp Go.Proofs.Try.prog Go.Proofs.Try.f2.ntmps) = some a_gosem_cut_init := by kernel_rfl
theorem s_gosem_cut_init : cRess Go.Proofs.Try.prog Go.Proofs.Try.f2.results.toList = some r_gosem_cut_init := by kernel_rfl
theorem m_gosem_cut_init (C : Ctx) (hC : CtxOK C Go.Proofs.Try.prog) : Meets C.glob Go.Proofs.Try.prog 2 (afun C 0 r_gosem_cut_init a_gosem_cut_init) :=
  fn_sound hC Go.Proofs.Try.func2 c_gosem_cut_init s_gosem_cut_init (Nat.le_of_ble_eq_true (by kernel_rfl))

/-- curtilage/curtilagelaw03.AesBack -/
def a_law03_AesBack : ACode :=
 (.seq
  (.region false [⟨(some 4), (.box (.ar 32 L8) (.tmp 0)), none⟩,
   ⟨(some 6), (.box (.ar 16 L8) (.tmp 2)), none⟩,
   ⟨(some 7), (.box (.ar 16 L8) (.tmp 3)), none⟩,
   ⟨(some 8), (.mv (.const (.bool false))), none⟩])
  (.seq
   (.seq
    (.region false [⟨(some 11), (.call 8 []), none⟩,
     ⟨(some 12), (.un .not (.tmp 11)), none⟩])
    (.cond (.tmp 12)
     (.seq
      (.region false [⟨(some 8), (.mv (.const (.bool false))), none⟩])
      .ret)
     .skip))
   (.seq
    (.region false [⟨(some 14), (.load (.ar 32 L8) (.tmp 4)), none⟩,
     ⟨(some 15), (.mv (.tmp 1)), none⟩,
     ⟨(some 16), (.call 10 [(.tmp 14), (.tmp 15)]), none⟩,
     ⟨(some 17), (.call 9 [(.tmp 16)]), none⟩,
     ⟨(some 13), (.mv (.tmp 17)), none⟩,
     ⟨(some 18), (.ext (.tmp 13) 0), none⟩,
     ⟨(some 19), (.ext (.tmp 13) 1), none⟩,
     ⟨(some 9), (.alloc S1 (.agg S1 [(.raw (.slice none 0 0)), (.agg (.ar 256 L8) (List.replicate 256 (.raw (u8 0#8)))), (.agg (.ar 256 L8) (List.replicate 256 (.raw (u8 0#8))))])), none⟩,
     ⟨none, (.store S1 (.tmp 9) (.tmp 18)), none⟩,
     ⟨(some 10), (.mv (.tmp 19)), none⟩])
    (.seq
     (.region true [⟨(some 20), (.mv (.tmp 10)), none⟩,
      ⟨(some 21), (.bin .eql (.tmp 20) (.const (it 0))), none⟩,
      ⟨(some 22), (.mv (.tmp 21)), none⟩,
      ⟨(some 23), (.load S1 (.tmp 9)), some (22, true)⟩,
      ⟨(some 24), (.load S1 (.tmp 9)), some (22, true)⟩,
      ⟨(some 25), (.load (.ar 16 L8) (.tmp 6)), some (22, true)⟩,
      ⟨(some 26), (.call 12 [(.tmp 24), (.tmp 25)]), some (22, true)⟩,
      ⟨(some 27), (.call 11 [(.tmp 23), (.tmp 26)]), some (22, true)⟩,
      ⟨(some 28), (.load (.ar 16 L8) (.tmp 6)), some (22, true)⟩,
      ⟨(some 29), (.eqa (.ar 16 L8) false (.tmp 27) (.tmp 28)), some (22, true)⟩,
      ⟨(some 30), (.pick (.tmp 22) (.tmp 29) (.const (.bool false))), none⟩,
      ⟨(some 31), (.mv (.tmp 30)), none⟩,
      ⟨(some 32), (.load S1 (.tmp 9)), some (31, true)⟩,
      ⟨(some 33), (.load S1 (.tmp 9)), some (31, true)⟩,
      ⟨(some 34), (.load (.ar 16 L8) (.tmp 6)), some (31, true)⟩,
      ⟨(some 35), (.call 11 [(.tmp 33), (.tmp 34)]), some (31, true)⟩,
      ⟨(some 36), (.call 12 [(.tmp 32), (.tmp 35)]), some (31, true)⟩,
      ⟨(some 37), (.load (.ar 16 L8) (.tmp 6)), some (31, true)⟩,
      ⟨(some 38), (.eqa (.ar 16 L8) false (.tmp 36) (.tmp 37)), some (31, true)⟩,
      ⟨(some 39), (.pick (.tmp 31) (.tmp 38) (.const (.bool false))), none⟩,
      ⟨(some 40), (.mv (.tmp 39)), none⟩,
      ⟨(some 41), (.load S1 (.tmp 9)), some (40, true)⟩,
      ⟨(some 42), (.load (.ar 16 L8) (.tmp 6)), some (40, true)⟩,
      ⟨(some 43), (.call 12 [(.tmp 41), (.tmp 42)]), some (40, true)⟩,
      ⟨(some 44), (.load S1 (.tmp 9)), some (40, true)⟩,
      ⟨(some 45), (.load (.ar 16 L8) (.tmp 7)), some (40, true)⟩,
      ⟨(some 46), (.call 12 [(.tmp 44), (.tmp 45)]), some (40, true)⟩,
      ⟨(some 47), (.eqa (.ar 16 L8) false (.tmp 43) (.tmp 46)), some (40, true)⟩,
      ⟨(some 48), (.load (.ar 16 L8) (.tmp 6)), some (40, true)⟩,
      ⟨(some 49), (.load (.ar 16 L8) (.tmp 7)), some (40, true)⟩,
      ⟨(some 50), (.eqa (.ar 16 L8) false (.tmp 48) (.tmp 49)), some (40, true)⟩,
      ⟨(some 51), (.beq false (.tmp 47) (.tmp 50)), some (40, true)⟩,
      ⟨(some 52), (.pick (.tmp 40) (.tmp 51) (.const (.bool false))), none⟩,
      ⟨(some 8), (.mv (.tmp 52)), none⟩])
     .ret))))
def r_law03_AesBack : List ARes := [(.tmp 8)]
theorem c_law03_AesBack : o2 Go.Proofs.Try.f3.body (comp Go.Proofs.Try.prog Go.Proofs.Try.f3.ntmps) = some a_law03_AesBack := by kernel_rfl
theorem s_law03_AesBack : cRess Go.Proofs.Try.prog Go.Proofs.Try.f3.results.toList = some r_law03_AesBack := by kernel_rfl
theorem m_law03_AesBack (C : Ctx) (hC : CtxOK C Go.Proofs.Try.prog) : Meets C.glob Go.Proofs.Try.prog 3 (afun C 4 r_law03_AesBack a_law03_AesBack) :=
  fn_sound hC Go.Proofs.Try.func3 c_law03_AesBack s_law03_AesBack (Nat.le_of_ble_eq_true (by kernel_rfl))

/-- curtilage/curtilagelaw03.AesField -/
def a_law03_AesField : ACode :=
 (.seq
  (.region false [⟨(some 6), (.mv (.const (.bool false))), none⟩])
  (.seq
   (.seq
    (.region false [⟨(some 7), (.call 8 []), none⟩,
     ⟨(some 8), (.un .not (.tmp 7)), none⟩])
    (.cond (.tmp 8)
     (.seq
      (.region false [⟨(some 6), (.mv (.const (.bool false))), none⟩])
      .ret)
     .skip))
   (.seq
    (.region false [⟨(some 9), (.mv (.tmp 0)), none⟩,
     ⟨(some 10), (.mv (.tmp 1)), none⟩,
     ⟨(some 11), (.call 13 [(.tmp 9), (.tmp 10)]), none⟩,
     ⟨(some 12), (.mv (.tmp 0)), none⟩,
     ⟨(some 13), (.mv (.tmp 1)), none⟩,
     ⟨(some 14), (.call 14 [(.tmp 12), (.tmp 13)]), none⟩,
     ⟨(some 15), (.bin .eql (.tmp 11) (.tmp 14)), none⟩,
     ⟨(some 16), (.mv (.tmp 15)), none⟩,
     ⟨(some 17), (.mv (.tmp 0)), some (16, true)⟩,
     ⟨(some 18), (.mv (.tmp 1)), some (16, true)⟩,
     ⟨(some 19), (.call 13 [(.tmp 17), (.tmp 18)]), some (16, true)⟩,
     ⟨(some 20), (.mv (.tmp 1)), some (16, true)⟩,
     ⟨(some 21), (.mv (.tmp 0)), some (16, true)⟩,
     ⟨(some 22), (.call 13 [(.tmp 20), (.tmp 21)]), some (16, true)⟩,
     ⟨(some 23), (.bin .eql (.tmp 19) (.tmp 22)), some (16, true)⟩,
     ⟨(some 24), (.pick (.tmp 16) (.tmp 23) (.const (.bool false))), none⟩,
     ⟨(some 25), (.mv (.tmp 24)), none⟩,
     ⟨(some 26), (.mv (.tmp 0)), some (25, true)⟩,
     ⟨(some 27), (.mv (.tmp 1)), some (25, true)⟩,
     ⟨(some 28), (.mv (.tmp 2)), some (25, true)⟩,
     ⟨(some 29), (.bin .xor (.tmp 27) (.tmp 28)), some (25, true)⟩,
     ⟨(some 30), (.call 13 [(.tmp 26), (.tmp 29)]), some (25, true)⟩,
     ⟨(some 31), (.mv (.tmp 0)), some (25, true)⟩,
     ⟨(some 32), (.mv (.tmp 1)), some (25, true)⟩,
     ⟨(some 33), (.call 13 [(.tmp 31), (.tmp 32)]), some (25, true)⟩,
     ⟨(some 34), (.mv (.tmp 0)), some (25, true)⟩,
     ⟨(some 35), (.mv (.tmp 2)), some (25, true)⟩,
     ⟨(some 36), (.call 13 [(.tmp 34), (.tmp 35)]), some (25, true)⟩,
     ⟨(some 37), (.bin .xor (.tmp 33) (.tmp 36)), some (25, true)⟩,
     ⟨(some 38), (.bin .eql (.tmp 30) (.tmp 37)), some (25, true)⟩,
     ⟨(some 39), (.pick (.tmp 25) (.tmp 38) (.const (.bool false))), none⟩,
     ⟨(some 40), (.mv (.tmp 39)), none⟩,
     ⟨(some 41), (.mv (.tmp 0)), some (40, true)⟩,
     ⟨(some 42), (.mv (.tmp 1)), some (40, true)⟩,
     ⟨(some 43), (.call 13 [(.tmp 41), (.tmp 42)]), some (40, true)⟩,
     ⟨(some 44), (.mv (.tmp 2)), some (40, true)⟩,
     ⟨(some 45), (.call 13 [(.tmp 43), (.tmp 44)]), some (40, true)⟩,
     ⟨(some 46), (.mv (.tmp 0)), some (40, true)⟩,
     ⟨(some 47), (.mv (.tmp 1)), some (40, true)⟩,
     ⟨(some 48), (.mv (.tmp 2)), some (40, true)⟩,
     ⟨(some 49), (.call 13 [(.tmp 47), (.tmp 48)]), some (40, true)⟩,
     ⟨(some 50), (.call 13 [(.tmp 46), (.tmp 49)]), some (40, true)⟩,
     ⟨(some 51), (.bin .eql (.tmp 45) (.tmp 50)), some (40, true)⟩,
     ⟨(some 52), (.pick (.tmp 40) (.tmp 51) (.const (.bool false))), none⟩,
     ⟨(some 53), (.mv (.tmp 52)), none⟩,
     ⟨(some 54), (.mv (.tmp 0)), some (53, true)⟩,
     ⟨(some 55), (.call 13 [(.tmp 54), (.const (u8 1#8))]), some (53, true)⟩,
     ⟨(some 56), (.mv (.tmp 0)), some (53, true)⟩,
     ⟨(some 57), (.bin .eql (.tmp 55) (.tmp 56)), some (53, true)⟩,
     ⟨(some 58), (.pick (.tmp 53) (.tmp 57) (.const (.bool false))), none⟩,
     ⟨(some 59), (.mv (.tmp 58)), none⟩,
     ⟨(some 60), (.mv (.tmp 0)), some (59, true)⟩,
     ⟨(some 61), (.call 15 [(.tmp 60)]), some (59, true)⟩,
     ⟨(some 62), (.mv (.tmp 0)), some (59, true)⟩,
     ⟨(some 63), (.call 16 [(.tmp 62)]), some (59, true)⟩,
     ⟨(some 64), (.bin .eql (.tmp 61) (.tmp 63)), some (59, true)⟩,
     ⟨(some 65), (.pick (.tmp 59) (.tmp 64) (.const (.bool false))), none⟩,
     ⟨(some 66), (.mv (.tmp 65)), none⟩,
     ⟨(some 67), (.mv (.tmp 0)), some (66, true)⟩,
     ⟨(some 68), (.call 15 [(.tmp 67)]), some (66, true)⟩,
     ⟨(some 69), (.call 17 [(.tmp 68)]), some (66, true)⟩,
     ⟨(some 70), (.mv (.tmp 0)), some (66, true)⟩,
     ⟨(some 71), (.bin .eql (.tmp 69) (.tmp 70)), some (66, true)⟩,
     ⟨(some 72), (.pick (.tmp 66) (.tmp 71) (.const (.bool false))), none⟩,
     ⟨(some 73), (.mv (.tmp 72)), none⟩,
     ⟨(some 74), (.mv (.tmp 1)), some (73, true)⟩,
     ⟨(some 75), (.call 17 [(.tmp 74)]), some (73, true)⟩,
     ⟨(some 76), (.call 15 [(.tmp 75)]), some (73, true)⟩,
     ⟨(some 77), (.mv (.tmp 1)), some (73, true)⟩,
     ⟨(some 78), (.bin .eql (.tmp 76) (.tmp 77)), some (73, true)⟩,
     ⟨(some 79), (.pick (.tmp 73) (.tmp 78) (.const (.bool false))), none⟩,
     ⟨(some 6), (.mv (.tmp 79)), none⟩])
    .ret)))
def r_law03_AesField : List ARes := [(.tmp 6)]
theorem c_law03_AesField : o2 Go.Proofs.Try.f4.body (comp Go.Proofs.Try.prog Go.Proofs.Try.f4.ntmps) = some a_law03_AesField := by kernel_rfl
theorem s_law03_AesField : cRess Go.Proofs.Try.prog Go.Proofs.Try.f4.results.toList = some r_law03_AesField := by kernel_rfl
theorem m_law03_AesField (C : Ctx) (hC : CtxOK C Go.Proofs.Try.prog) : Meets C.glob Go.Proofs.Try.prog 4 (afun C 3 r_law03_AesField a_law03_AesField) :=
  fn_sound hC Go.Proofs.Try.func4 c_law03_AesField s_law03_AesField (Nat.le_of_ble_eq_true (by kernel_rfl))

/-- curtilage/curtilagelaw03.AesEncrypts -/
def a_law03_AesEncrypts : ACode :=
 (.seq
  (.region false [⟨(some 3), (.box (.ar 32 L8) (.tmp 0)), none⟩,
   ⟨(some 5), (.box (.ar 16 L8) (.tmp 2)), none⟩,
   ⟨(some 6), (.mv (.const (.bool false))), none⟩])
  (.seq
   (.seq
    (.region false [⟨(some 14), (.call 8 []), none⟩,
     ⟨(some 15), (.un .not (.tmp 14)), none⟩])
    (.cond (.tmp 15)
     (.seq
      (.region false [⟨(some 6), (.mv (.const (.bool false))), none⟩])
      .ret)
     .skip))
   (.seq
    (.region false [⟨(some 16), (.load (.ar 32 L8) (.tmp 3)), none⟩,
     ⟨(some 17), (.mv (.tmp 1)), none⟩,
     ⟨(some 18), (.call 10 [(.tmp 16), (.tmp 17)]), none⟩,
     ⟨(some 7), (.mv (.tmp 18)), none⟩])
    (.seq
     (.region false [⟨(some 20), (.mv (.tmp 7)), none⟩,
      ⟨(some 21), (.call 9 [(.tmp 20)]), none⟩,
      ⟨(some 19), (.mv (.tmp 21)), none⟩,
      ⟨(some 22), (.ext (.tmp 19) 0), none⟩,
      ⟨(some 23), (.ext (.tmp 19) 1), none⟩,
      ⟨(some 8), (.alloc S1 (.agg S1 [(.raw (.slice none 0 0)), (.agg (.ar 256 L8) (List.replicate 256 (.raw (u8 0#8)))), (.agg (.ar 256 L8) (List.replicate 256 (.raw (u8 0#8))))])), none⟩,
      ⟨none, (.store S1 (.tmp 8) (.tmp 22)), none⟩,
      ⟨(some 9), (.mv (.tmp 23)), none⟩])
     (.seq
      (.seq
       (.region true [⟨(some 24), (.mv (.tmp 9)), none⟩,
        ⟨(some 25), (.bin .neq (.tmp 24) (.const (it 0))), none⟩,
        ⟨(some 26), (.mv (.tmp 25)), none⟩,
        ⟨(some 27), (.load S1 (.tmp 8)), some (26, false)⟩,
        ⟨(some 28), (.load (.ar 16 L8) (.tmp 5)), some (26, false)⟩,
        ⟨(some 29), (.call 12 [(.tmp 27), (.tmp 28)]), some (26, false)⟩,
        ⟨(some 30), (.mv (.tmp 7)), some (26, false)⟩,
        ⟨(some 31), (.load (.ar 16 L8) (.tmp 5)), some (26, false)⟩,
        ⟨(some 32), (.call 18 [(.tmp 30), (.tmp 31)]), some (26, false)⟩,
        ⟨(some 33), (.eqa (.ar 16 L8) true (.tmp 29) (.tmp 32)), some (26, false)⟩,
        ⟨(some 34), (.pick (.tmp 26) (.const (.bool true)) (.tmp 33)), none⟩,
        ⟨(some 35), (.mv (.tmp 34)), none⟩,
        ⟨(some 36), (.load S1 (.tmp 8)), some (35, false)⟩,
        ⟨(some 37), (.call 19 [(.tmp 36)]), some (35, false)⟩,
        ⟨(some 38), (.mv (.tmp 7)), some (35, false)⟩,
        ⟨(some 39), (.len (.tmp 38)), some (35, false)⟩,
        ⟨(some 40), (.bin .quo (.tmp 39) (.const (it 4))), some (35, false)⟩,
        ⟨(some 41), (.bin .add (.tmp 40) (.const (it 6))), some (35, false)⟩,
        ⟨(some 42), (.bin .neq (.tmp 37) (.tmp 41)), some (35, false)⟩,
        ⟨(some 43), (.pick (.tmp 35) (.const (.bool true)) (.tmp 42)), none⟩])
       (.cond (.tmp 43)
        (.seq
         (.region false [⟨(some 6), (.mv (.const (.bool false))), none⟩])
         .ret)
        .skip))
      (.seq
       (.region false [⟨(some 44), (.load S1 (.tmp 8)), none⟩,
        ⟨(some 45), (.call 20 [(.tmp 44)]), none⟩,
        ⟨(some 46), (.mv (.tmp 7)), none⟩,
        ⟨(some 47), (.call 21 [(.tmp 46)]), none⟩,
        ⟨(some 10), (.mv (.tmp 45)), none⟩,
        ⟨(some 11), (.mv (.tmp 47)), none⟩])
       (.seq
        (.seq
         (.region false [⟨(some 48), (.mv (.tmp 10)), none⟩,
          ⟨(some 49), (.len (.tmp 48)), none⟩,
          ⟨(some 50), (.mv (.tmp 11)), none⟩,
          ⟨(some 51), (.len (.tmp 50)), none⟩,
          ⟨(some 52), (.bin .neq (.tmp 49) (.tmp 51)), none⟩])
         (.cond (.tmp 52)
          (.seq
           (.region false [⟨(some 6), (.mv (.const (.bool false))), none⟩])
           .ret)
          .skip))
        (.seq
         (.seq
          (.region false [⟨(some 53), (.mv (.tmp 10)), none⟩,
           ⟨(some 54), (.len (.tmp 53)), none⟩,
           ⟨(some 55), (.mv (.const (it 0))), none⟩])
          (.block 0
           (.loop
            (.seq
             (.region false [⟨(some 56), (.bin .lss (.tmp 55) (.tmp 54)), none⟩])
             (.seq
              (.cond (.tmp 56)
               .skip
               (.exit 0))
              (.seq
               (.block 1
                (.seq
                 (.region false [⟨(some 57), (.mv (.tmp 55)), none⟩,
                  ⟨(some 58), (.iaddrs L32 (.tmp 53) (.tmp 55)), none⟩,
                  ⟨(some 59), (.load L32 (.tmp 58)), none⟩,
                  ⟨(some 12), (.mv (.tmp 57)), none⟩,
                  ⟨(some 13), (.mv (.tmp 59)), none⟩])
                 (.seq
                  (.region false [⟨(some 60), (.mv (.tmp 13)), none⟩,
                   ⟨(some 61), (.conv .u64 (.tmp 60)), none⟩,
                   ⟨(some 62), (.mv (.tmp 11)), none⟩,
                   ⟨(some 63), (.mv (.tmp 12)), none⟩,
                   ⟨(some 64), (.iaddrs .ref (.tmp 62) (.tmp 63)), none⟩,
                   ⟨(some 65), (.load .ref (.tmp 64)), none⟩,
                   ⟨(some 66), (.call 22 [(.tmp 65)]), none⟩,
                   ⟨(some 67), (.bin .neq (.tmp 61) (.tmp 66)), none⟩])
                  (.cond (.tmp 67)
                   (.seq
                    (.region false [⟨(some 6), (.mv (.const (.bool false))), none⟩])
                    .ret)
                   .skip))))
               (.region false [⟨(some 68), (.bin .add (.tmp 55) (.const (it 1))), none⟩,
                ⟨(some 55), (.mv (.tmp 68)), none⟩])))))))
         (.seq
          (.region false [⟨(some 6), (.mv (.const (.bool true))), none⟩])
          .ret)))))))))
def r_law03_AesEncrypts : List ARes := [(.tmp 6)]
theorem c_law03_AesEncrypts : o2 Go.Proofs.Try.f5.body (comp Go.Proofs.Try.prog Go.Proofs.Try.f5.ntmps) = some a_law03_AesEncrypts := by kernel_rfl
theorem s_law03_AesEncrypts : cRess Go.Proofs.Try.prog Go.Proofs.Try.f5.results.toList = some r_law03_AesEncrypts := by kernel_rfl
theorem m_law03_AesEncrypts (C : Ctx) (hC : CtxOK C Go.Proofs.Try.prog) : Meets C.glob Go.Proofs.Try.prog 5 (afun C 3 r_law03_AesEncrypts a_law03_AesEncrypts) :=
  fn_sound hC Go.Proofs.Try.func5 c_law03_AesEncrypts s_law03_AesEncrypts (Nat.le_of_ble_eq_true (by kernel_rfl))

/-- curtilage/curtilagelaw03.AesSchedules -/
def a_law03_AesSchedules : ACode :=
 (.seq
  (.region false [⟨(some 3), (.box (.ar 32 L8) (.tmp 0)), none⟩,
   ⟨(some 4), (.box (.ar 32 L8) (.tmp 1)), none⟩,
   ⟨(some 6), (.mv (.const (.bool false))), none⟩])
  (.seq
   (.seq
    (.region false [⟨(some 19), (.call 8 []), none⟩,
     ⟨(some 20), (.un .not (.tmp 19)), none⟩])
    (.cond (.tmp 20)
     (.seq
      (.region false [⟨(some 6), (.mv (.const (.bool false))), none⟩])
      .ret)
     .skip))
   (.seq
    (.draw1 [⟨(some 21), (.load (.ar 32 L8) (.tmp 3)), none⟩,
     ⟨(some 22), (.mv (.tmp 2)), none⟩,
     ⟨(some 23), (.call 10 [(.tmp 21), (.tmp 22)]), none⟩,
     ⟨(some 24), (.load (.ar 32 L8) (.tmp 4)), none⟩,
     ⟨(some 25), (.mv (.tmp 2)), none⟩]
     [⟨(some 26), (.call 10 [(.tmp 24), (.tmp 25)]), none⟩,
     ⟨(some 7), (.mv (.tmp 23)), none⟩,
     ⟨(some 8), (.mv (.tmp 26)), none⟩])
    (.seq
     (.region false [⟨(some 28), (.mv (.tmp 7)), none⟩,
      ⟨(some 29), (.call 9 [(.tmp 28)]), none⟩,
      ⟨(some 27), (.mv (.tmp 29)), none⟩,
      ⟨(some 30), (.ext (.tmp 27) 0), none⟩,
      ⟨(some 31), (.ext (.tmp 27) 1), none⟩,
      ⟨(some 9), (.alloc S1 (.agg S1 [(.raw (.slice none 0 0)), (.agg (.ar 256 L8) (List.replicate 256 (.raw (u8 0#8)))), (.agg (.ar 256 L8) (List.replicate 256 (.raw (u8 0#8))))])), none⟩,
      ⟨none, (.store S1 (.tmp 9) (.tmp 30)), none⟩,
      ⟨(some 10), (.mv (.tmp 31)), none⟩])
     (.seq
      (.region false [⟨(some 33), (.mv (.tmp 8)), none⟩,
       ⟨(some 34), (.call 9 [(.tmp 33)]), none⟩,
       ⟨(some 32), (.mv (.tmp 34)), none⟩,
       ⟨(some 35), (.ext (.tmp 32) 0), none⟩,
       ⟨(some 36), (.ext (.tmp 32) 1), none⟩,
       ⟨(some 11), (.alloc S1 (.agg S1 [(.raw (.slice none 0 0)), (.agg (.ar 256 L8) (List.replicate 256 (.raw (u8 0#8)))), (.agg (.ar 256 L8) (List.replicate 256 (.raw (u8 0#8))))])), none⟩,
       ⟨none, (.store S1 (.tmp 11) (.tmp 35)), none⟩,
       ⟨(some 12), (.mv (.tmp 36)), none⟩])
      (.seq
       (.region false [⟨(some 37), (.mv (.tmp 7)), none⟩,
        ⟨(some 38), (.len (.tmp 37)), none⟩,
        ⟨(some 39), (.bin .quo (.tmp 38) (.const (it 4))), none⟩,
        ⟨(some 13), (.mv (.tmp 39)), none⟩])
       (.seq
        (.draw1 [⟨(some 40), (.load S1 (.tmp 9)), none⟩,
         ⟨(some 41), (.call 20 [(.tmp 40)]), none⟩,
         ⟨(some 42), (.load S1 (.tmp 11)), none⟩]
         [⟨(some 43), (.call 20 [(.tmp 42)]), none⟩,
         ⟨(some 14), (.mv (.tmp 41)), none⟩,
         ⟨(some 15), (.mv (.tmp 43)), none⟩])
        (.seq
         (.seq
          (.region false [⟨(some 44), (.mv (.tmp 14)), none⟩,
           ⟨(some 45), (.len (.tmp 44)), none⟩,
           ⟨(some 46), (.mv (.tmp 13)), none⟩,
           ⟨(some 47), (.bin .add (.tmp 46) (.const (it 7))), none⟩,
           ⟨(some 48), (.bin .mul (.const (it 4)) (.tmp 47)), none⟩,
           ⟨(some 49), (.bin .neq (.tmp 45) (.tmp 48)), none⟩,
           ⟨(some 50), (.mv (.tmp 49)), none⟩,
           ⟨(some 51), (.mv (.tmp 15)), some (50, false)⟩,
           ⟨(some 52), (.len (.tmp 51)), some (50, false)⟩,
           ⟨(some 53), (.mv (.tmp 14)), some (50, false)⟩,
           ⟨(some 54), (.len (.tmp 53)), some (50, false)⟩,
           ⟨(some 55), (.bin .neq (.tmp 52) (.tmp 54)), some (50, false)⟩,
           ⟨(some 56), (.pick (.tmp 50) (.const (.bool true)) (.tmp 55)), none⟩])
          (.cond (.tmp 56)
           (.seq
            (.region false [⟨(some 6), (.mv (.const (.bool false))), none⟩])
            .ret)
           .skip))
         (.seq
          (.region false [⟨(some 16), (.mv (.const (.bool true))), none⟩])
          (.seq
           (.seq
            (.region false [⟨(some 57), (.mv (.tmp 14)), none⟩,
             ⟨(some 58), (.len (.tmp 57)), none⟩,
             ⟨(some 59), (.mv (.const (it 0))), none⟩])
            (.block 0
             (.loop
              (.seq
               (.region false [⟨(some 60), (.bin .lss (.tmp 59) (.tmp 58)), none⟩])
               (.seq
                (.cond (.tmp 60)
                 .skip
                 (.exit 0))
                (.seq
                 (.block 1
                  (.seq
                   (.region false [⟨(some 61), (.mv (.tmp 59)), none⟩,
                    ⟨(some 62), (.iaddrs L32 (.tmp 57) (.tmp 59)), none⟩,
                    ⟨(some 63), (.load L32 (.tmp 62)), none⟩,
                    ⟨(some 17), (.mv (.tmp 61)), none⟩,
                    ⟨(some 18), (.mv (.tmp 63)), none⟩])
                   (.seq
                    (.region false [⟨(some 64), (.mv (.tmp 16)), none⟩,
                     ⟨(some 65), (.mv (.tmp 64)), none⟩,
                     ⟨(some 66), (.mv (.tmp 18)), some (65, true)⟩,
                     ⟨(some 67), (.mv (.tmp 15)), some (65, true)⟩,
                     ⟨(some 68), (.mv (.tmp 17)), some (65, true)⟩,
                     ⟨(some 69), (.iaddrs L32 (.tmp 67) (.tmp 68)), some (65, true)⟩,
                     ⟨(some 70), (.load L32 (.tmp 69)), some (65, true)⟩,
                     ⟨(some 71), (.bin .eql (.tmp 66) (.tmp 70)), some (65, true)⟩,
                     ⟨(some 72), (.pick (.tmp 65) (.tmp 71) (.const (.bool false))), none⟩,
                     ⟨(some 16), (.mv (.tmp 72)), none⟩])
                    (.seq
                     (.seq
                      (.region false [⟨(some 73), (.mv (.tmp 17)), none⟩,
                       ⟨(some 74), (.mv (.tmp 13)), none⟩,
                       ⟨(some 75), (.bin .lss (.tmp 73) (.tmp 74)), none⟩,
                       ⟨(some 76), (.mv (.tmp 75)), none⟩,
                       ⟨(some 77), (.mv (.tmp 18)), some (76, true)⟩,
                       ⟨(some 78), (.conv .u64 (.tmp 77)), some (76, true)⟩,
                       ⟨(some 79), (.mv (.tmp 7)), some (76, true)⟩,
                       ⟨(some 80), (.mv (.tmp 17)), some (76, true)⟩,
                       ⟨(some 81), (.bin .mul (.const (it 4)) (.tmp 80)), some (76, true)⟩,
                       ⟨(some 82), (.mv (.tmp 17)), some (76, true)⟩,
                       ⟨(some 83), (.bin .mul (.const (it 4)) (.tmp 82)), some (76, true)⟩,
                       ⟨(some 84), (.bin .add (.tmp 83) (.const (it 4))), some (76, true)⟩,
                       ⟨(some 85), (.slice L8 (.tmp 79) (some (.tmp 81)) (some (.tmp 84)) none), some (76, true)⟩,
                       ⟨(some 86), (.call 22 [(.tmp 85)]), some (76, true)⟩,
                       ⟨(some 87), (.bin .neq (.tmp 78) (.tmp 86)), some (76, true)⟩,
                       ⟨(some 88), (.pick (.tmp 76) (.tmp 87) (.const (.bool false))), none⟩])
                      (.cond (.tmp 88)
                       (.seq
                        (.region false [⟨(some 6), (.mv (.const (.bool false))), none⟩])
                        .ret)
                       .skip))
                     (.seq
                      (.region true [⟨(some 89), (.mv (.tmp 17)), none⟩,
                       ⟨(some 90), (.mv (.tmp 13)), none⟩,
                       ⟨(some 91), (.bin .geq (.tmp 89) (.tmp 90)), none⟩,
                       ⟨(some 92), (.mv (.tmp 91)), none⟩,
                       ⟨(some 93), (.mv (.tmp 17)), some (92, true)⟩,
                       ⟨(some 94), (.mv (.tmp 13)), some (92, true)⟩,
                       ⟨(some 95), (.bin .rem (.tmp 93) (.tmp 94)), some (92, true)⟩,
                       ⟨(some 96), (.bin .neq (.tmp 95) (.const (it 0))), some (92, true)⟩,
                       ⟨(some 97), (.pick (.tmp 92) (.tmp 96) (.const (.bool false))), none⟩,
                       ⟨(some 98), (.mv (.tmp 97)), none⟩,
                       ⟨(some 99), (.mv (.tmp 13)), some (98, true)⟩,
                       ⟨(some 100), (.bin .eql (.tmp 99) (.const (it 8))), some (98, true)⟩,
                       ⟨(some 101), (.mv (.tmp 100)), some (98, true)⟩,
                       ⟨(some 102), (.mv (.tmp 17)), some (101, true)⟩,
                       ⟨(some 103), (.bin .rem (.tmp 102) (.const (it 8))), some (101, true)⟩,
                       ⟨(some 104), (.bin .eql (.tmp 103) (.const (it 4))), some (101, true)⟩,
                       ⟨(some 105), (.pick (.tmp 101) (.tmp 104) (.const (.bool false))), some (98, true)⟩,
                       ⟨(some 106), (.un .not (.tmp 105)), some (98, true)⟩,
                       ⟨(some 107), (.pick (.tmp 98) (.tmp 106) (.const (.bool false))), none⟩,
                       ⟨(some 108), (.mv (.tmp 107)), none⟩,
                       ⟨(some 109), (.mv (.tmp 18)), some (108, true)⟩,
                       ⟨(some 110), (.mv (.tmp 14)), some (108, true)⟩,
                       ⟨(some 111), (.mv (.tmp 17)), some (108, true)⟩,
                       ⟨(some 112), (.mv (.tmp 13)), some (108, true)⟩,
                       ⟨(some 113), (.bin .sub (.tmp 111) (.tmp 112)), some (108, true)⟩,
                       ⟨(some 114), (.iaddrs L32 (.tmp 110) (.tmp 113)), some (108, true)⟩,
                       ⟨(some 115), (.load L32 (.tmp 114)), some (108, true)⟩,
                       ⟨(some 116), (.mv (.tmp 14)), some (108, true)⟩,
                       ⟨(some 117), (.mv (.tmp 17)), some (108, true)⟩,
                       ⟨(some 118), (.bin .sub (.tmp 117) (.const (it 1))), some (108, true)⟩,
                       ⟨(some 119), (.iaddrs L32 (.tmp 116) (.tmp 118)), some (108, true)⟩,
                       ⟨(some 120), (.load L32 (.tmp 119)), some (108, true)⟩,
                       ⟨(some 121), (.bin .xor (.tmp 115) (.tmp 120)), some (108, true)⟩,
                       ⟨(some 122), (.bin .neq (.tmp 109) (.tmp 121)), some (108, true)⟩,
                       ⟨(some 123), (.pick (.tmp 108) (.tmp 122) (.const (.bool false))), none⟩])
                      (.cond (.tmp 123)
                       (.seq
                        (.region false [⟨(some 6), (.mv (.const (.bool false))), none⟩])
                        .ret)
                       .skip))))))
                 (.region false [⟨(some 124), (.bin .add (.tmp 59) (.const (it 1))), none⟩,
                  ⟨(some 59), (.mv (.tmp 124)), none⟩])))))))
           (.seq
            (.region false [⟨(some 125), (.mv (.tmp 16)), none⟩,
             ⟨(some 126), (.mv (.tmp 7)), none⟩,
             ⟨(some 127), (.mv (.tmp 8)), none⟩,
             ⟨(some 128), (.call 23 [(.tmp 126), (.tmp 127)]), none⟩,
             ⟨(some 129), (.beq false (.tmp 125) (.tmp 128)), none⟩,
             ⟨(some 6), (.mv (.tmp 129)), none⟩])
            .ret)))))))))))
def r_law03_AesSchedules : List ARes := [(.tmp 6)]
theorem c_law03_AesSchedules : o2 Go.Proofs.Try.f6.body (comp Go.Proofs.Try.prog Go.Proofs.Try.f6.ntmps) = some a_law03_AesSchedules := by kernel_rfl
theorem s_law03_AesSchedules : cRess Go.Proofs.Try.prog Go.Proofs.Try.f6.results.toList = some r_law03_AesSchedules := by kernel_rfl
theorem m_law03_AesSchedules (C : Ctx) (hC : CtxOK C Go.Proofs.Try.prog) : Meets C.glob Go.Proofs.Try.prog 6 (afun C 3 r_law03_AesSchedules a_law03_AesSchedules) :=
  fn_sound hC Go.Proofs.Try.func6 c_law03_AesSchedules s_law03_AesSchedules (Nat.le_of_ble_eq_true (by kernel_rfl))

/-- curtilage/curtilagelaw03.AesArgs -/
def a_law03_AesArgs : ACode :=
 (.seq
  (.region false [⟨(some 5), (.box (.ar 16 L8) (.tmp 1)), none⟩,
   ⟨(some 6), (.box (.ar 16 L8) (.tmp 2)), none⟩,
   ⟨(some 7), (.box (.ar 16 L8) (.tmp 3)), none⟩,
   ⟨(some 8), (.mv (.const (.bool false))), none⟩])
  (.seq
   (.seq
    (.region false [⟨(some 17), (.call 8 []), none⟩,
     ⟨(some 18), (.un .not (.tmp 17)), none⟩])
    (.cond (.tmp 18)
     (.seq
      (.region false [⟨(some 8), (.mv (.const (.bool false))), none⟩])
      .ret)
     .skip))
   (.seq
    (.region false [⟨(some 19), (.mv (.tmp 0)), none⟩,
     ⟨(some 20), (.call 24 [(.tmp 19), (.const (it 40))]), none⟩,
     ⟨(some 0), (.mv (.tmp 20)), none⟩])
    (.seq
     (.region false [⟨(some 21), (.mv (.tmp 0)), none⟩,
      ⟨(some 22), (.call 24 [(.tmp 21), (.const (it 40))]), none⟩,
      ⟨(some 9), (.mv (.tmp 22)), none⟩])
     (.seq
      (.region false [⟨(some 24), (.mv (.tmp 9)), none⟩,
       ⟨(some 25), (.call 9 [(.tmp 24)]), none⟩,
       ⟨(some 23), (.mv (.tmp 25)), none⟩,
       ⟨(some 26), (.ext (.tmp 23) 0), none⟩,
       ⟨(some 27), (.ext (.tmp 23) 1), none⟩,
       ⟨(some 10), (.alloc S1 (.agg S1 [(.raw (.slice none 0 0)), (.agg (.ar 256 L8) (List.replicate 256 (.raw (u8 0#8)))), (.agg (.ar 256 L8) (List.replicate 256 (.raw (u8 0#8))))])), none⟩,
       ⟨none, (.store S1 (.tmp 10) (.tmp 26)), none⟩,
       ⟨(some 11), (.mv (.tmp 27)), none⟩])
      (.seq
       (.region false [⟨(some 28), (.mv (.tmp 0)), none⟩,
        ⟨(some 29), (.len (.tmp 28)), none⟩,
        ⟨(some 30), (.bin .eql (.tmp 29) (.const (it 16))), none⟩,
        ⟨(some 31), (.mv (.tmp 30)), none⟩,
        ⟨(some 32), (.mv (.tmp 0)), some (31, false)⟩,
        ⟨(some 33), (.len (.tmp 32)), some (31, false)⟩,
        ⟨(some 34), (.bin .eql (.tmp 33) (.const (it 32))), some (31, false)⟩,
        ⟨(some 35), (.pick (.tmp 31) (.const (.bool true)) (.tmp 34)), none⟩,
        ⟨(some 12), (.mv (.tmp 35)), none⟩])
       (.seq
        (.seq
         (.region true [⟨(some 36), (.mv (.tmp 11)), none⟩,
          ⟨(some 37), (.bin .eql (.tmp 36) (.const (it 0))), none⟩,
          ⟨(some 38), (.mv (.tmp 12)), none⟩,
          ⟨(some 39), (.beq true (.tmp 37) (.tmp 38)), none⟩,
          ⟨(some 40), (.mv (.tmp 39)), none⟩,
          ⟨(some 41), (.mv (.tmp 12)), some (40, false)⟩,
          ⟨(some 42), (.un .not (.tmp 41)), some (40, false)⟩,
          ⟨(some 43), (.mv (.tmp 42)), some (40, false)⟩,
          ⟨(some 44), (.mv (.tmp 11)), some (43, true)⟩,
          ⟨(some 45), (.bin .neq (.tmp 44) (.const (it 1))), some (43, true)⟩,
          ⟨(some 46), (.mv (.tmp 45)), some (43, true)⟩,
          ⟨(some 47), (.load S1 (.tmp 10)), some (46, false)⟩,
          ⟨(some 48), (.call 19 [(.tmp 47)]), some (46, false)⟩,
          ⟨(some 49), (.bin .neq (.tmp 48) (.const (it 0))), some (46, false)⟩,
          ⟨(some 50), (.pick (.tmp 46) (.const (.bool true)) (.tmp 49)), some (43, true)⟩,
          ⟨(some 51), (.mv (.tmp 50)), some (43, true)⟩,
          ⟨(some 52), (.load S1 (.tmp 10)), some (51, false)⟩,
          ⟨(some 53), (.call 20 [(.tmp 52)]), some (51, false)⟩,
          ⟨(some 54), (.len (.tmp 53)), some (51, false)⟩,
          ⟨(some 55), (.bin .neq (.tmp 54) (.const (it 0))), some (51, false)⟩,
          ⟨(some 56), (.pick (.tmp 51) (.const (.bool true)) (.tmp 55)), some (43, true)⟩,
          ⟨(some 57), (.mv (.tmp 56)), some (43, true)⟩,
          ⟨(some 58), (.load S1 (.tmp 10)), some (57, false)⟩,
          ⟨(some 59), (.load (.ar 16 L8) (.tmp 5)), some (57, false)⟩,
          ⟨(some 60), (.call 12 [(.tmp 58), (.tmp 59)]), some (57, false)⟩,
          ⟨(some 61), (.load (.ar 16 L8) (.tmp 5)), some (57, false)⟩,
          ⟨(some 62), (.eqa (.ar 16 L8) true (.tmp 60) (.tmp 61)), some (57, false)⟩,
          ⟨(some 63), (.pick (.tmp 57) (.const (.bool true)) (.tmp 62)), some (43, true)⟩,
          ⟨(some 64), (.mv (.tmp 63)), some (43, true)⟩,
          ⟨(some 65), (.load S1 (.tmp 10)), some (64, false)⟩,
          ⟨(some 66), (.load (.ar 16 L8) (.tmp 5)), some (64, false)⟩,
          ⟨(some 67), (.call 11 [(.tmp 65), (.tmp 66)]), some (64, false)⟩,
          ⟨(some 68), (.load (.ar 16 L8) (.tmp 5)), some (64, false)⟩,
          ⟨(some 69), (.eqa (.ar 16 L8) true (.tmp 67) (.tmp 68)), some (64, false)⟩,
          ⟨(some 70), (.pick (.tmp 64) (.const (.bool true)) (.tmp 69)), some (43, true)⟩,
          ⟨(some 71), (.pick (.tmp 43) (.tmp 70) (.const (.bool false))), some (40, false)⟩,
          ⟨(some 72), (.pick (.tmp 40) (.const (.bool true)) (.tmp 71)), none⟩])
         (.cond (.tmp 72)
          (.seq
           (.region false [⟨(some 8), (.mv (.const (.bool false))), none⟩])
           .ret)
          .skip))
        (.seq
         (.region false [⟨(some 73), (.load S1 (.tmp 10)), none⟩,
          ⟨(some 74), (.load (.ar 16 L8) (.tmp 5)), none⟩,
          ⟨(some 75), (.call 12 [(.tmp 73), (.tmp 74)]), none⟩,
          ⟨(some 13), (.alloc (.ar 16 L8) (.agg (.ar 16 L8) (List.replicate 16 (.raw (u8 0#8))))), none⟩,
          ⟨none, (.store (.ar 16 L8) (.tmp 13) (.tmp 75)), none⟩])
         (.seq
          (.seq
           (.region false [⟨(some 76), (.mv (.tmp 9)), none⟩,
            ⟨(some 77), (.len (.tmp 76)), none⟩,
            ⟨(some 78), (.mv (.const (it 0))), none⟩])
           (.block 0
            (.loop
             (.seq
              (.region false [⟨(some 79), (.bin .lss (.tmp 78) (.tmp 77)), none⟩])
              (.seq
               (.cond (.tmp 79)
                .skip
                (.exit 0))
               (.seq
                (.block 1
                 (.seq
                  (.region false [⟨(some 80), (.mv (.tmp 78)), none⟩,
                   ⟨(some 14), (.mv (.tmp 80)), none⟩])
                  (.region false [⟨(some 81), (.mv (.tmp 9)), none⟩,
                   ⟨(some 82), (.mv (.tmp 14)), none⟩,
                   ⟨(some 83), (.iaddrs L8 (.tmp 81) (.tmp 82)), none⟩,
                   ⟨(some 84), (.load L8 (.tmp 83)), none⟩,
                   ⟨(some 85), (.bin .add (.tmp 84) (.const (u8 1#8))), none⟩,
                   ⟨(some 86), (.iaddrs L8 (.tmp 81) (.tmp 82)), none⟩,
                   ⟨none, (.store L8 (.tmp 86) (.tmp 85)), none⟩])))
                (.region false [⟨(some 87), (.bin .add (.tmp 78) (.const (it 1))), none⟩,
                 ⟨(some 78), (.mv (.tmp 87)), none⟩])))))))
          (.seq
           (.region false [⟨(some 88), (.load S1 (.tmp 10)), none⟩,
            ⟨(some 89), (.call 20 [(.tmp 88)]), none⟩,
            ⟨(some 15), (.mv (.tmp 89)), none⟩])
           (.seq
            (.seq
             (.region false [⟨(some 90), (.mv (.tmp 15)), none⟩,
              ⟨(some 91), (.len (.tmp 90)), none⟩,
              ⟨(some 92), (.mv (.const (it 0))), none⟩])
             (.block 2
              (.loop
               (.seq
                (.region false [⟨(some 93), (.bin .lss (.tmp 92) (.tmp 91)), none⟩])
                (.seq
                 (.cond (.tmp 93)
                  .skip
                  (.exit 2))
                 (.seq
                  (.block 3
                   (.seq
                    (.region false [⟨(some 94), (.mv (.tmp 92)), none⟩,
                     ⟨(some 16), (.mv (.tmp 94)), none⟩])
                    (.region false [⟨(some 95), (.mv (.tmp 15)), none⟩,
                     ⟨(some 96), (.mv (.tmp 16)), none⟩,
                     ⟨(some 97), (.iaddrs L32 (.tmp 95) (.tmp 96)), none⟩,
                     ⟨(some 98), (.load L32 (.tmp 97)), none⟩,
                     ⟨(some 99), (.bin .add (.tmp 98) (.const (u32 1#32))), none⟩,
                     ⟨(some 100), (.iaddrs L32 (.tmp 95) (.tmp 96)), none⟩,
                     ⟨none, (.store L32 (.tmp 100) (.tmp 99)), none⟩])))
                  (.region false [⟨(some 101), (.bin .add (.tmp 92) (.const (it 1))), none⟩,
                   ⟨(some 92), (.mv (.tmp 101)), none⟩])))))))
            (.seq
             (.draw1 [⟨(some 102), (.load S1 (.tmp 10)), none⟩,
              ⟨(some 103), (.load (.ar 16 L8) (.tmp 5)), none⟩,
              ⟨(some 104), (.call 12 [(.tmp 102), (.tmp 103)]), none⟩,
              ⟨(some 105), (.load (.ar 16 L8) (.tmp 13)), none⟩,
              ⟨(some 106), (.eqa (.ar 16 L8) false (.tmp 104) (.tmp 105)), none⟩,
              ⟨(some 107), (.mv (.tmp 106)), none⟩,
              ⟨(some 108), (.load (.ar 16 L8) (.tmp 5)), some (107, true)⟩,
              ⟨(some 109), (.load (.ar 16 L8) (.tmp 6)), some (107, true)⟩,
              ⟨(some 110), (.load (.ar 16 L8) (.tmp 7)), some (107, true)⟩,
              ⟨(some 111), (.bslice (.ar 16 L8) 3 (.agg (.ar 16 L8) (List.replicate 16 (.raw (u8 0#8)))) [(0, (.tmp 108)), (1, (.tmp 109)), (2, (.tmp 110))]), some (107, true)⟩,
              ⟨(some 112), (.call 25 [(.tmp 111)]), some (107, true)⟩,
              ⟨(some 113), (.load (.ar 16 L8) (.tmp 5)), some (107, true)⟩,
              ⟨(some 114), (.load (.ar 16 L8) (.tmp 6)), some (107, true)⟩,
              ⟨(some 115), (.call 26 [(.tmp 113), (.tmp 114)]), some (107, true)⟩,
              ⟨(some 116), (.load (.ar 16 L8) (.tmp 7)), some (107, true)⟩,
              ⟨(some 117), (.call 26 [(.tmp 115), (.tmp 116)]), some (107, true)⟩,
              ⟨(some 118), (.eqa (.ar 16 L8) false (.tmp 112) (.tmp 117)), some (107, true)⟩,
              ⟨(some 119), (.pick (.tmp 107) (.tmp 118) (.const (.bool false))), none⟩,
              ⟨(some 120), (.mv (.tmp 119)), none⟩,
              ⟨(some 121), (.load (.ar 16 L8) (.tmp 5)), some (120, true)⟩,
              ⟨(some 122), (.load (.ar 16 L8) (.tmp 5)), some (120, true)⟩,
              ⟨(some 123), (.bslice (.ar 16 L8) 2 (.agg (.ar 16 L8) (List.replicate 16 (.raw (u8 0#8)))) [(0, (.tmp 121)), (1, (.tmp 122))]), some (120, true)⟩,
              ⟨(some 124), (.call 25 [(.tmp 123)]), some (120, true)⟩,
              ⟨(some 125), (.call 25 [(.const (.slice none 0 0))]), some (120, true)⟩,
              ⟨(some 126), (.eqa (.ar 16 L8) false (.tmp 124) (.tmp 125)), some (120, true)⟩,
              ⟨(some 127), (.pick (.tmp 120) (.tmp 126) (.const (.bool false))), none⟩,
              ⟨(some 128), (.mv (.tmp 127)), none⟩,
              ⟨(some 129), (.load (.ar 16 L8) (.tmp 5)), some (128, true)⟩,
              ⟨(some 130), (.bslice (.ar 16 L8) 1 (.agg (.ar 16 L8) (List.replicate 16 (.raw (u8 0#8)))) [(0, (.tmp 129))]), some (128, true)⟩,
              ⟨(some 131), (.call 25 [(.tmp 130)]), some (128, true)⟩,
              ⟨(some 132), (.load (.ar 16 L8) (.tmp 5)), some (128, true)⟩,
              ⟨(some 133), (.eqa (.ar 16 L8) false (.tmp 131) (.tmp 132)), some (128, true)⟩,
              ⟨(some 134), (.pick (.tmp 128) (.tmp 133) (.const (.bool false))), none⟩,
              ⟨(some 135), (.mv (.tmp 134)), none⟩,
              ⟨(some 136), (.mv (.tmp 0)), some (135, true)⟩,
              ⟨(some 137), (.mv (.tmp 0)), some (135, true)⟩,
              ⟨(some 138), (.call 24 [(.tmp 137), (.const (it 40))]), some (135, true)⟩]
              [⟨(some 139), (.call 23 [(.tmp 136), (.tmp 138)]), some (135, true)⟩,
              ⟨(some 140), (.pick (.tmp 135) (.tmp 139) (.const (.bool false))), none⟩,
              ⟨(some 8), (.mv (.tmp 140)), none⟩])
             .ret))))))))))))
def r_law03_AesArgs : List ARes := [(.tmp 8)]
theorem c_law03_AesArgs : o2 Go.Proofs.Try.f7.body (comp Go.Proofs.Try.prog Go.Proofs.Try.f7.ntmps) = some a_law03_AesArgs := by kernel_rfl
theorem s_law03_AesArgs : cRess Go.Proofs.Try.prog Go.Proofs.Try.f7.results.toList = some r_law03_AesArgs := by kernel_rfl
theorem m_law03_AesArgs (C : Ctx) (hC : CtxOK C Go.Proofs.Try.prog) : Meets C.glob Go.Proofs.Try.prog 7 (afun C 4 r_law03_AesArgs a_law03_AesArgs) :=
  fn_sound hC Go.Proofs.Try.func7 c_law03_AesArgs s_law03_AesArgs (Nat.le_of_ble_eq_true (by kernel_rfl))

/-- curtilage/curtilagelaw03.awake -/
def a_law03_awake : ACode :=
 (.seq
  (.region false [⟨(some 0), (.mv (.const (.bool false))), none⟩])
  (.seq
   (.region false [⟨(some 7), (.mks L8 1 (.raw (u8 0#8)) (.const (it 16)) (.const (it 16))), none⟩,
    ⟨(some 1), (.mv (.tmp 7)), none⟩])
   (.seq
    (.region false [⟨(some 2), (.alloc (.ar 16 L8) (.agg (.ar 16 L8) (List.replicate 16 (.raw (u8 0#8))))), none⟩])
    (.seq
     (.seq
      (.region false [⟨(some 8), (.mv (.tmp 1)), none⟩,
       ⟨(some 9), (.len (.tmp 8)), none⟩,
       ⟨(some 10), (.mv (.const (it 0))), none⟩])
      (.block 0
       (.loop
        (.seq
         (.region false [⟨(some 11), (.bin .lss (.tmp 10) (.tmp 9)), none⟩])
         (.seq
          (.cond (.tmp 11)
           .skip
           (.exit 0))
          (.seq
           (.block 1
            (.seq
             (.region false [⟨(some 12), (.mv (.tmp 10)), none⟩,
              ⟨(some 3), (.mv (.tmp 12)), none⟩])
             (.region false [⟨(some 13), (.mv (.tmp 1)), none⟩,
              ⟨(some 14), (.mv (.tmp 3)), none⟩,
              ⟨(some 15), (.mv (.tmp 3)), none⟩,
              ⟨(some 16), (.mv (.tmp 3)), none⟩,
              ⟨(some 17), (.conv .u8 (.tmp 16)), none⟩,
              ⟨(some 18), (.mv (.tmp 3)), none⟩,
              ⟨(some 19), (.bin .mul (.const (it 17)) (.tmp 18)), none⟩,
              ⟨(some 20), (.conv .u8 (.tmp 19)), none⟩,
              ⟨(some 21), (.iaddrs L8 (.tmp 13) (.tmp 14)), none⟩,
              ⟨none, (.store L8 (.tmp 21) (.tmp 17)), none⟩,
              ⟨(some 22), (.iaddra 16 L8 (.tmp 2) (.tmp 15)), none⟩,
              ⟨none, (.store L8 (.tmp 22) (.tmp 20)), none⟩])))
           (.region false [⟨(some 23), (.bin .add (.tmp 10) (.const (it 1))), none⟩,
            ⟨(some 10), (.mv (.tmp 23)), none⟩])))))))
     (.seq
      (.seq
       (.region false [⟨(some 24), (.call 15 [(.const (u8 0#8))]), none⟩,
        ⟨(some 25), (.bin .neq (.tmp 24) (.const (u8 99#8))), none⟩])
       (.cond (.tmp 25)
        (.seq
         (.region false [⟨(some 0), (.mv (.const (.bool false))), none⟩])
         .ret)
        .skip))
      (.seq
       (.region false [⟨(some 27), (.mv (.tmp 1)), none⟩,
        ⟨(some 28), (.call 9 [(.tmp 27)]), none⟩,
        ⟨(some 26), (.mv (.tmp 28)), none⟩,
        ⟨(some 29), (.ext (.tmp 26) 0), none⟩,
        ⟨(some 30), (.ext (.tmp 26) 1), none⟩,
        ⟨(some 4), (.alloc S1 (.agg S1 [(.raw (.slice none 0 0)), (.agg (.ar 256 L8) (List.replicate 256 (.raw (u8 0#8)))), (.agg (.ar 256 L8) (List.replicate 256 (.raw (u8 0#8))))])), none⟩,
        ⟨none, (.store S1 (.tmp 4) (.tmp 29)), none⟩,
        ⟨(some 5), (.mv (.tmp 30)), none⟩])
       (.seq
        (.region false [⟨(some 31), (.load S1 (.tmp 4)), none⟩,
         ⟨(some 32), (.load (.ar 16 L8) (.tmp 2)), none⟩,
         ⟨(some 33), (.call 12 [(.tmp 31), (.tmp 32)]), none⟩,
         ⟨(some 6), (.alloc (.ar 16 L8) (.agg (.ar 16 L8) (List.replicate 16 (.raw (u8 0#8))))), none⟩,
         ⟨none, (.store (.ar 16 L8) (.tmp 6) (.tmp 33)), none⟩])
        (.seq
         (.region true [⟨(some 34), (.mv (.tmp 5)), none⟩,
          ⟨(some 35), (.bin .eql (.tmp 34) (.const (it 0))), none⟩,
          ⟨(some 36), (.mv (.tmp 35)), none⟩,
          ⟨(some 37), (.slicea 16 L8 (.tmp 6) none none none), some (36, true)⟩,
          ⟨(some 38), (.call 27 [(.tmp 37)]), some (36, true)⟩,
          ⟨(some 39), (.bin .eql (.tmp 38) (.const (.string ⟨#[54, 57, 99, 52, 101, 48, 100, 56, 54, 97, 55, 98, 48, 52, 51, 48, 100, 56, 99, 100, 98, 55, 56, 48, 55, 48, 98, 52, 99, 53, 53, 97]⟩))), some (36, true)⟩,
          ⟨(some 40), (.pick (.tmp 36) (.tmp 39) (.const (.bool false))), none⟩,
          ⟨(some 41), (.mv (.tmp 40)), none⟩,
          ⟨(some 42), (.load S1 (.tmp 4)), some (41, true)⟩,
          ⟨(some 43), (.load (.ar 16 L8) (.tmp 6)), some (41, true)⟩,
          ⟨(some 44), (.call 11 [(.tmp 42), (.tmp 43)]), some (41, true)⟩,
          ⟨(some 45), (.load (.ar 16 L8) (.tmp 2)), some (41, true)⟩,
          ⟨(some 46), (.eqa (.ar 16 L8) false (.tmp 44) (.tmp 45)), some (41, true)⟩,
          ⟨(some 47), (.pick (.tmp 41) (.tmp 46) (.const (.bool false))), none⟩,
          ⟨(some 0), (.mv (.tmp 47)), none⟩])
         .ret))))))))
def r_law03_awake : List ARes := [(.tmp 0)]
theorem c_law03_awake : o2 Go.Proofs.Try.f8.body (comp Go.Proofs.Try.prog Go.Proofs.Try.f8.ntmps) = some a_law03_awake := by kernel_rfl
theorem s_law03_awake : cRess Go.Proofs.Try.prog Go.Proofs.Try.f8.results.toList = some r_law03_awake := by kernel_rfl
theorem m_law03_awake (C : Ctx) (hC : CtxOK C Go.Proofs.Try.prog) : Meets C.glob Go.Proofs.Try.prog 8 (afun C 0 r_law03_awake a_law03_awake) :=
  fn_sound hC Go.Proofs.Try.func8 c_law03_awake s_law03_awake (Nat.le_of_ble_eq_true (by kernel_rfl))

/-- curtilage/aes.New -/
def a_aes_New : ACode :=
 (.seq
  (.region false [⟨(some 2), (.alloc S1 (.agg S1 [(.raw (.slice none 0 0)), (.agg (.ar 256 L8) (List.replicate 256 (.raw (u8 0#8)))), (.agg (.ar 256 L8) (List.replicate 256 (.raw (u8 0#8))))])), none⟩,
   ⟨(some 3), (.mv (.const (it 0))), none⟩])
  (.seq
   (.region false [⟨(some 10), (.mv (.tmp 0)), none⟩,
    ⟨(some 11), (.len (.tmp 10)), none⟩,
    ⟨(some 12), (.bin .quo (.tmp 11) (.const (it 4))), none⟩,
    ⟨(some 4), (.mv (.tmp 12)), none⟩])
   (.seq
    (.seq
     (.region false [⟨(some 13), (.mv (.tmp 0)), none⟩,
      ⟨(some 14), (.len (.tmp 13)), none⟩,
      ⟨(some 15), (.bin .neq (.tmp 14) (.const (it 16))), none⟩,
      ⟨(some 16), (.mv (.tmp 15)), none⟩,
      ⟨(some 17), (.mv (.tmp 0)), some (16, true)⟩,
      ⟨(some 18), (.len (.tmp 17)), some (16, true)⟩,
      ⟨(some 19), (.bin .neq (.tmp 18) (.const (it 32))), some (16, true)⟩,
      ⟨(some 20), (.pick (.tmp 16) (.tmp 19) (.const (.bool false))), none⟩])
     (.cond (.tmp 20)
      (.seq
       (.region false [⟨(some 21), (.build S1 [(.raw (.slice none 0 0)), (.agg (.ar 256 L8) (List.replicate 256 (.raw (u8 0#8)))), (.agg (.ar 256 L8) (List.replicate 256 (.raw (u8 0#8))))] []), none⟩,
        ⟨none, (.store S1 (.tmp 2) (.tmp 21)), none⟩,
        ⟨(some 3), (.mv (.const (it 1))), none⟩])
       .ret)
      .skip))
    (.seq
     (.region false [⟨(some 5), (.alloc S1 (.agg S1 [(.raw (.slice none 0 0)), (.agg (.ar 256 L8) (List.replicate 256 (.raw (u8 0#8)))), (.agg (.ar 256 L8) (List.replicate 256 (.raw (u8 0#8))))])), none⟩])
     (.seq
      (.region false [⟨(some 23), (.call 28 []), none⟩,
       ⟨(some 22), (.mv (.tmp 23)), none⟩,
       ⟨(some 24), (.ext (.tmp 22) 0), none⟩,
       ⟨(some 25), (.ext (.tmp 22) 1), none⟩,
       ⟨(some 26), (.faddr S1 (.tmp 5) 1), none⟩,
       ⟨none, (.store (.ar 256 L8) (.tmp 26) (.tmp 24)), none⟩,
       ⟨(some 27), (.faddr S1 (.tmp 5) 2), none⟩,
       ⟨none, (.store (.ar 256 L8) (.tmp 27) (.tmp 25)), none⟩])
      (.seq
       (.seq
        (.region false [⟨(some 28), (.mv (.tmp 4)), none⟩,
         ⟨(some 29), (.mv (.const (it 0))), none⟩])
        (.block 0
         (.loop
          (.seq
           (.region false [⟨(some 30), (.bin .lss (.tmp 29) (.tmp 28)), none⟩])
           (.seq
            (.cond (.tmp 30)
             .skip
             (.exit 0))
            (.seq
             (.block 1
              (.seq
               (.region false [⟨(some 31), (.mv (.tmp 29)), none⟩,
                ⟨(some 6), (.mv (.tmp 31)), none⟩])
               (.region true [⟨(some 32), (.faddr S1 (.tmp 5) 0), none⟩,
                ⟨(some 33), (.load .ref (.tmp 32)), none⟩,
                ⟨(some 34), (.mv (.tmp 0)), none⟩,
                ⟨(some 35), (.mv (.tmp 6)), none⟩,
                ⟨(some 36), (.bin .mul (.const (it 4)) (.tmp 35)), none⟩,
                ⟨(some 37), (.iaddrs L8 (.tmp 34) (.tmp 36)), none⟩,
                ⟨(some 38), (.load L8 (.tmp 37)), none⟩,
                ⟨(some 39), (.conv .u32 (.tmp 38)), none⟩,
                ⟨(some 40), (.bin .shl (.tmp 39) (.const (u64 24#64))), none⟩,
                ⟨(some 41), (.mv (.tmp 0)), none⟩,
                ⟨(some 42), (.mv (.tmp 6)), none⟩,
                ⟨(some 43), (.bin .mul (.const (it 4)) (.tmp 42)), none⟩,
                ⟨(some 44), (.bin .add (.tmp 43) (.const (it 1))), none⟩,
                ⟨(some 45), (.iaddrs L8 (.tmp 41) (.tmp 44)), none⟩,
                ⟨(some 46), (.load L8 (.tmp 45)), none⟩,
                ⟨(some 47), (.conv .u32 (.tmp 46)), none⟩,
                ⟨(some 48), (.bin .shl (.tmp 47) (.const (u64 16#64))), none⟩,
                ⟨(some 49), (.bin .or (.tmp 40) (.tmp 48)), none⟩,
                ⟨(some 50), (.mv (.tmp 0)), none⟩,
                ⟨(some 51), (.mv (.tmp 6)), none⟩,
                ⟨(some 52), (.bin .mul (.const (it 4)) (.tmp 51)), none⟩,
                ⟨(some 53), (.bin .add (.tmp 52) (.const (it 2))), none⟩,
                ⟨(some 54), (.iaddrs L8 (.tmp 50) (.tmp 53)), none⟩,
                ⟨(some 55), (.load L8 (.tmp 54)), none⟩,
                ⟨(some 56), (.conv .u32 (.tmp 55)), none⟩,
                ⟨(some 57), (.bin .shl (.tmp 56) (.const (u64 8#64))), none⟩,
                ⟨(some 58), (.bin .or (.tmp 49) (.tmp 57)), none⟩,
                ⟨(some 59), (.mv (.tmp 0)), none⟩,
                ⟨(some 60), (.mv (.tmp 6)), none⟩,
                ⟨(some 61), (.bin .mul (.const (it 4)) (.tmp 60)), none⟩,
                ⟨(some 62), (.bin .add (.tmp 61) (.const (it 3))), none⟩,
                ⟨(some 63), (.iaddrs L8 (.tmp 59) (.tmp 62)), none⟩,
                ⟨(some 64), (.load L8 (.tmp 63)), none⟩,
                ⟨(some 65), (.conv .u32 (.tmp 64)), none⟩,
                ⟨(some 66), (.bin .or (.tmp 58) (.tmp 65)), none⟩,
                ⟨(some 67), (.bslice L32 1 (.raw (u32 0#32)) [(0, (.tmp 66))]), none⟩,
                ⟨(some 68), (.append L32 4 (.tmp 33) (.tmp 67)), none⟩,
                ⟨(some 69), (.faddr S1 (.tmp 5) 0), none⟩,
                ⟨none, (.store .ref (.tmp 69) (.tmp 68)), none⟩])))
             (.region false [⟨(some 70), (.bin .add (.tmp 29) (.const (it 1))), none⟩,
              ⟨(some 29), (.mv (.tmp 70)), none⟩])))))))
       (.seq
        (.region false [⟨(some 7), (.mv (.const (u8 1#8))), none⟩])
        (.seq
         (.seq
          (.region false [⟨(some 71), (.mv (.tmp 4)), none⟩,
           ⟨(some 8), (.mv (.tmp 71)), none⟩])
          (.block 2
           (.loop
            (.seq
             (.seq
              (.region false [⟨(some 72), (.mv (.tmp 8)), none⟩,
               ⟨(some 73), (.mv (.tmp 4)), none⟩,
               ⟨(some 74), (.bin .add (.tmp 73) (.const (it 7))), none⟩,
               ⟨(some 75), (.bin .mul (.const (it 4)) (.tmp 74)), none⟩,
               ⟨(some 76), (.bin .lss (.tmp 72) (.tmp 75)), none⟩])
              (.cond (.tmp 76)
               .skip
               (.exit 2)))
             (.seq
              (.block 3
               (.seq
                (.region false [⟨(some 79), (.faddr S1 (.tmp 5) 0), none⟩,
                 ⟨(some 80), (.load .ref (.tmp 79)), none⟩,
                 ⟨(some 81), (.mv (.tmp 8)), none⟩,
                 ⟨(some 82), (.bin .sub (.tmp 81) (.const (it 1))), none⟩,
                 ⟨(some 83), (.iaddrs L32 (.tmp 80) (.tmp 82)), none⟩,
                 ⟨(some 84), (.load L32 (.tmp 83)), none⟩,
                 ⟨(some 9), (.mv (.tmp 84)), none⟩])
                (.seq
                 (.block 4
                  (.seq
                   (.region false [⟨(some 86), (.mv (.tmp 8)), none⟩,
                    ⟨(some 87), (.mv (.tmp 4)), none⟩,
                    ⟨(some 88), (.bin .rem (.tmp 86) (.tmp 87)), none⟩,
                    ⟨(some 89), (.bin .eql (.tmp 88) (.const (it 0))), none⟩,
                    ⟨(some 85), (.mv (.tmp 89)), none⟩])
                   (.cond (.tmp 85)
                    (.seq
                     (.region false [⟨(some 90), (.mv (.tmp 9)), none⟩,
                      ⟨(some 91), (.call 30 [(.tmp 90), (.const (it 8))]), none⟩,
                      ⟨(some 92), (.call 29 [(.tmp 5), (.tmp 91)]), none⟩,
                      ⟨(some 93), (.mv (.tmp 7)), none⟩,
                      ⟨(some 94), (.conv .u32 (.tmp 93)), none⟩,
                      ⟨(some 95), (.bin .shl (.tmp 94) (.const (u64 24#64))), none⟩,
                      ⟨(some 96), (.bin .xor (.tmp 92) (.tmp 95)), none⟩,
                      ⟨(some 9), (.mv (.tmp 96)), none⟩])
                     (.region false [⟨(some 97), (.mv (.tmp 7)), none⟩,
                      ⟨(some 98), (.call 31 [(.tmp 97)]), none⟩,
                      ⟨(some 7), (.mv (.tmp 98)), none⟩]))
                    (.seq
                     (.region false [⟨(some 100), (.mv (.tmp 4)), none⟩,
                      ⟨(some 101), (.bin .gtr (.tmp 100) (.const (it 6))), none⟩,
                      ⟨(some 102), (.mv (.tmp 101)), none⟩,
                      ⟨(some 103), (.mv (.tmp 8)), some (102, true)⟩,
                      ⟨(some 104), (.mv (.tmp 4)), some (102, true)⟩,
                      ⟨(some 105), (.bin .rem (.tmp 103) (.tmp 104)), some (102, true)⟩,
                      ⟨(some 106), (.bin .eql (.tmp 105) (.const (it 4))), some (102, true)⟩,
                      ⟨(some 107), (.pick (.tmp 102) (.tmp 106) (.const (.bool false))), none⟩,
                      ⟨(some 99), (.mv (.tmp 107)), none⟩])
                     (.cond (.tmp 99)
                      (.region false [⟨(some 108), (.mv (.tmp 9)), none⟩,
                       ⟨(some 109), (.call 29 [(.tmp 5), (.tmp 108)]), none⟩,
                       ⟨(some 9), (.mv (.tmp 109)), none⟩])
                      .skip)))))
                 (.region true [⟨(some 110), (.faddr S1 (.tmp 5) 0), none⟩,
                  ⟨(some 111), (.load .ref (.tmp 110)), none⟩,
                  ⟨(some 112), (.mv (.tmp 9)), none⟩,
                  ⟨(some 113), (.faddr S1 (.tmp 5) 0), none⟩,
                  ⟨(some 114), (.load .ref (.tmp 113)), none⟩,
                  ⟨(some 115), (.mv (.tmp 8)), none⟩,
                  ⟨(some 116), (.mv (.tmp 4)), none⟩,
                  ⟨(some 117), (.bin .sub (.tmp 115) (.tmp 116)), none⟩,
                  ⟨(some 118), (.iaddrs L32 (.tmp 114) (.tmp 117)), none⟩,
                  ⟨(some 119), (.load L32 (.tmp 118)), none⟩,
                  ⟨(some 120), (.bin .xor (.tmp 112) (.tmp 119)), none⟩,
                  ⟨(some 121), (.bslice L32 1 (.raw (u32 0#32)) [(0, (.tmp 120))]), none⟩,
                  ⟨(some 122), (.append L32 4 (.tmp 111) (.tmp 121)), none⟩,
                  ⟨(some 123), (.faddr S1 (.tmp 5) 0), none⟩,
                  ⟨none, (.store .ref (.tmp 123) (.tmp 122)), none⟩]))))
              (.region false [⟨(some 77), (.mv (.tmp 8)), none⟩,
               ⟨(some 78), (.bin .add (.tmp 77) (.const (it 1))), none⟩,
               ⟨(some 8), (.mv (.tmp 78)), none⟩]))))))
         (.seq
          (.region false [⟨(some 124), (.load S1 (.tmp 5)), none⟩,
           ⟨none, (.store S1 (.tmp 2) (.tmp 124)), none⟩,
           ⟨(some 3), (.mv (.const (it 0))), none⟩])
          .ret)))))))))
def r_aes_New : List ARes := [(.cell 2 S1), (.tmp 3)]
theorem c_aes_New : o2 Go.Proofs.Try.f9.body (comp Go.Proofs.Try.prog Go.Proofs.Try.f9.ntmps) = some a_aes_New := by kernel_rfl
theorem s_aes_New : cRess Go.Proofs.Try.prog Go.Proofs.Try.f9.results.toList = some r_aes_New := by kernel_rfl
theorem m_aes_New (C : Ctx) (hC : CtxOK C Go.Proofs.Try.prog) : Meets C.glob Go.Proofs.Try.prog 9 (afun C 1 r_aes_New a_aes_New) :=
  fn_sound hC Go.Proofs.Try.func9 c_aes_New s_aes_New (Nat.le_of_ble_eq_true (by kernel_rfl))

/-- curtilage/curtilagelaw03.key -/
def a_law03_key : ACode :=
 (.seq
  (.region false [⟨(some 2), (.box (.ar 32 L8) (.tmp 0)), none⟩,
   ⟨(some 4), (.mv (.const (.slice none 0 0))), none⟩])
  (.seq
   (.seq
    (.region false [⟨(some 5), (.mv (.tmp 1)), none⟩])
    (.cond (.tmp 5)
     (.seq
      (.region false [⟨(some 6), (.slicea 32 L8 (.tmp 2) none none none), none⟩,
       ⟨(some 7), (.call 24 [(.tmp 6), (.const (it 32))]), none⟩,
       ⟨(some 4), (.mv (.tmp 7)), none⟩])
      .ret)
     .skip))
   (.seq
    (.region false [⟨(some 8), (.slicea 32 L8 (.tmp 2) none none none), none⟩,
     ⟨(some 9), (.call 24 [(.tmp 8), (.const (it 16))]), none⟩,
     ⟨(some 4), (.mv (.tmp 9)), none⟩])
    .ret)))
def r_law03_key : List ARes := [(.tmp 4)]
theorem c_law03_key : o2 Go.Proofs.Try.f10.body (comp Go.Proofs.Try.prog Go.Proofs.Try.f10.ntmps) = some a_law03_key := by kernel_rfl
theorem s_law03_key : cRess Go.Proofs.Try.prog Go.Proofs.Try.f10.results.toList = some r_law03_key := by kernel_rfl
theorem m_law03_key (C : Ctx) (hC : CtxOK C Go.Proofs.Try.prog) : Meets C.glob Go.Proofs.Try.prog 10 (afun C 2 r_law03_key a_law03_key) :=
  fn_sound hC Go.Proofs.Try.func10 c_law03_key s_law03_key (Nat.le_of_ble_eq_true (by kernel_rfl))

/-- (curtilage/aes.Key).Decrypt -/
def a_aes_Key_Decrypt : ACode :=
 (.seq
  (.region false [⟨(some 2), (.box S1 (.tmp 0)), none⟩,
   ⟨(some 3), (.box (.ar 16 L8) (.tmp 1)), none⟩,
   ⟨(some 4), (.alloc (.ar 16 L8) (.agg (.ar 16 L8) (List.replicate 16 (.raw (u8 0#8))))), none⟩])
  (.seq
   (.region false [⟨(some 7), (.load S1 (.tmp 2)), none⟩,
    ⟨(some 8), (.call 19 [(.tmp 7)]), none⟩,
    ⟨(some 5), (.mv (.tmp 8)), none⟩])
   (.seq
    (.seq
     (.region false [⟨(some 9), (.mv (.tmp 5)), none⟩,
      ⟨(some 10), (.bin .eql (.tmp 9) (.const (it 0))), none⟩])
     (.cond (.tmp 10)
      (.seq
       (.region false [⟨(some 11), (.load (.ar 16 L8) (.tmp 3)), none⟩,
        ⟨none, (.store (.ar 16 L8) (.tmp 4) (.tmp 11)), none⟩])
       .ret)
      .skip))
    (.seq
     (.region false [⟨(some 12), (.load S1 (.tmp 2)), none⟩,
      ⟨(some 13), (.load (.ar 16 L8) (.tmp 3)), none⟩,
      ⟨(some 14), (.mv (.tmp 5)), none⟩,
      ⟨(some 15), (.call 33 [(.tmp 12), (.tmp 13), (.tmp 14)]), none⟩,
      ⟨(some 16), (.faddr S1 (.tmp 2) 2), none⟩,
      ⟨(some 17), (.call 32 [(.tmp 15), (.tmp 16), (.const (it (-1)))]), none⟩,
      ⟨none, (.store (.ar 16 L8) (.tmp 3) (.tmp 17)), none⟩])
     (.seq
      (.seq
       (.region false [⟨(some 18), (.mv (.tmp 5)), none⟩,
        ⟨(some 19), (.bin .sub (.tmp 18) (.const (it 1))), none⟩,
        ⟨(some 6), (.mv (.tmp 19)), none⟩])
       (.block 0
        (.loop
         (.seq
          (.seq
           (.region false [⟨(some 20), (.mv (.tmp 6)), none⟩,
            ⟨(some 21), (.bin .gtr (.tmp 20) (.const (it 0))), none⟩])
           (.cond (.tmp 21)
            .skip
            (.exit 0)))
          (.seq
           (.block 1
            (.region false [⟨(some 24), (.load S1 (.tmp 2)), none⟩,
             ⟨(some 25), (.load (.ar 16 L8) (.tmp 3)), none⟩,
             ⟨(some 26), (.mv (.tmp 6)), none⟩,
             ⟨(some 27), (.call 33 [(.tmp 24), (.tmp 25), (.tmp 26)]), none⟩,
             ⟨(some 28), (.build (.ar 4 L8) (List.replicate 4 (.raw (u8 0#8))) [(0, (.const (u8 14#8))), (1, (.const (u8 11#8))), (2, (.const (u8 13#8))), (3, (.const (u8 9#8)))]), none⟩,
             ⟨(some 29), (.call 34 [(.tmp 27), (.tmp 28)]), none⟩,
             ⟨(some 30), (.faddr S1 (.tmp 2) 2), none⟩,
             ⟨(some 31), (.call 32 [(.tmp 29), (.tmp 30), (.const (it (-1)))]), none⟩,
             ⟨none, (.store (.ar 16 L8) (.tmp 3) (.tmp 31)), none⟩]))
           (.region false [⟨(some 22), (.mv (.tmp 6)), none⟩,
            ⟨(some 23), (.bin .sub (.tmp 22) (.const (it 1))), none⟩,
            ⟨(some 6), (.mv (.tmp 23)), none⟩]))))))
      (.seq
       (.region false [⟨(some 32), (.load S1 (.tmp 2)), none⟩,
        ⟨(some 33), (.load (.ar 16 L8) (.tmp 3)), none⟩,
        ⟨(some 34), (.call 33 [(.tmp 32), (.tmp 33), (.const (it 0))]), none⟩,
        ⟨none, (.store (.ar 16 L8) (.tmp 4) (.tmp 34)), none⟩])
       .ret))))))
def r_aes_Key_Decrypt : List ARes := [(.cell 4 (.ar 16 L8))]
theorem c_aes_Key_Decrypt : o2 Go.Proofs.Try.f11.body (comp Go.Proofs.Try.prog Go.Proofs.Try.f11.ntmps) = some a_aes_Key_Decrypt := by kernel_rfl
theorem s_aes_Key_Decrypt : cRess Go.Proofs.Try.prog Go.Proofs.Try.f11.results.toList = some r_aes_Key_Decrypt := by kernel_rfl
theorem m_aes_Key_Decrypt (C : Ctx) (hC : CtxOK C Go.Proofs.Try.prog) : Meets C.glob Go.Proofs.Try.prog 11 (afun C 2 r_aes_Key_Decrypt a_aes_Key_Decrypt) :=
  fn_sound hC Go.Proofs.Try.func11 c_aes_Key_Decrypt s_aes_Key_Decrypt (Nat.le_of_ble_eq_true (by kernel_rfl))

/-- (curtilage/aes.Key).Encrypt -/
def a_aes_Key_Encrypt : ACode :=
 (.seq
  (.region false [⟨(some 2), (.box S1 (.tmp 0)), none⟩,
   ⟨(some 3), (.box (.ar 16 L8) (.tmp 1)), none⟩,
   ⟨(some 4), (.alloc (.ar 16 L8) (.agg (.ar 16 L8) (List.replicate 16 (.raw (u8 0#8))))), none⟩])
  (.seq
   (.region false [⟨(some 7), (.load S1 (.tmp 2)), none⟩,
    ⟨(some 8), (.call 19 [(.tmp 7)]), none⟩,
    ⟨(some 5), (.mv (.tmp 8)), none⟩])
   (.seq
    (.seq
     (.region false [⟨(some 9), (.mv (.tmp 5)), none⟩,
      ⟨(some 10), (.bin .eql (.tmp 9) (.const (it 0))), none⟩])
     (.cond (.tmp 10)
      (.seq
       (.region false [⟨(some 11), (.load (.ar 16 L8) (.tmp 3)), none⟩,
        ⟨none, (.store (.ar 16 L8) (.tmp 4) (.tmp 11)), none⟩])
       .ret)
      .skip))
    (.seq
     (.region false [⟨(some 12), (.load S1 (.tmp 2)), none⟩,
      ⟨(some 13), (.load (.ar 16 L8) (.tmp 3)), none⟩,
      ⟨(some 14), (.call 33 [(.tmp 12), (.tmp 13), (.const (it 0))]), none⟩,
      ⟨none, (.store (.ar 16 L8) (.tmp 3) (.tmp 14)), none⟩])
     (.seq
      (.seq
       (.region false [⟨(some 6), (.mv (.const (it 1))), none⟩])
       (.block 0
        (.loop
         (.seq
          (.seq
           (.region false [⟨(some 15), (.mv (.tmp 6)), none⟩,
            ⟨(some 16), (.mv (.tmp 5)), none⟩,
            ⟨(some 17), (.bin .lss (.tmp 15) (.tmp 16)), none⟩])
           (.cond (.tmp 17)
            .skip
            (.exit 0)))
          (.seq
           (.block 1
            (.draw1 [⟨(some 20), (.load S1 (.tmp 2)), none⟩,
             ⟨(some 21), (.load (.ar 16 L8) (.tmp 3)), none⟩,
             ⟨(some 22), (.faddr S1 (.tmp 2) 1), none⟩,
             ⟨(some 23), (.call 32 [(.tmp 21), (.tmp 22), (.const (it 1))]), none⟩,
             ⟨(some 24), (.build (.ar 4 L8) (List.replicate 4 (.raw (u8 0#8))) [(0, (.const (u8 2#8))), (1, (.const (u8 3#8))), (2, (.const (u8 1#8))), (3, (.const (u8 1#8)))]), none⟩,
             ⟨(some 25), (.call 34 [(.tmp 23), (.tmp 24)]), none⟩,
             ⟨(some 26), (.mv (.tmp 6)), none⟩]
             [⟨(some 27), (.call 33 [(.tmp 20), (.tmp 25), (.tmp 26)]), none⟩,
             ⟨none, (.store (.ar 16 L8) (.tmp 3) (.tmp 27)), none⟩]))
           (.region false [⟨(some 18), (.mv (.tmp 6)), none⟩,
            ⟨(some 19), (.bin .add (.tmp 18) (.const (it 1))), none⟩,
            ⟨(some 6), (.mv (.tmp 19)), none⟩]))))))
      (.seq
       (.draw1 [⟨(some 28), (.load S1 (.tmp 2)), none⟩,
        ⟨(some 29), (.load (.ar 16 L8) (.tmp 3)), none⟩,
        ⟨(some 30), (.faddr S1 (.tmp 2) 1), none⟩,
        ⟨(some 31), (.call 32 [(.tmp 29), (.tmp 30), (.const (it 1))]), none⟩,
        ⟨(some 32), (.mv (.tmp 5)), none⟩]
        [⟨(some 33), (.call 33 [(.tmp 28), (.tmp 31), (.tmp 32)]), none⟩,
        ⟨none, (.store (.ar 16 L8) (.tmp 4) (.tmp 33)), none⟩])
       .ret))))))
def r_aes_Key_Encrypt : List ARes := [(.cell 4 (.ar 16 L8))]
theorem c_aes_Key_Encrypt : o2 Go.Proofs.Try.f12.body (comp Go.Proofs.Try.prog Go.Proofs.Try.f12.ntmps) = some a_aes_Key_Encrypt := by kernel_rfl
theorem s_aes_Key_Encrypt : cRess Go.Proofs.Try.prog Go.Proofs.Try.f12.results.toList = some r_aes_Key_Encrypt := by kernel_rfl
theorem m_aes_Key_Encrypt (C : Ctx) (hC : CtxOK C Go.Proofs.Try.prog) : Meets C.glob Go.Proofs.Try.prog 12 (afun C 2 r_aes_Key_Encrypt a_aes_Key_Encrypt) :=
  fn_sound hC Go.Proofs.Try.func12 c_aes_Key_Encrypt s_aes_Key_Encrypt (Nat.le_of_ble_eq_true (by kernel_rfl))

/-- curtilage/aes.Mul -/
def a_aes_Mul : ACode :=
 (.seq
  (.region false [⟨(some 4), (.mv (.const (u8 0#8))), none⟩])
  (.seq
   (.region false [⟨(some 5), (.mv (.const (u8 0#8))), none⟩])
   (.seq
    (.block 0
     (.loop
      (.seq
       (.seq
        (.region false [⟨(some 6), (.mv (.tmp 1)), none⟩,
         ⟨(some 7), (.bin .neq (.tmp 6) (.const (u8 0#8))), none⟩])
        (.cond (.tmp 7)
         .skip
         (.exit 0)))
       (.seq
        (.block 1
         (.seq
          (.region false [⟨(some 10), (.mv (.tmp 5)), none⟩,
           ⟨(some 11), (.mv (.tmp 0)), none⟩,
           ⟨(some 12), (.mv (.tmp 1)), none⟩,
           ⟨(some 13), (.bin .and (.tmp 12) (.const (u8 1#8))), none⟩,
           ⟨(some 14), (.bin .mul (.tmp 11) (.tmp 13)), none⟩,
           ⟨(some 15), (.bin .xor (.tmp 10) (.tmp 14)), none⟩,
           ⟨(some 5), (.mv (.tmp 15)), none⟩])
          (.region false [⟨(some 16), (.mv (.tmp 0)), none⟩,
           ⟨(some 17), (.call 31 [(.tmp 16)]), none⟩,
           ⟨(some 0), (.mv (.tmp 17)), none⟩])))
        (.region false [⟨(some 8), (.mv (.tmp 1)), none⟩,
         ⟨(some 9), (.bin .shr (.tmp 8) (.const (u64 1#64))), none⟩,
         ⟨(some 1), (.mv (.tmp 9)), none⟩])))))
    (.seq
     (.region false [⟨(some 18), (.mv (.tmp 5)), none⟩,
      ⟨(some 4), (.mv (.tmp 18)), none⟩])
     .ret))))
def r_aes_Mul : List ARes := [(.tmp 4)]
theorem c_aes_Mul : o2 Go.Proofs.Try.f13.body (comp Go.Proofs.Try.prog Go.Proofs.Try.f13.ntmps) = some a_aes_Mul := by kernel_rfl
theorem s_aes_Mul : cRess Go.Proofs.Try.prog Go.Proofs.Try.f13.results.toList = some r_aes_Mul := by kernel_rfl
theorem m_aes_Mul (C : Ctx) (hC : CtxOK C Go.Proofs.Try.prog) : Meets C.glob Go.Proofs.Try.prog 13 (afun C 2 r_aes_Mul a_aes_Mul) :=
  fn_sound hC Go.Proofs.Try.func13 c_aes_Mul s_aes_Mul (Nat.le_of_ble_eq_true (by kernel_rfl))

/-- curtilage/curtilageref03.Mul -/
def a_ref03_Mul : ACode :=
 (.seq
  (.region false [⟨(some 4), (.mv (.const (u8 0#8))), none⟩])
  (.seq
   (.region false [⟨(some 5), (.mv (.const (it 0))), none⟩])
   (.seq
    (.seq
     (.region false [⟨(some 6), (.mv (.const (it 0))), none⟩])
     (.block 0
      (.loop
       (.seq
        (.seq
         (.region false [⟨(some 8), (.mv (.tmp 6)), none⟩,
          ⟨(some 9), (.bin .lss (.tmp 8) (.const (it 8))), none⟩])
         (.cond (.tmp 9)
          .skip
          (.exit 0)))
        (.seq
         (.block 1
          (.seq
           (.region false [⟨(some 12), (.mv (.tmp 1)), none⟩,
            ⟨(some 13), (.mv (.tmp 6)), none⟩,
            ⟨(some 14), (.bin .shr (.tmp 12) (.tmp 13)), none⟩,
            ⟨(some 15), (.bin .rem (.tmp 14) (.const (u8 2#8))), none⟩,
            ⟨(some 16), (.bin .eql (.tmp 15) (.const (u8 1#8))), none⟩])
           (.cond (.tmp 16)
            (.region false [⟨(some 17), (.mv (.tmp 5)), none⟩,
             ⟨(some 18), (.mv (.tmp 0)), none⟩,
             ⟨(some 19), (.conv .i64 (.tmp 18)), none⟩,
             ⟨(some 20), (.mv (.tmp 6)), none⟩,
             ⟨(some 21), (.bin .shl (.tmp 19) (.tmp 20)), none⟩,
             ⟨(some 22), (.bin .xor (.tmp 17) (.tmp 21)), none⟩,
             ⟨(some 5), (.mv (.tmp 22)), none⟩])
            .skip)))
         (.region false [⟨(some 10), (.mv (.tmp 6)), none⟩,
          ⟨(some 11), (.bin .add (.tmp 10) (.const (it 1))), none⟩,
          ⟨(some 6), (.mv (.tmp 11)), none⟩]))))))
    (.seq
     (.seq
      (.region false [⟨(some 7), (.mv (.const (it 14))), none⟩])
      (.block 2
       (.loop
        (.seq
         (.seq
          (.region false [⟨(some 23), (.mv (.tmp 7)), none⟩,
           ⟨(some 24), (.bin .geq (.tmp 23) (.const (it 8))), none⟩])
          (.cond (.tmp 24)
           .skip
           (.exit 2)))
         (.seq
          (.block 3
           (.seq
            (.region false [⟨(some 27), (.mv (.tmp 5)), none⟩,
             ⟨(some 28), (.mv (.tmp 7)), none⟩,
             ⟨(some 29), (.bin .shr (.tmp 27) (.tmp 28)), none⟩,
             ⟨(some 30), (.bin .rem (.tmp 29) (.const (it 2))), none⟩,
             ⟨(some 31), (.bin .eql (.tmp 30) (.const (it 1))), none⟩])
            (.cond (.tmp 31)
             (.region false [⟨(some 32), (.mv (.tmp 5)), none⟩,
              ⟨(some 33), (.mv (.tmp 7)), none⟩,
              ⟨(some 34), (.bin .sub (.tmp 33) (.const (it 8))), none⟩,
              ⟨(some 35), (.bin .shl (.const (it 283)) (.tmp 34)), none⟩,
              ⟨(some 36), (.bin .xor (.tmp 32) (.tmp 35)), none⟩,
              ⟨(some 5), (.mv (.tmp 36)), none⟩])
             .skip)))
          (.region false [⟨(some 25), (.mv (.tmp 7)), none⟩,
           ⟨(some 26), (.bin .sub (.tmp 25) (.const (it 1))), none⟩,
           ⟨(some 7), (.mv (.tmp 26)), none⟩]))))))
     (.seq
      (.region false [⟨(some 37), (.mv (.tmp 5)), none⟩,
       ⟨(some 38), (.conv .u8 (.tmp 37)), none⟩,
       ⟨(some 4), (.mv (.tmp 38)), none⟩])
      .ret)))))
def r_ref03_Mul : List ARes := [(.tmp 4)]
theorem c_ref03_Mul : o2 Go.Proofs.Try.f14.body (comp Go.Proofs.Try.prog Go.Proofs.Try.f14.ntmps) = some a_ref03_Mul := by kernel_rfl
theorem s_ref03_Mul : cRess Go.Proofs.Try.prog Go.Proofs.Try.f14.results.toList = some r_ref03_Mul := by kernel_rfl
theorem m_ref03_Mul (C : Ctx) (hC : CtxOK C Go.Proofs.Try.prog) : Meets C.glob Go.Proofs.Try.prog 14 (afun C 2 r_ref03_Mul a_ref03_Mul) :=
  fn_sound hC Go.Proofs.Try.func14 c_ref03_Mul s_ref03_Mul (Nat.le_of_ble_eq_true (by kernel_rfl))

/-- curtilage/aes.Box -/
def a_aes_Box : ACode :=
 (.seq
  (.region false [⟨(some 2), (.mv (.const (u8 0#8))), none⟩])
  (.seq
   (.region false [⟨(some 6), (.mv (.tmp 0)), none⟩,
    ⟨(some 7), (.call 35 [(.tmp 6)]), none⟩,
    ⟨(some 3), (.mv (.tmp 7)), none⟩])
   (.seq
    (.region false [⟨(some 4), (.mv (.const (u8 99#8))), none⟩])
    (.seq
     (.seq
      (.region false [⟨(some 8), (.mv (.const (it 0))), none⟩])
      (.block 0
       (.loop
        (.seq
         (.region false [⟨(some 9), (.bin .lss (.tmp 8) (.const (it 5))), none⟩])
         (.seq
          (.cond (.tmp 9)
           .skip
           (.exit 0))
          (.seq
           (.block 1
            (.seq
             (.region false [⟨(some 10), (.mv (.tmp 8)), none⟩,
              ⟨(some 5), (.mv (.tmp 10)), none⟩])
             (.region false [⟨(some 11), (.mv (.tmp 4)), none⟩,
              ⟨(some 12), (.mv (.tmp 3)), none⟩,
              ⟨(some 13), (.mv (.tmp 5)), none⟩,
              ⟨(some 14), (.call 36 [(.tmp 12), (.tmp 13)]), none⟩,
              ⟨(some 15), (.bin .xor (.tmp 11) (.tmp 14)), none⟩,
              ⟨(some 4), (.mv (.tmp 15)), none⟩])))
           (.region false [⟨(some 16), (.bin .add (.tmp 8) (.const (it 1))), none⟩,
            ⟨(some 8), (.mv (.tmp 16)), none⟩])))))))
     (.seq
      (.region false [⟨(some 17), (.mv (.tmp 4)), none⟩,
       ⟨(some 2), (.mv (.tmp 17)), none⟩])
      .ret)))))
def r_aes_Box : List ARes := [(.tmp 2)]
theorem c_aes_Box : o2 Go.Proofs.Try.f15.body (comp Go.Proofs.Try.prog Go.Proofs.Try.f15.ntmps) = some a_aes_Box := by kernel_rfl
theorem s_aes_Box : cRess Go.Proofs.Try.prog Go.Proofs.Try.f15.results.toList = some r_aes_Box := by kernel_rfl
theorem m_aes_Box (C : Ctx) (hC : CtxOK C Go.Proofs.Try.prog) : Meets C.glob Go.Proofs.Try.prog 15 (afun C 1 r_aes_Box a_aes_Box) :=
  fn_sound hC Go.Proofs.Try.func15 c_aes_Box s_aes_Box (Nat.le_of_ble_eq_true (by kernel_rfl))

/-- curtilage/curtilageref03.Box -/
def a_ref03_Box : ACode :=
 (.seq
  (.region false [⟨(some 2), (.mv (.const (u8 0#8))), none⟩])
  (.seq
   (.region false [⟨(some 3), (.mv (.const (it 0))), none⟩])
   (.seq
    (.seq
     (.region false [⟨(some 4), (.mv (.const (it 1))), none⟩])
     (.block 0
      (.loop
       (.seq
        (.seq
         (.region false [⟨(some 10), (.mv (.tmp 4)), none⟩,
          ⟨(some 11), (.bin .lss (.tmp 10) (.const (it 256))), none⟩,
          ⟨(some 12), (.mv (.tmp 11)), none⟩,
          ⟨(some 13), (.mv (.tmp 0)), some (12, true)⟩,
          ⟨(some 14), (.bin .gtr (.tmp 13) (.const (u8 0#8))), some (12, true)⟩,
          ⟨(some 15), (.pick (.tmp 12) (.tmp 14) (.const (.bool false))), none⟩])
         (.cond (.tmp 15)
          .skip
          (.exit 0)))
        (.seq
         (.block 1
          (.seq
           (.region false [⟨(some 18), (.mv (.tmp 0)), none⟩,
            ⟨(some 19), (.mv (.tmp 4)), none⟩,
            ⟨(some 20), (.conv .u8 (.tmp 19)), none⟩,
            ⟨(some 21), (.call 14 [(.tmp 18), (.tmp 20)]), none⟩,
            ⟨(some 22), (.bin .eql (.tmp 21) (.const (u8 1#8))), none⟩])
           (.cond (.tmp 22)
            (.region false [⟨(some 23), (.mv (.tmp 4)), none⟩,
             ⟨(some 3), (.mv (.tmp 23)), none⟩])
            .skip)))
         (.region false [⟨(some 16), (.mv (.tmp 4)), none⟩,
          ⟨(some 17), (.bin .add (.tmp 16) (.const (it 1))), none⟩,
          ⟨(some 4), (.mv (.tmp 17)), none⟩]))))))
    (.seq
     (.region false [⟨(some 5), (.mv (.const (it 0))), none⟩])
     (.seq
      (.seq
       (.region false [⟨(some 6), (.mv (.const (it 0))), none⟩])
       (.block 2
        (.loop
         (.seq
          (.seq
           (.region false [⟨(some 24), (.mv (.tmp 6)), none⟩,
            ⟨(some 25), (.bin .lss (.tmp 24) (.const (it 8))), none⟩])
           (.cond (.tmp 25)
            .skip
            (.exit 2)))
          (.seq
           (.block 3
            (.seq
             (.region false [⟨(some 7), (.mv (.const (it 0))), none⟩])
             (.seq
              (.seq
               (.region false [⟨(some 28), (.bslice LI 5 (.raw (it 0)) [(0, (.const (it 0))), (1, (.const (it 4))), (2, (.const (it 5))), (3, (.const (it 6))), (4, (.const (it 7)))]), none⟩,
                ⟨(some 29), (.len (.tmp 28)), none⟩,
                ⟨(some 30), (.mv (.const (it 0))), none⟩])
               (.block 4
                (.loop
                 (.seq
                  (.region false [⟨(some 31), (.bin .lss (.tmp 30) (.tmp 29)), none⟩])
                  (.seq
                   (.cond (.tmp 31)
                    .skip
                    (.exit 4))
                   (.seq
                    (.block 5
                     (.seq
                      (.region false [⟨(some 32), (.iaddrs LI (.tmp 28) (.tmp 30)), none⟩,
                       ⟨(some 33), (.load LI (.tmp 32)), none⟩,
                       ⟨(some 9), (.mv (.tmp 33)), none⟩])
                      (.region false [⟨(some 34), (.mv (.tmp 7)), none⟩,
                       ⟨(some 35), (.mv (.tmp 3)), none⟩,
                       ⟨(some 36), (.mv (.tmp 6)), none⟩,
                       ⟨(some 37), (.mv (.tmp 9)), none⟩,
                       ⟨(some 38), (.bin .add (.tmp 36) (.tmp 37)), none⟩,
                       ⟨(some 39), (.bin .rem (.tmp 38) (.const (it 8))), none⟩,
                       ⟨(some 40), (.bin .shr (.tmp 35) (.tmp 39)), none⟩,
                       ⟨(some 41), (.bin .rem (.tmp 40) (.const (it 2))), none⟩,
                       ⟨(some 42), (.bin .add (.tmp 34) (.tmp 41)), none⟩,
                       ⟨(some 7), (.mv (.tmp 42)), none⟩])))
                    (.region false [⟨(some 43), (.bin .add (.tmp 30) (.const (it 1))), none⟩,
                     ⟨(some 30), (.mv (.tmp 43)), none⟩])))))))
              (.seq
               (.region false [⟨(some 44), (.mv (.tmp 7)), none⟩,
                ⟨(some 45), (.mv (.tmp 6)), none⟩,
                ⟨(some 46), (.bin .shr (.const (it 99)) (.tmp 45)), none⟩,
                ⟨(some 47), (.bin .rem (.tmp 46) (.const (it 2))), none⟩,
                ⟨(some 48), (.bin .add (.tmp 44) (.tmp 47)), none⟩,
                ⟨(some 7), (.mv (.tmp 48)), none⟩])
               (.region false [⟨(some 49), (.mv (.tmp 5)), none⟩,
                ⟨(some 50), (.mv (.tmp 7)), none⟩,
                ⟨(some 51), (.bin .rem (.tmp 50) (.const (it 2))), none⟩,
                ⟨(some 52), (.mv (.tmp 6)), none⟩,
                ⟨(some 53), (.bin .shl (.tmp 51) (.tmp 52)), none⟩,
                ⟨(some 54), (.bin .add (.tmp 49) (.tmp 53)), none⟩,
                ⟨(some 5), (.mv (.tmp 54)), none⟩])))))
           (.region false [⟨(some 26), (.mv (.tmp 6)), none⟩,
            ⟨(some 27), (.bin .add (.tmp 26) (.const (it 1))), none⟩,
            ⟨(some 6), (.mv (.tmp 27)), none⟩]))))))
      (.seq
       (.region false [⟨(some 55), (.mv (.tmp 5)), none⟩,
        ⟨(some 56), (.conv .u8 (.tmp 55)), none⟩,
        ⟨(some 2), (.mv (.tmp 56)), none⟩])
       .ret))))))
def r_ref03_Box : List ARes := [(.tmp 2)]
theorem c_ref03_Box : o2 Go.Proofs.Try.f16.body (comp Go.Proofs.Try.prog Go.Proofs.Try.f16.ntmps) = some a_ref03_Box := by kernel_rfl
theorem s_ref03_Box : cRess Go.Proofs.Try.prog Go.Proofs.Try.f16.results.toList = some r_ref03_Box := by kernel_rfl
theorem m_ref03_Box (C : Ctx) (hC : CtxOK C Go.Proofs.Try.prog) : Meets C.glob Go.Proofs.Try.prog 16 (afun C 1 r_ref03_Box a_ref03_Box) :=
  fn_sound hC Go.Proofs.Try.func16 c_ref03_Box s_ref03_Box (Nat.le_of_ble_eq_true (by kernel_rfl))

/-- curtilage/aes.Inverse -/
def a_aes_Inverse : ACode :=
 (.seq
  (.region false [⟨(some 2), (.mv (.const (u8 0#8))), none⟩])
  (.seq
   (.region false [⟨(some 3), (.mv (.const (u8 5#8))), none⟩])
   (.seq
    (.seq
     (.region false [⟨(some 6), (.bslice LI 3 (.raw (it 0)) [(0, (.const (it 1))), (1, (.const (it 3))), (2, (.const (it 6)))]), none⟩,
      ⟨(some 7), (.len (.tmp 6)), none⟩,
      ⟨(some 8), (.mv (.const (it 0))), none⟩])
     (.block 0
      (.loop
       (.seq
        (.region false [⟨(some 9), (.bin .lss (.tmp 8) (.tmp 7)), none⟩])
        (.seq
         (.cond (.tmp 9)
          .skip
          (.exit 0))
         (.seq
          (.block 1
           (.seq
            (.region false [⟨(some 10), (.iaddrs LI (.tmp 6) (.tmp 8)), none⟩,
             ⟨(some 11), (.load LI (.tmp 10)), none⟩,
             ⟨(some 5), (.mv (.tmp 11)), none⟩])
            (.region false [⟨(some 12), (.mv (.tmp 3)), none⟩,
             ⟨(some 13), (.mv (.tmp 0)), none⟩,
             ⟨(some 14), (.mv (.tmp 5)), none⟩,
             ⟨(some 15), (.call 36 [(.tmp 13), (.tmp 14)]), none⟩,
             ⟨(some 16), (.bin .xor (.tmp 12) (.tmp 15)), none⟩,
             ⟨(some 3), (.mv (.tmp 16)), none⟩])))
          (.region false [⟨(some 17), (.bin .add (.tmp 8) (.const (it 1))), none⟩,
           ⟨(some 8), (.mv (.tmp 17)), none⟩])))))))
    (.seq
     (.region false [⟨(some 18), (.mv (.tmp 3)), none⟩,
      ⟨(some 19), (.call 35 [(.tmp 18)]), none⟩,
      ⟨(some 2), (.mv (.tmp 19)), none⟩])
     .ret))))
def r_aes_Inverse : List ARes := [(.tmp 2)]
theorem c_aes_Inverse : o2 Go.Proofs.Try.f17.body (comp Go.Proofs.Try.prog Go.Proofs.Try.f17.ntmps) = some a_aes_Inverse := by kernel_rfl
theorem s_aes_Inverse : cRess Go.Proofs.Try.prog Go.Proofs.Try.f17.results.toList = some r_aes_Inverse := by kernel_rfl
theorem m_aes_Inverse (C : Ctx) (hC : CtxOK C Go.Proofs.Try.prog) : Meets C.glob Go.Proofs.Try.prog 17 (afun C 1 r_aes_Inverse a_aes_Inverse) :=
  fn_sound hC Go.Proofs.Try.func17 c_aes_Inverse s_aes_Inverse (Nat.le_of_ble_eq_true (by kernel_rfl))

/-- curtilage/curtilageref03.Encrypt -/
def a_ref03_Encrypt : ACode :=
 (.seq
  (.region false [⟨(some 3), (.box (.ar 16 L8) (.tmp 1)), none⟩,
   ⟨(some 4), (.alloc (.ar 16 L8) (.agg (.ar 16 L8) (List.replicate 16 (.raw (u8 0#8))))), none⟩])
  (.seq
   (.region false [⟨(some 17), (.call 37 []), none⟩,
    ⟨(some 5), (.mv (.tmp 17)), none⟩])
   (.seq
    (.region false [⟨(some 18), (.mv (.tmp 0)), none⟩,
     ⟨(some 19), (.call 21 [(.tmp 18)]), none⟩,
     ⟨(some 6), (.mv (.tmp 19)), none⟩])
    (.seq
     (.region false [⟨(some 20), (.mv (.tmp 6)), none⟩,
      ⟨(some 21), (.len (.tmp 20)), none⟩,
      ⟨(some 22), (.bin .quo (.tmp 21) (.const (it 4))), none⟩,
      ⟨(some 23), (.bin .sub (.tmp 22) (.const (it 1))), none⟩,
      ⟨(some 7), (.mv (.tmp 23)), none⟩])
     (.seq
      (.region false [⟨(some 24), (.load (.ar 16 L8) (.tmp 3)), none⟩,
       ⟨(some 8), (.alloc (.ar 16 L8) (.agg (.ar 16 L8) (List.replicate 16 (.raw (u8 0#8))))), none⟩,
       ⟨none, (.store (.ar 16 L8) (.tmp 8) (.tmp 24)), none⟩])
      (.seq
       (.seq
        (.region false [⟨(some 9), (.mv (.const (it 0))), none⟩])
        (.block 0
         (.loop
          (.seq
           (.seq
            (.region false [⟨(some 25), (.mv (.tmp 9)), none⟩,
             ⟨(some 26), (.mv (.tmp 7)), none⟩,
             ⟨(some 27), (.bin .leq (.tmp 25) (.tmp 26)), none⟩])
            (.cond (.tmp 27)
             .skip
             (.exit 0)))
           (.seq
            (.block 1
             (.seq
              (.seq
               (.region false [⟨(some 30), (.mv (.tmp 9)), none⟩,
                ⟨(some 31), (.bin .gtr (.tmp 30) (.const (it 0))), none⟩])
               (.cond (.tmp 31)
                (.seq
                 (.region false [⟨(some 32), (.load (.ar 16 L8) (.tmp 8)), none⟩,
                  ⟨(some 10), (.alloc (.ar 16 L8) (.agg (.ar 16 L8) (List.replicate 16 (.raw (u8 0#8))))), none⟩,
                  ⟨none, (.store (.ar 16 L8) (.tmp 10) (.tmp 32)), none⟩])
                 (.seq
                  (.seq
                   (.region false [⟨(some 11), (.mv (.const (it 0))), none⟩])
                   (.block 2
                    (.loop
                     (.seq
                      (.seq
                       (.region false [⟨(some 33), (.mv (.tmp 11)), none⟩,
                        ⟨(some 34), (.bin .lss (.tmp 33) (.const (it 4))), none⟩])
                       (.cond (.tmp 34)
                        .skip
                        (.exit 2)))
                      (.seq
                       (.block 3
                        (.seq
                         (.region false [⟨(some 12), (.mv (.const (it 0))), none⟩])
                         (.block 4
                          (.loop
                           (.seq
                            (.seq
                             (.region false [⟨(some 37), (.mv (.tmp 12)), none⟩,
                              ⟨(some 38), (.bin .lss (.tmp 37) (.const (it 4))), none⟩])
                             (.cond (.tmp 38)
                              .skip
                              (.exit 4)))
                            (.seq
                             (.block 5
                              (.region false [⟨(some 41), (.mv (.tmp 11)), none⟩,
                               ⟨(some 42), (.bin .mul (.const (it 4)) (.tmp 41)), none⟩,
                               ⟨(some 43), (.mv (.tmp 12)), none⟩,
                               ⟨(some 44), (.bin .add (.tmp 42) (.tmp 43)), none⟩,
                               ⟨(some 45), (.mv (.tmp 5)), none⟩,
                               ⟨(some 46), (.mv (.tmp 11)), none⟩,
                               ⟨(some 47), (.mv (.tmp 12)), none⟩,
                               ⟨(some 48), (.bin .add (.tmp 46) (.tmp 47)), none⟩,
                               ⟨(some 49), (.bin .rem (.tmp 48) (.const (it 4))), none⟩,
                               ⟨(some 50), (.bin .mul (.const (it 4)) (.tmp 49)), none⟩,
                               ⟨(some 51), (.mv (.tmp 12)), none⟩,
                               ⟨(some 52), (.bin .add (.tmp 50) (.tmp 51)), none⟩,
                               ⟨(some 53), (.iaddra 16 L8 (.tmp 8) (.tmp 52)), none⟩,
                               ⟨(some 54), (.load L8 (.tmp 53)), none⟩,
                               ⟨(some 55), (.iaddrs L8 (.tmp 45) (.tmp 54)), none⟩,
                               ⟨(some 56), (.load L8 (.tmp 55)), none⟩,
                               ⟨(some 57), (.iaddra 16 L8 (.tmp 10) (.tmp 44)), none⟩,
                               ⟨none, (.store L8 (.tmp 57) (.tmp 56)), none⟩]))
                             (.region false [⟨(some 39), (.mv (.tmp 12)), none⟩,
                              ⟨(some 40), (.bin .add (.tmp 39) (.const (it 1))), none⟩,
                              ⟨(some 12), (.mv (.tmp 40)), none⟩])))))))
                       (.region false [⟨(some 35), (.mv (.tmp 11)), none⟩,
                        ⟨(some 36), (.bin .add (.tmp 35) (.const (it 1))), none⟩,
                        ⟨(some 11), (.mv (.tmp 36)), none⟩]))))))
                  (.seq
                   (.region false [⟨(some 58), (.load (.ar 16 L8) (.tmp 10)), none⟩,
                    ⟨none, (.store (.ar 16 L8) (.tmp 8) (.tmp 58)), none⟩])
                   (.seq
                    (.region false [⟨(some 13), (.mv (.const (it 0))), none⟩])
                    (.block 6
                     (.loop
                      (.seq
                       (.seq
                        (.region false [⟨(some 59), (.mv (.tmp 13)), none⟩,
                         ⟨(some 60), (.bin .lss (.tmp 59) (.const (it 4))), none⟩,
                         ⟨(some 61), (.mv (.tmp 60)), none⟩,
                         ⟨(some 62), (.mv (.tmp 9)), some (61, true)⟩,
                         ⟨(some 63), (.mv (.tmp 7)), some (61, true)⟩,
                         ⟨(some 64), (.bin .lss (.tmp 62) (.tmp 63)), some (61, true)⟩,
                         ⟨(some 65), (.pick (.tmp 61) (.tmp 64) (.const (.bool false))), none⟩])
                        (.cond (.tmp 65)
                         .skip
                         (.exit 6)))
                       (.seq
                        (.block 7
                         (.seq
                          (.region true [⟨(some 68), (.mv (.tmp 13)), none⟩,
                           ⟨(some 69), (.bin .mul (.const (it 4)) (.tmp 68)), none⟩,
                           ⟨(some 70), (.iaddra 16 L8 (.tmp 10) (.tmp 69)), none⟩,
                           ⟨(some 71), (.load L8 (.tmp 70)), none⟩,
                           ⟨(some 72), (.mv (.tmp 13)), none⟩,
                           ⟨(some 73), (.bin .mul (.const (it 4)) (.tmp 72)), none⟩,
                           ⟨(some 74), (.bin .add (.tmp 73) (.const (it 1))), none⟩,
                           ⟨(some 75), (.iaddra 16 L8 (.tmp 10) (.tmp 74)), none⟩,
                           ⟨(some 76), (.load L8 (.tmp 75)), none⟩,
                           ⟨(some 77), (.mv (.tmp 13)), none⟩,
                           ⟨(some 78), (.bin .mul (.const (it 4)) (.tmp 77)), none⟩,
                           ⟨(some 79), (.bin .add (.tmp 78) (.const (it 2))), none⟩,
                           ⟨(some 80), (.iaddra 16 L8 (.tmp 10) (.tmp 79)), none⟩,
                           ⟨(some 81), (.load L8 (.tmp 80)), none⟩,
                           ⟨(some 82), (.mv (.tmp 13)), none⟩,
                           ⟨(some 83), (.bin .mul (.const (it 4)) (.tmp 82)), none⟩,
                           ⟨(some 84), (.bin .add (.tmp 83) (.const (it 3))), none⟩,
                           ⟨(some 85), (.iaddra 16 L8 (.tmp 10) (.tmp 84)), none⟩,
                           ⟨(some 86), (.load L8 (.tmp 85)), none⟩,
                           ⟨(some 87), (.build (.ar 4 L8) (List.replicate 4 (.raw (u8 0#8))) [(0, (.tmp 71)), (1, (.tmp 76)), (2, (.tmp 81)), (3, (.tmp 86))]), none⟩,
                           ⟨(some 14), (.alloc (.ar 4 L8) (.agg (.ar 4 L8) (List.replicate 4 (.raw (u8 0#8))))), none⟩,
                           ⟨none, (.store (.ar 4 L8) (.tmp 14) (.tmp 87)), none⟩])
                          (.seq
                           (.region false [⟨(some 15), (.mv (.const (it 0))), none⟩])
                           (.block 8
                            (.loop
                             (.seq
                              (.seq
                               (.region false [⟨(some 88), (.mv (.tmp 15)), none⟩,
                                ⟨(some 89), (.bin .lss (.tmp 88) (.const (it 4))), none⟩])
                               (.cond (.tmp 89)
                                .skip
                                (.exit 8)))
                              (.seq
                               (.block 9
                                (.region true [⟨(some 92), (.mv (.tmp 13)), none⟩,
                                 ⟨(some 93), (.bin .mul (.const (it 4)) (.tmp 92)), none⟩,
                                 ⟨(some 94), (.mv (.tmp 15)), none⟩,
                                 ⟨(some 95), (.bin .add (.tmp 93) (.tmp 94)), none⟩,
                                 ⟨(some 96), (.mv (.tmp 15)), none⟩,
                                 ⟨(some 97), (.iaddra 4 L8 (.tmp 14) (.tmp 96)), none⟩,
                                 ⟨(some 98), (.load L8 (.tmp 97)), none⟩,
                                 ⟨(some 99), (.call 14 [(.tmp 98), (.const (u8 2#8))]), none⟩,
                                 ⟨(some 100), (.mv (.tmp 15)), none⟩,
                                 ⟨(some 101), (.bin .add (.tmp 100) (.const (it 1))), none⟩,
                                 ⟨(some 102), (.bin .rem (.tmp 101) (.const (it 4))), none⟩,
                                 ⟨(some 103), (.iaddra 4 L8 (.tmp 14) (.tmp 102)), none⟩,
                                 ⟨(some 104), (.load L8 (.tmp 103)), none⟩,
                                 ⟨(some 105), (.call 14 [(.tmp 104), (.const (u8 3#8))]), none⟩,
                                 ⟨(some 106), (.bin .xor (.tmp 99) (.tmp 105)), none⟩,
                                 ⟨(some 107), (.mv (.tmp 15)), none⟩,
                                 ⟨(some 108), (.bin .add (.tmp 107) (.const (it 2))), none⟩,
                                 ⟨(some 109), (.bin .rem (.tmp 108) (.const (it 4))), none⟩,
                                 ⟨(some 110), (.iaddra 4 L8 (.tmp 14) (.tmp 109)), none⟩,
                                 ⟨(some 111), (.load L8 (.tmp 110)), none⟩,
                                 ⟨(some 112), (.bin .xor (.tmp 106) (.tmp 111)), none⟩,
                                 ⟨(some 113), (.mv (.tmp 15)), none⟩,
                                 ⟨(some 114), (.bin .add (.tmp 113) (.const (it 3))), none⟩,
                                 ⟨(some 115), (.bin .rem (.tmp 114) (.const (it 4))), none⟩,
                                 ⟨(some 116), (.iaddra 4 L8 (.tmp 14) (.tmp 115)), none⟩,
                                 ⟨(some 117), (.load L8 (.tmp 116)), none⟩,
                                 ⟨(some 118), (.bin .xor (.tmp 112) (.tmp 117)), none⟩,
                                 ⟨(some 119), (.iaddra 16 L8 (.tmp 8) (.tmp 95)), none⟩,
                                 ⟨none, (.store L8 (.tmp 119) (.tmp 118)), none⟩]))
                               (.region false [⟨(some 90), (.mv (.tmp 15)), none⟩,
                                ⟨(some 91), (.bin .add (.tmp 90) (.const (it 1))), none⟩,
                                ⟨(some 15), (.mv (.tmp 91)), none⟩]))))))))
                        (.region false [⟨(some 66), (.mv (.tmp 13)), none⟩,
                         ⟨(some 67), (.bin .add (.tmp 66) (.const (it 1))), none⟩,
                         ⟨(some 13), (.mv (.tmp 67)), none⟩])))))))))
                .skip))
              (.seq
               (.region false [⟨(some 120), (.mv (.const (it 0))), none⟩])
               (.block 10
                (.loop
                 (.seq
                  (.region false [⟨(some 121), (.bin .lss (.tmp 120) (.const (it 16))), none⟩])
                  (.seq
                   (.cond (.tmp 121)
                    .skip
                    (.exit 10))
                   (.seq
                    (.block 11
                     (.seq
                      (.region false [⟨(some 122), (.mv (.tmp 120)), none⟩,
                       ⟨(some 16), (.mv (.tmp 122)), none⟩])
                      (.region true [⟨(some 123), (.mv (.tmp 16)), none⟩,
                       ⟨(some 124), (.iaddra 16 L8 (.tmp 8) (.tmp 123)), none⟩,
                       ⟨(some 125), (.load L8 (.tmp 124)), none⟩,
                       ⟨(some 126), (.mv (.tmp 6)), none⟩,
                       ⟨(some 127), (.mv (.tmp 9)), none⟩,
                       ⟨(some 128), (.bin .mul (.const (it 4)) (.tmp 127)), none⟩,
                       ⟨(some 129), (.mv (.tmp 16)), none⟩,
                       ⟨(some 130), (.bin .quo (.tmp 129) (.const (it 4))), none⟩,
                       ⟨(some 131), (.bin .add (.tmp 128) (.tmp 130)), none⟩,
                       ⟨(some 132), (.iaddrs .ref (.tmp 126) (.tmp 131)), none⟩,
                       ⟨(some 133), (.load .ref (.tmp 132)), none⟩,
                       ⟨(some 134), (.mv (.tmp 16)), none⟩,
                       ⟨(some 135), (.bin .rem (.tmp 134) (.const (it 4))), none⟩,
                       ⟨(some 136), (.iaddrs L8 (.tmp 133) (.tmp 135)), none⟩,
                       ⟨(some 137), (.load L8 (.tmp 136)), none⟩,
                       ⟨(some 138), (.bin .xor (.tmp 125) (.tmp 137)), none⟩,
                       ⟨(some 139), (.iaddra 16 L8 (.tmp 8) (.tmp 123)), none⟩,
                       ⟨none, (.store L8 (.tmp 139) (.tmp 138)), none⟩])))
                    (.region false [⟨(some 140), (.bin .add (.tmp 120) (.const (it 1))), none⟩,
                     ⟨(some 120), (.mv (.tmp 140)), none⟩])))))))))
            (.region false [⟨(some 28), (.mv (.tmp 9)), none⟩,
             ⟨(some 29), (.bin .add (.tmp 28) (.const (it 1))), none⟩,
             ⟨(some 9), (.mv (.tmp 29)), none⟩]))))))
       (.seq
        (.region false [⟨(some 141), (.load (.ar 16 L8) (.tmp 8)), none⟩,
         ⟨none, (.store (.ar 16 L8) (.tmp 4) (.tmp 141)), none⟩])
        .ret)))))))
def r_ref03_Encrypt : List ARes := [(.cell 4 (.ar 16 L8))]
theorem c_ref03_Encrypt : o2 Go.Proofs.Try.f18.body (comp Go.Proofs.Try.prog Go.Proofs.Try.f18.ntmps) = some a_ref03_Encrypt := by kernel_rfl
theorem s_ref03_Encrypt : cRess Go.Proofs.Try.prog Go.Proofs.Try.f18.results.toList = some r_ref03_Encrypt := by kernel_rfl
theorem m_ref03_Encrypt (C : Ctx) (hC : CtxOK C Go.Proofs.Try.prog) : Meets C.glob Go.Proofs.Try.prog 18 (afun C 2 r_ref03_Encrypt a_ref03_Encrypt) :=
  fn_sound hC Go.Proofs.Try.func18 c_ref03_Encrypt s_ref03_Encrypt (Nat.le_of_ble_eq_true (by kernel_rfl))

/-- (curtilage/aes.Key).Rounds -/
def a_aes_Key_Rounds : ACode :=
 (.seq
  (.region false [⟨(some 1), (.box S1 (.tmp 0)), none⟩,
   ⟨(some 2), (.mv (.const (it 0))), none⟩])
  (.seq
   (.region false [⟨(some 3), (.faddr S1 (.tmp 1) 0), none⟩,
    ⟨(some 4), (.load .ref (.tmp 3)), none⟩,
    ⟨(some 5), (.len (.tmp 4)), none⟩,
    ⟨(some 6), (.bin .quo (.tmp 5) (.const (it 4))), none⟩,
    ⟨(some 7), (.bin .sub (.tmp 6) (.const (it 1))), none⟩,
    ⟨(some 8), (.minmax true [(.tmp 7), (.const (it 0))]), none⟩,
    ⟨(some 2), (.mv (.tmp 8)), none⟩])
   .ret))
def r_aes_Key_Rounds : List ARes := [(.tmp 2)]
theorem c_aes_Key_Rounds : o2 Go.Proofs.Try.f19.body (comp Go.Proofs.Try.prog Go.Proofs.Try.f19.ntmps) = some a_aes_Key_Rounds := by kernel_rfl
theorem s_aes_Key_Rounds : cRess Go.Proofs.Try.prog Go.Proofs.Try.f19.results.toList = some r_aes_Key_Rounds := by kernel_rfl
theorem m_aes_Key_Rounds (C : Ctx) (hC : CtxOK C Go.Proofs.Try.prog) : Meets C.glob Go.Proofs.Try.prog 19 (afun C 1 r_aes_Key_Rounds a_aes_Key_Rounds) :=
  fn_sound hC Go.Proofs.Try.func19 c_aes_Key_Rounds s_aes_Key_Rounds (Nat.le_of_ble_eq_true (by kernel_rfl))

/-- (curtilage/aes.Key).Words -/
def a_aes_Key_Words : ACode :=
 (.seq
  (.region false [⟨(some 1), (.box S1 (.tmp 0)), none⟩,
   ⟨(some 2), (.mv (.const (.slice none 0 0))), none⟩])
  (.seq
   (.region false [⟨(some 3), (.faddr S1 (.tmp 1) 0), none⟩,
    ⟨(some 4), (.load .ref (.tmp 3)), none⟩,
    ⟨(some 5), (.call 38 [(.tmp 4)]), none⟩,
    ⟨(some 2), (.mv (.tmp 5)), none⟩])
   .ret))
def r_aes_Key_Words : List ARes := [(.tmp 2)]
theorem c_aes_Key_Words : o2 Go.Proofs.Try.f20.body (comp Go.Proofs.Try.prog Go.Proofs.Try.f20.ntmps) = some a_aes_Key_Words := by kernel_rfl
theorem s_aes_Key_Words : cRess Go.Proofs.Try.prog Go.Proofs.Try.f20.results.toList = some r_aes_Key_Words := by kernel_rfl
theorem m_aes_Key_Words (C : Ctx) (hC : CtxOK C Go.Proofs.Try.prog) : Meets C.glob Go.Proofs.Try.prog 20 (afun C 1 r_aes_Key_Words a_aes_Key_Words) :=
  fn_sound hC Go.Proofs.Try.func20 c_aes_Key_Words s_aes_Key_Words (Nat.le_of_ble_eq_true (by kernel_rfl))

/-- curtilage/curtilageref03.Words -/
def a_ref03_Words : ACode :=
 (.seq
  (.region false [⟨(some 2), (.mv (.const (.slice none 0 0))), none⟩])
  (.seq
   (.region false [⟨(some 10), (.mv (.tmp 0)), none⟩,
    ⟨(some 11), (.len (.tmp 10)), none⟩,
    ⟨(some 12), (.bin .quo (.tmp 11) (.const (it 4))), none⟩,
    ⟨(some 3), (.mv (.tmp 12)), none⟩])
   (.seq
    (.region false [⟨(some 13), (.call 37 []), none⟩,
     ⟨(some 4), (.mv (.tmp 13)), none⟩])
    (.seq
     (.region false [⟨(some 5), (.mv (.const (.slice none 0 0))), none⟩])
     (.seq
      (.region false [⟨(some 6), (.mv (.const (u8 1#8))), none⟩])
      (.seq
       (.seq
        (.region false [⟨(some 7), (.mv (.const (it 0))), none⟩])
        (.block 0
         (.loop
          (.seq
           (.seq
            (.region false [⟨(some 14), (.mv (.tmp 7)), none⟩,
             ⟨(some 15), (.mv (.tmp 3)), none⟩,
             ⟨(some 16), (.bin .add (.tmp 15) (.const (it 7))), none⟩,
             ⟨(some 17), (.bin .mul (.const (it 4)) (.tmp 16)), none⟩,
             ⟨(some 18), (.bin .lss (.tmp 14) (.tmp 17)), none⟩])
            (.cond (.tmp 18)
             .skip
             (.exit 0)))
           (.seq
            (.block 1
             (.seq
              (.seq
               (.region false [⟨(some 21), (.mv (.tmp 7)), none⟩,
                ⟨(some 22), (.mv (.tmp 3)), none⟩,
                ⟨(some 23), (.bin .lss (.tmp 21) (.tmp 22)), none⟩])
               (.cond (.tmp 23)
                (.seq
                 (.region false [⟨(some 24), (.mv (.tmp 5)), none⟩,
                  ⟨(some 25), (.bslice L8 0 (.raw (u8 0#8)) []), none⟩,
                  ⟨(some 26), (.mv (.tmp 0)), none⟩,
                  ⟨(some 27), (.mv (.tmp 7)), none⟩,
                  ⟨(some 28), (.bin .mul (.const (it 4)) (.tmp 27)), none⟩,
                  ⟨(some 29), (.mv (.tmp 7)), none⟩,
                  ⟨(some 30), (.bin .mul (.const (it 4)) (.tmp 29)), none⟩,
                  ⟨(some 31), (.bin .add (.tmp 30) (.const (it 4))), none⟩,
                  ⟨(some 32), (.slice L8 (.tmp 26) (some (.tmp 28)) (some (.tmp 31)) none), none⟩,
                  ⟨(some 33), (.append L8 1 (.tmp 25) (.tmp 32)), none⟩,
                  ⟨(some 34), (.bslice .ref 1 (.raw (.slice none 0 0)) [(0, (.tmp 33))]), none⟩,
                  ⟨(some 35), (.append .ref 24 (.tmp 24) (.tmp 34)), none⟩,
                  ⟨(some 5), (.mv (.tmp 35)), none⟩])
                 (.exit 1))
                .skip))
              (.seq
               (.region false [⟨(some 36), (.bslice L8 0 (.raw (u8 0#8)) []), none⟩,
                ⟨(some 37), (.mv (.tmp 5)), none⟩,
                ⟨(some 38), (.mv (.tmp 7)), none⟩,
                ⟨(some 39), (.bin .sub (.tmp 38) (.const (it 1))), none⟩,
                ⟨(some 40), (.iaddrs .ref (.tmp 37) (.tmp 39)), none⟩,
                ⟨(some 41), (.load .ref (.tmp 40)), none⟩,
                ⟨(some 42), (.append L8 1 (.tmp 36) (.tmp 41)), none⟩,
                ⟨(some 8), (.mv (.tmp 42)), none⟩])
               (.seq
                (.seq
                 (.region false [⟨(some 43), (.mv (.tmp 7)), none⟩,
                  ⟨(some 44), (.mv (.tmp 3)), none⟩,
                  ⟨(some 45), (.bin .rem (.tmp 43) (.tmp 44)), none⟩,
                  ⟨(some 46), (.bin .eql (.tmp 45) (.const (it 0))), none⟩])
                 (.cond (.tmp 46)
                  (.seq
                   (.region true [⟨(some 47), (.mv (.tmp 4)), none⟩,
                    ⟨(some 48), (.mv (.tmp 8)), none⟩,
                    ⟨(some 49), (.iaddrs L8 (.tmp 48) (.const (it 1))), none⟩,
                    ⟨(some 50), (.load L8 (.tmp 49)), none⟩,
                    ⟨(some 51), (.iaddrs L8 (.tmp 47) (.tmp 50)), none⟩,
                    ⟨(some 52), (.load L8 (.tmp 51)), none⟩,
                    ⟨(some 53), (.mv (.tmp 6)), none⟩,
                    ⟨(some 54), (.bin .xor (.tmp 52) (.tmp 53)), none⟩,
                    ⟨(some 55), (.mv (.tmp 4)), none⟩,
                    ⟨(some 56), (.mv (.tmp 8)), none⟩,
                    ⟨(some 57), (.iaddrs L8 (.tmp 56) (.const (it 2))), none⟩,
                    ⟨(some 58), (.load L8 (.tmp 57)), none⟩,
                    ⟨(some 59), (.iaddrs L8 (.tmp 55) (.tmp 58)), none⟩,
                    ⟨(some 60), (.load L8 (.tmp 59)), none⟩,
                    ⟨(some 61), (.mv (.tmp 4)), none⟩,
                    ⟨(some 62), (.mv (.tmp 8)), none⟩,
                    ⟨(some 63), (.iaddrs L8 (.tmp 62) (.const (it 3))), none⟩,
                    ⟨(some 64), (.load L8 (.tmp 63)), none⟩,
                    ⟨(some 65), (.iaddrs L8 (.tmp 61) (.tmp 64)), none⟩,
                    ⟨(some 66), (.load L8 (.tmp 65)), none⟩,
                    ⟨(some 67), (.mv (.tmp 4)), none⟩,
                    ⟨(some 68), (.mv (.tmp 8)), none⟩,
                    ⟨(some 69), (.iaddrs L8 (.tmp 68) (.const (it 0))), none⟩,
                    ⟨(some 70), (.load L8 (.tmp 69)), none⟩,
                    ⟨(some 71), (.iaddrs L8 (.tmp 67) (.tmp 70)), none⟩,
                    ⟨(some 72), (.load L8 (.tmp 71)), none⟩,
                    ⟨(some 73), (.bslice L8 4 (.raw (u8 0#8)) [(0, (.tmp 54)), (1, (.tmp 60)), (2, (.tmp 66)), (3, (.tmp 72))]), none⟩,
                    ⟨(some 8), (.mv (.tmp 73)), none⟩])
                   (.region false [⟨(some 74), (.mv (.tmp 6)), none⟩,
                    ⟨(some 75), (.call 14 [(.tmp 74), (.const (u8 2#8))]), none⟩,
                    ⟨(some 6), (.mv (.tmp 75)), none⟩]))
                  (.seq
                   (.region false [⟨(some 76), (.mv (.tmp 3)), none⟩,
                    ⟨(some 77), (.bin .eql (.tmp 76) (.const (it 8))), none⟩,
                    ⟨(some 78), (.mv (.tmp 77)), none⟩,
                    ⟨(some 79), (.mv (.tmp 7)), some (78, true)⟩,
                    ⟨(some 80), (.bin .rem (.tmp 79) (.const (it 8))), some (78, true)⟩,
                    ⟨(some 81), (.bin .eql (.tmp 80) (.const (it 4))), some (78, true)⟩,
                    ⟨(some 82), (.pick (.tmp 78) (.tmp 81) (.const (.bool false))), none⟩])
                   (.cond (.tmp 82)
                    (.region true [⟨(some 83), (.mv (.tmp 4)), none⟩,
                     ⟨(some 84), (.mv (.tmp 8)), none⟩,
                     ⟨(some 85), (.iaddrs L8 (.tmp 84) (.const (it 0))), none⟩,
                     ⟨(some 86), (.load L8 (.tmp 85)), none⟩,
                     ⟨(some 87), (.iaddrs L8 (.tmp 83) (.tmp 86)), none⟩,
                     ⟨(some 88), (.load L8 (.tmp 87)), none⟩,
                     ⟨(some 89), (.mv (.tmp 4)), none⟩,
                     ⟨(some 90), (.mv (.tmp 8)), none⟩,
                     ⟨(some 91), (.iaddrs L8 (.tmp 90) (.const (it 1))), none⟩,
                     ⟨(some 92), (.load L8 (.tmp 91)), none⟩,
                     ⟨(some 93), (.iaddrs L8 (.tmp 89) (.tmp 92)), none⟩,
                     ⟨(some 94), (.load L8 (.tmp 93)), none⟩,
                     ⟨(some 95), (.mv (.tmp 4)), none⟩,
                     ⟨(some 96), (.mv (.tmp 8)), none⟩,
                     ⟨(some 97), (.iaddrs L8 (.tmp 96) (.const (it 2))), none⟩,
                     ⟨(some 98), (.load L8 (.tmp 97)), none⟩,
                     ⟨(some 99), (.iaddrs L8 (.tmp 95) (.tmp 98)), none⟩,
                     ⟨(some 100), (.load L8 (.tmp 99)), none⟩,
                     ⟨(some 101), (.mv (.tmp 4)), none⟩,
                     ⟨(some 102), (.mv (.tmp 8)), none⟩,
                     ⟨(some 103), (.iaddrs L8 (.tmp 102) (.const (it 3))), none⟩,
                     ⟨(some 104), (.load L8 (.tmp 103)), none⟩,
                     ⟨(some 105), (.iaddrs L8 (.tmp 101) (.tmp 104)), none⟩,
                     ⟨(some 106), (.load L8 (.tmp 105)), none⟩,
                     ⟨(some 107), (.bslice L8 4 (.raw (u8 0#8)) [(0, (.tmp 88)), (1, (.tmp 94)), (2, (.tmp 100)), (3, (.tmp 106))]), none⟩,
                     ⟨(some 8), (.mv (.tmp 107)), none⟩])
                    .skip))))
                (.seq
                 (.seq
                  (.region false [⟨(some 108), (.mv (.tmp 8)), none⟩,
                   ⟨(some 109), (.len (.tmp 108)), none⟩,
                   ⟨(some 110), (.mv (.const (it 0))), none⟩])
                  (.block 2
                   (.loop
                    (.seq
                     (.region false [⟨(some 111), (.bin .lss (.tmp 110) (.tmp 109)), none⟩])
                     (.seq
                      (.cond (.tmp 111)
                       .skip
                       (.exit 2))
                      (.seq
                       (.block 3
                        (.seq
                         (.region false [⟨(some 112), (.mv (.tmp 110)), none⟩,
                          ⟨(some 9), (.mv (.tmp 112)), none⟩])
                         (.region true [⟨(some 113), (.mv (.tmp 8)), none⟩,
                          ⟨(some 114), (.mv (.tmp 9)), none⟩,
                          ⟨(some 115), (.iaddrs L8 (.tmp 113) (.tmp 114)), none⟩,
                          ⟨(some 116), (.load L8 (.tmp 115)), none⟩,
                          ⟨(some 117), (.mv (.tmp 5)), none⟩,
                          ⟨(some 118), (.mv (.tmp 7)), none⟩,
                          ⟨(some 119), (.mv (.tmp 3)), none⟩,
                          ⟨(some 120), (.bin .sub (.tmp 118) (.tmp 119)), none⟩,
                          ⟨(some 121), (.iaddrs .ref (.tmp 117) (.tmp 120)), none⟩,
                          ⟨(some 122), (.load .ref (.tmp 121)), none⟩,
                          ⟨(some 123), (.mv (.tmp 9)), none⟩,
                          ⟨(some 124), (.iaddrs L8 (.tmp 122) (.tmp 123)), none⟩,
                          ⟨(some 125), (.load L8 (.tmp 124)), none⟩,
                          ⟨(some 126), (.bin .xor (.tmp 116) (.tmp 125)), none⟩,
                          ⟨(some 127), (.iaddrs L8 (.tmp 113) (.tmp 114)), none⟩,
                          ⟨none, (.store L8 (.tmp 127) (.tmp 126)), none⟩])))
                       (.region false [⟨(some 128), (.bin .add (.tmp 110) (.const (it 1))), none⟩,
                        ⟨(some 110), (.mv (.tmp 128)), none⟩])))))))
                 (.region false [⟨(some 129), (.mv (.tmp 5)), none⟩,
                  ⟨(some 130), (.mv (.tmp 8)), none⟩,
                  ⟨(some 131), (.bslice .ref 1 (.raw (.slice none 0 0)) [(0, (.tmp 130))]), none⟩,
                  ⟨(some 132), (.append .ref 24 (.tmp 129) (.tmp 131)), none⟩,
                  ⟨(some 5), (.mv (.tmp 132)), none⟩]))))))
            (.region false [⟨(some 19), (.mv (.tmp 7)), none⟩,
             ⟨(some 20), (.bin .add (.tmp 19) (.const (it 1))), none⟩,
             ⟨(some 7), (.mv (.tmp 20)), none⟩]))))))
       (.seq
        (.region false [⟨(some 133), (.mv (.tmp 5)), none⟩,
         ⟨(some 2), (.mv (.tmp 133)), none⟩])
        .ret)))))))
def r_ref03_Words : List ARes := [(.tmp 2)]
theorem c_ref03_Words : o2 Go.Proofs.Try.f21.body (comp Go.Proofs.Try.prog Go.Proofs.Try.f21.ntmps) = some a_ref03_Words := by kernel_rfl
theorem s_ref03_Words : cRess Go.Proofs.Try.prog Go.Proofs.Try.f21.results.toList = some r_ref03_Words := by kernel_rfl
theorem m_ref03_Words (C : Ctx) (hC : CtxOK C Go.Proofs.Try.prog) : Meets C.glob Go.Proofs.Try.prog 21 (afun C 1 r_ref03_Words a_ref03_Words) :=
  fn_sound hC Go.Proofs.Try.func21 c_ref03_Words s_ref03_Words (Nat.le_of_ble_eq_true (by kernel_rfl))

/-- curtilage/curtilageref01.Value -/
def a_ref01_Value : ACode :=
 (.seq
  (.region false [⟨(some 2), (.mv (.const (u64 0#64))), none⟩])
  (.seq
   (.region false [⟨(some 3), (.mv (.const (u64 0#64))), none⟩])
   (.seq
    (.seq
     (.region false [⟨(some 6), (.mv (.tmp 0)), none⟩,
      ⟨(some 7), (.len (.tmp 6)), none⟩,
      ⟨(some 8), (.mv (.const (it 0))), none⟩])
     (.block 0
      (.loop
       (.seq
        (.region false [⟨(some 9), (.bin .lss (.tmp 8) (.tmp 7)), none⟩])
        (.seq
         (.cond (.tmp 9)
          .skip
          (.exit 0))
         (.seq
          (.block 1
           (.seq
            (.region false [⟨(some 10), (.iaddrs L8 (.tmp 6) (.tmp 8)), none⟩,
             ⟨(some 11), (.load L8 (.tmp 10)), none⟩,
             ⟨(some 5), (.mv (.tmp 11)), none⟩])
            (.region false [⟨(some 12), (.mv (.tmp 3)), none⟩,
             ⟨(some 13), (.bin .mul (.const (u64 256#64)) (.tmp 12)), none⟩,
             ⟨(some 14), (.mv (.tmp 5)), none⟩,
             ⟨(some 15), (.conv .u64 (.tmp 14)), none⟩,
             ⟨(some 16), (.bin .add (.tmp 13) (.tmp 15)), none⟩,
             ⟨(some 3), (.mv (.tmp 16)), none⟩])))
          (.region false [⟨(some 17), (.bin .add (.tmp 8) (.const (it 1))), none⟩,
           ⟨(some 8), (.mv (.tmp 17)), none⟩])))))))
    (.seq
     (.region false [⟨(some 18), (.mv (.tmp 3)), none⟩,
      ⟨(some 2), (.mv (.tmp 18)), none⟩])
     .ret))))
def r_ref01_Value : List ARes := [(.tmp 2)]
theorem c_ref01_Value : o2 Go.Proofs.Try.f22.body (comp Go.Proofs.Try.prog Go.Proofs.Try.f22.ntmps) = some a_ref01_Value := by kernel_rfl
theorem s_ref01_Value : cRess Go.Proofs.Try.prog Go.Proofs.Try.f22.results.toList = some r_ref01_Value := by kernel_rfl
theorem m_ref01_Value (C : Ctx) (hC : CtxOK C Go.Proofs.Try.prog) : Meets C.glob Go.Proofs.Try.prog 22 (afun C 1 r_ref01_Value a_ref01_Value) :=
  fn_sound hC Go.Proofs.Try.func22 c_ref01_Value s_ref01_Value (Nat.le_of_ble_eq_true (by kernel_rfl))

/-- curtilage/curtilageref01.Same -/
def a_ref01_Same : ACode :=
 (.seq
  (.region false [⟨(some 4), (.mv (.const (.bool false))), none⟩])
  (.seq
   (.seq
    (.region false [⟨(some 6), (.mv (.tmp 0)), none⟩,
     ⟨(some 7), (.len (.tmp 6)), none⟩,
     ⟨(some 8), (.mv (.tmp 1)), none⟩,
     ⟨(some 9), (.len (.tmp 8)), none⟩,
     ⟨(some 10), (.bin .neq (.tmp 7) (.tmp 9)), none⟩])
    (.cond (.tmp 10)
     (.seq
      (.region false [⟨(some 4), (.mv (.const (.bool false))), none⟩])
      .ret)
     .skip))
   (.seq
    (.seq
     (.region false [⟨(some 11), (.mv (.tmp 0)), none⟩,
      ⟨(some 12), (.len (.tmp 11)), none⟩,
      ⟨(some 13), (.mv (.const (it 0))), none⟩])
     (.block 0
      (.loop
       (.seq
        (.region false [⟨(some 14), (.bin .lss (.tmp 13) (.tmp 12)), none⟩])
        (.seq
         (.cond (.tmp 14)
          .skip
          (.exit 0))
         (.seq
          (.block 1
           (.seq
            (.region false [⟨(some 15), (.mv (.tmp 13)), none⟩,
             ⟨(some 5), (.mv (.tmp 15)), none⟩])
            (.seq
             (.region true [⟨(some 16), (.mv (.tmp 0)), none⟩,
              ⟨(some 17), (.mv (.tmp 5)), none⟩,
              ⟨(some 18), (.iaddrs L8 (.tmp 16) (.tmp 17)), none⟩,
              ⟨(some 19), (.load L8 (.tmp 18)), none⟩,
              ⟨(some 20), (.mv (.tmp 1)), none⟩,
              ⟨(some 21), (.mv (.tmp 5)), none⟩,
              ⟨(some 22), (.iaddrs L8 (.tmp 20) (.tmp 21)), none⟩,
              ⟨(some 23), (.load L8 (.tmp 22)), none⟩,
              ⟨(some 24), (.bin .neq (.tmp 19) (.tmp 23)), none⟩])
             (.cond (.tmp 24)
              (.seq
               (.region false [⟨(some 4), (.mv (.const (.bool false))), none⟩])
               .ret)
              .skip))))
          (.region false [⟨(some 25), (.bin .add (.tmp 13) (.const (it 1))), none⟩,
           ⟨(some 13), (.mv (.tmp 25)), none⟩])))))))
    (.seq
     (.region false [⟨(some 4), (.mv (.const (.bool true))), none⟩])
     .ret))))
def r_ref01_Same : List ARes := [(.tmp 4)]
theorem c_ref01_Same : o2 Go.Proofs.Try.f23.body (comp Go.Proofs.Try.prog Go.Proofs.Try.f23.ntmps) = some a_ref01_Same := by kernel_rfl
theorem s_ref01_Same : cRess Go.Proofs.Try.prog Go.Proofs.Try.f23.results.toList = some r_ref01_Same := by kernel_rfl
theorem m_ref01_Same (C : Ctx) (hC : CtxOK C Go.Proofs.Try.prog) : Meets C.glob Go.Proofs.Try.prog 23 (afun C 2 r_ref01_Same a_ref01_Same) :=
  fn_sound hC Go.Proofs.Try.func23 c_ref01_Same s_ref01_Same (Nat.le_of_ble_eq_true (by kernel_rfl))

/-- curtilage/curtilageref01.Cut -/
def a_ref01_Cut : ACode :=
 (.seq
  (.region false [⟨(some 4), (.mv (.const (.slice none 0 0))), none⟩])
  (.seq
   (.region false [⟨(some 5), (.mv (.const (.slice none 0 0))), none⟩])
   (.seq
    (.seq
     (.region false [⟨(some 8), (.mv (.tmp 0)), none⟩,
      ⟨(some 9), (.len (.tmp 8)), none⟩,
      ⟨(some 10), (.mv (.const (it 0))), none⟩])
     (.block 0
      (.loop
       (.seq
        (.region false [⟨(some 11), (.bin .lss (.tmp 10) (.tmp 9)), none⟩])
        (.seq
         (.cond (.tmp 11)
          .skip
          (.exit 0))
         (.seq
          (.block 1
           (.seq
            (.region false [⟨(some 12), (.mv (.tmp 10)), none⟩,
             ⟨(some 13), (.iaddrs L8 (.tmp 8) (.tmp 10)), none⟩,
             ⟨(some 14), (.load L8 (.tmp 13)), none⟩,
             ⟨(some 6), (.mv (.tmp 12)), none⟩,
             ⟨(some 7), (.mv (.tmp 14)), none⟩])
            (.seq
             (.region false [⟨(some 15), (.mv (.tmp 6)), none⟩,
              ⟨(some 16), (.mv (.tmp 1)), none⟩,
              ⟨(some 17), (.bin .lss (.tmp 15) (.tmp 16)), none⟩])
             (.cond (.tmp 17)
              (.region false [⟨(some 18), (.mv (.tmp 5)), none⟩,
               ⟨(some 19), (.mv (.tmp 7)), none⟩,
               ⟨(some 20), (.bslice L8 1 (.raw (u8 0#8)) [(0, (.tmp 19))]), none⟩,
               ⟨(some 21), (.append L8 1 (.tmp 18) (.tmp 20)), none⟩,
               ⟨(some 5), (.mv (.tmp 21)), none⟩])
              .skip))))
          (.region false [⟨(some 22), (.bin .add (.tmp 10) (.const (it 1))), none⟩,
           ⟨(some 10), (.mv (.tmp 22)), none⟩])))))))
    (.seq
     (.region false [⟨(some 23), (.mv (.tmp 5)), none⟩,
      ⟨(some 4), (.mv (.tmp 23)), none⟩])
     .ret))))
def r_ref01_Cut : List ARes := [(.tmp 4)]
theorem c_ref01_Cut : o2 Go.Proofs.Try.f24.body (comp Go.Proofs.Try.prog Go.Proofs.Try.f24.ntmps) = some a_ref01_Cut := by kernel_rfl
theorem s_ref01_Cut : cRess Go.Proofs.Try.prog Go.Proofs.Try.f24.results.toList = some r_ref01_Cut := by kernel_rfl
theorem m_ref01_Cut (C : Ctx) (hC : CtxOK C Go.Proofs.Try.prog) : Meets C.glob Go.Proofs.Try.prog 24 (afun C 2 r_ref01_Cut a_ref01_Cut) :=
  fn_sound hC Go.Proofs.Try.func24 c_ref01_Cut s_ref01_Cut (Nat.le_of_ble_eq_true (by kernel_rfl))

/-- curtilage/aes.Xor -/
def a_aes_Xor : ACode :=
 (.seq
  (.region false [⟨(some 2), (.alloc (.ar 16 L8) (.agg (.ar 16 L8) (List.replicate 16 (.raw (u8 0#8))))), none⟩])
  (.seq
   (.region false [⟨(some 3), (.alloc (.ar 16 L8) (.agg (.ar 16 L8) (List.replicate 16 (.raw (u8 0#8))))), none⟩])
   (.seq
    (.seq
     (.region false [⟨(some 8), (.mv (.tmp 0)), none⟩,
      ⟨(some 9), (.len (.tmp 8)), none⟩,
      ⟨(some 10), (.mv (.const (it 0))), none⟩])
     (.block 0
      (.loop
       (.seq
        (.region false [⟨(some 11), (.bin .lss (.tmp 10) (.tmp 9)), none⟩])
        (.seq
         (.cond (.tmp 11)
          .skip
          (.exit 0))
         (.seq
          (.block 1
           (.seq
            (.region false [⟨(some 12), (.iaddrs (.ar 16 L8) (.tmp 8) (.tmp 10)), none⟩,
             ⟨(some 13), (.load (.ar 16 L8) (.tmp 12)), none⟩,
             ⟨(some 5), (.alloc (.ar 16 L8) (.agg (.ar 16 L8) (List.replicate 16 (.raw (u8 0#8))))), none⟩,
             ⟨none, (.store (.ar 16 L8) (.tmp 5) (.tmp 13)), none⟩])
            (.seq
             (.region false [⟨(some 14), (.load (.ar 16 L8) (.tmp 5)), none⟩,
              ⟨(some 15), (.mv (.const (it 0))), none⟩])
             (.block 2
              (.loop
               (.seq
                (.region false [⟨(some 16), (.bin .lss (.tmp 15) (.const (it 16))), none⟩])
                (.seq
                 (.cond (.tmp 16)
                  .skip
                  (.exit 2))
                 (.seq
                  (.block 3
                   (.seq
                    (.region false [⟨(some 17), (.mv (.tmp 15)), none⟩,
                     ⟨(some 18), (.index 16 L8 (.tmp 14) (.tmp 15)), none⟩,
                     ⟨(some 6), (.mv (.tmp 17)), none⟩,
                     ⟨(some 7), (.mv (.tmp 18)), none⟩])
                    (.region false [⟨(some 19), (.mv (.tmp 6)), none⟩,
                     ⟨(some 20), (.iaddra 16 L8 (.tmp 3) (.tmp 19)), none⟩,
                     ⟨(some 21), (.load L8 (.tmp 20)), none⟩,
                     ⟨(some 22), (.mv (.tmp 7)), none⟩,
                     ⟨(some 23), (.bin .xor (.tmp 21) (.tmp 22)), none⟩,
                     ⟨(some 24), (.iaddra 16 L8 (.tmp 3) (.tmp 19)), none⟩,
                     ⟨none, (.store L8 (.tmp 24) (.tmp 23)), none⟩])))
                  (.region false [⟨(some 25), (.bin .add (.tmp 15) (.const (it 1))), none⟩,
                   ⟨(some 15), (.mv (.tmp 25)), none⟩])))))))))
          (.region false [⟨(some 26), (.bin .add (.tmp 10) (.const (it 1))), none⟩,
           ⟨(some 10), (.mv (.tmp 26)), none⟩])))))))
    (.seq
     (.region false [⟨(some 27), (.load (.ar 16 L8) (.tmp 3)), none⟩,
      ⟨none, (.store (.ar 16 L8) (.tmp 2) (.tmp 27)), none⟩])
     .ret))))
def r_aes_Xor : List ARes := [(.cell 2 (.ar 16 L8))]
theorem c_aes_Xor : o2 Go.Proofs.Try.f25.body (comp Go.Proofs.Try.prog Go.Proofs.Try.f25.ntmps) = some a_aes_Xor := by kernel_rfl
theorem s_aes_Xor : cRess Go.Proofs.Try.prog Go.Proofs.Try.f25.results.toList = some r_aes_Xor := by kernel_rfl
theorem m_aes_Xor (C : Ctx) (hC : CtxOK C Go.Proofs.Try.prog) : Meets C.glob Go.Proofs.Try.prog 25 (afun C 1 r_aes_Xor a_aes_Xor) :=
  fn_sound hC Go.Proofs.Try.func25 c_aes_Xor s_aes_Xor (Nat.le_of_ble_eq_true (by kernel_rfl))

/-- curtilage/curtilageref03.Xor -/
def a_ref03_Xor : ACode :=
 (.seq
  (.region false [⟨(some 2), (.box (.ar 16 L8) (.tmp 0)), none⟩,
   ⟨(some 3), (.box (.ar 16 L8) (.tmp 1)), none⟩,
   ⟨(some 4), (.alloc (.ar 16 L8) (.agg (.ar 16 L8) (List.replicate 16 (.raw (u8 0#8))))), none⟩])
  (.seq
   (.seq
    (.region false [⟨(some 6), (.mv (.const (it 0))), none⟩])
    (.block 0
     (.loop
      (.seq
       (.region false [⟨(some 7), (.bin .lss (.tmp 6) (.const (it 16))), none⟩])
       (.seq
        (.cond (.tmp 7)
         .skip
         (.exit 0))
        (.seq
         (.block 1
          (.seq
           (.region false [⟨(some 8), (.mv (.tmp 6)), none⟩,
            ⟨(some 5), (.mv (.tmp 8)), none⟩])
           (.region true [⟨(some 9), (.mv (.tmp 5)), none⟩,
            ⟨(some 10), (.iaddra 16 L8 (.tmp 2) (.tmp 9)), none⟩,
            ⟨(some 11), (.load L8 (.tmp 10)), none⟩,
            ⟨(some 12), (.mv (.tmp 5)), none⟩,
            ⟨(some 13), (.iaddra 16 L8 (.tmp 3) (.tmp 12)), none⟩,
            ⟨(some 14), (.load L8 (.tmp 13)), none⟩,
            ⟨(some 15), (.bin .xor (.tmp 11) (.tmp 14)), none⟩,
            ⟨(some 16), (.iaddra 16 L8 (.tmp 2) (.tmp 9)), none⟩,
            ⟨none, (.store L8 (.tmp 16) (.tmp 15)), none⟩])))
         (.region false [⟨(some 17), (.bin .add (.tmp 6) (.const (it 1))), none⟩,
          ⟨(some 6), (.mv (.tmp 17)), none⟩])))))))
   (.seq
    (.region false [⟨(some 18), (.load (.ar 16 L8) (.tmp 2)), none⟩,
     ⟨none, (.store (.ar 16 L8) (.tmp 4) (.tmp 18)), none⟩])
    .ret)))
def r_ref03_Xor : List ARes := [(.cell 4 (.ar 16 L8))]
theorem c_ref03_Xor : o2 Go.Proofs.Try.f26.body (comp Go.Proofs.Try.prog Go.Proofs.Try.f26.ntmps) = some a_ref03_Xor := by kernel_rfl
theorem s_ref03_Xor : cRess Go.Proofs.Try.prog Go.Proofs.Try.f26.results.toList = some r_ref03_Xor := by kernel_rfl
theorem m_ref03_Xor (C : Ctx) (hC : CtxOK C Go.Proofs.Try.prog) : Meets C.glob Go.Proofs.Try.prog 26 (afun C 2 r_ref03_Xor a_ref03_Xor) :=
  fn_sound hC Go.Proofs.Try.func26 c_ref03_Xor s_ref03_Xor (Nat.le_of_ble_eq_true (by kernel_rfl))

/-- curtilage/curtilageref01.Hex -/
def a_ref01_Hex : ACode :=
 (.seq
  (.region false [⟨(some 2), (.mv (.const (.string ⟨#[]⟩))), none⟩])
  (.seq
   (.region false [⟨(some 3), (.mv (.const (.string ⟨#[]⟩))), none⟩])
   (.seq
    (.seq
     (.region false [⟨(some 6), (.mv (.tmp 0)), none⟩,
      ⟨(some 7), (.len (.tmp 6)), none⟩,
      ⟨(some 8), (.mv (.const (it 0))), none⟩])
     (.block 0
      (.loop
       (.seq
        (.region false [⟨(some 9), (.bin .lss (.tmp 8) (.tmp 7)), none⟩])
        (.seq
         (.cond (.tmp 9)
          .skip
          (.exit 0))
         (.seq
          (.block 1
           (.seq
            (.region false [⟨(some 10), (.iaddrs L8 (.tmp 6) (.tmp 8)), none⟩,
             ⟨(some 11), (.load L8 (.tmp 10)), none⟩,
             ⟨(some 5), (.mv (.tmp 11)), none⟩])
            (.region true [⟨(some 12), (.mv (.tmp 3)), none⟩,
             ⟨(some 13), (.mv (.tmp 5)), none⟩,
             ⟨(some 14), (.bin .quo (.tmp 13) (.const (u8 16#8))), none⟩,
             ⟨(some 15), (.mv (.tmp 5)), none⟩,
             ⟨(some 16), (.bin .quo (.tmp 15) (.const (u8 16#8))), none⟩,
             ⟨(some 17), (.bin .add (.tmp 16) (.const (u8 1#8))), none⟩,
             ⟨(some 18), (.sslice (.const (.string ⟨#[48, 49, 50, 51, 52, 53, 54, 55, 56, 57, 97, 98, 99, 100, 101, 102]⟩)) (some (.tmp 14)) (some (.tmp 17))), none⟩,
             ⟨(some 19), (.mv (.tmp 5)), none⟩,
             ⟨(some 20), (.bin .rem (.tmp 19) (.const (u8 16#8))), none⟩,
             ⟨(some 21), (.mv (.tmp 5)), none⟩,
             ⟨(some 22), (.bin .rem (.tmp 21) (.const (u8 16#8))), none⟩,
             ⟨(some 23), (.bin .add (.tmp 22) (.const (u8 1#8))), none⟩,
             ⟨(some 24), (.sslice (.const (.string ⟨#[48, 49, 50, 51, 52, 53, 54, 55, 56, 57, 97, 98, 99, 100, 101, 102]⟩)) (some (.tmp 20)) (some (.tmp 23))), none⟩,
             ⟨(some 25), (.bin .add (.tmp 18) (.tmp 24)), none⟩,
             ⟨(some 26), (.bin .add (.tmp 12) (.tmp 25)), none⟩,
             ⟨(some 3), (.mv (.tmp 26)), none⟩])))
          (.region false [⟨(some 27), (.bin .add (.tmp 8) (.const (it 1))), none⟩,
           ⟨(some 8), (.mv (.tmp 27)), none⟩])))))))
    (.seq
     (.region false [⟨(some 28), (.mv (.tmp 3)), none⟩,
      ⟨(some 2), (.mv (.tmp 28)), none⟩])
     .ret))))
def r_ref01_Hex : List ARes := [(.tmp 2)]
theorem c_ref01_Hex : o2 Go.Proofs.Try.f27.body (comp Go.Proofs.Try.prog Go.Proofs.Try.f27.ntmps) = some a_ref01_Hex := by kernel_rfl
theorem s_ref01_Hex : cRess Go.Proofs.Try.prog Go.Proofs.Try.f27.results.toList = some r_ref01_Hex := by kernel_rfl
theorem m_ref01_Hex (C : Ctx) (hC : CtxOK C Go.Proofs.Try.prog) : Meets C.glob Go.Proofs.Try.prog 27 (afun C 1 r_ref01_Hex a_ref01_Hex) :=
  fn_sound hC Go.Proofs.Try.func27 c_ref01_Hex s_ref01_Hex (Nat.le_of_ble_eq_true (by kernel_rfl))

/-- curtilage/aes.boxes -/
def a_aes_boxes : ACode :=
 (.seq
  (.region false [⟨(some 0), (.alloc (.ar 256 L8) (.agg (.ar 256 L8) (List.replicate 256 (.raw (u8 0#8))))), none⟩,
   ⟨(some 1), (.alloc (.ar 256 L8) (.agg (.ar 256 L8) (List.replicate 256 (.raw (u8 0#8))))), none⟩])
  (.seq
   (.region false [⟨(some 2), (.alloc (.ar 256 L8) (.agg (.ar 256 L8) (List.replicate 256 (.raw (u8 0#8))))), none⟩,
    ⟨(some 3), (.alloc (.ar 256 L8) (.agg (.ar 256 L8) (List.replicate 256 (.raw (u8 0#8))))), none⟩])
   (.seq
    (.region false [⟨(some 4), (.mv (.const (u8 1#8))), none⟩,
     ⟨(some 5), (.mv (.const (u8 1#8))), none⟩])
    (.seq
     (.seq
      (.region false [⟨(some 9), (.mv (.const (it 0))), none⟩])
      (.block 0
       (.loop
        (.seq
         (.region false [⟨(some 10), (.bin .lss (.tmp 9) (.const (it 255))), none⟩])
         (.seq
          (.cond (.tmp 10)
           .skip
           (.exit 0))
          (.seq
           (.block 1
            (.seq
             (.region false [⟨(some 11), (.mv (.tmp 4)), none⟩,
              ⟨(some 12), (.mv (.tmp 4)), none⟩,
              ⟨(some 13), (.call 31 [(.tmp 12)]), none⟩,
              ⟨(some 14), (.bin .xor (.tmp 11) (.tmp 13)), none⟩,
              ⟨(some 4), (.mv (.tmp 14)), none⟩])
             (.seq
              (.region false [⟨(some 15), (.mv (.tmp 5)), none⟩,
               ⟨(some 16), (.mv (.tmp 5)), none⟩,
               ⟨(some 17), (.bin .shl (.tmp 16) (.const (u64 1#64))), none⟩,
               ⟨(some 18), (.bin .xor (.tmp 15) (.tmp 17)), none⟩,
               ⟨(some 5), (.mv (.tmp 18)), none⟩])
              (.seq
               (.region false [⟨(some 19), (.mv (.tmp 5)), none⟩,
                ⟨(some 20), (.mv (.tmp 5)), none⟩,
                ⟨(some 21), (.bin .shl (.tmp 20) (.const (u64 2#64))), none⟩,
                ⟨(some 22), (.bin .xor (.tmp 19) (.tmp 21)), none⟩,
                ⟨(some 5), (.mv (.tmp 22)), none⟩])
               (.seq
                (.region false [⟨(some 23), (.mv (.tmp 5)), none⟩,
                 ⟨(some 24), (.mv (.tmp 5)), none⟩,
                 ⟨(some 25), (.bin .shl (.tmp 24) (.const (u64 4#64))), none⟩,
                 ⟨(some 26), (.bin .xor (.tmp 23) (.tmp 25)), none⟩,
                 ⟨(some 5), (.mv (.tmp 26)), none⟩])
                (.seq
                 (.region false [⟨(some 27), (.mv (.tmp 5)), none⟩,
                  ⟨(some 28), (.mv (.tmp 5)), none⟩,
                  ⟨(some 29), (.bin .shr (.tmp 28) (.const (u64 7#64))), none⟩,
                  ⟨(some 30), (.bin .mul (.tmp 29) (.const (u8 9#8))), none⟩,
                  ⟨(some 31), (.bin .xor (.tmp 27) (.tmp 30)), none⟩,
                  ⟨(some 5), (.mv (.tmp 31)), none⟩])
                 (.seq
                  (.region false [⟨(some 32), (.mv (.tmp 4)), none⟩,
                   ⟨(some 33), (.iaddra 256 L8 (.tmp 2) (.tmp 32)), none⟩,
                   ⟨none, (.store L8 (.tmp 33) (.const (u8 99#8))), none⟩])
                  (.seq
                   (.region false [⟨(some 34), (.mv (.const (it 0))), none⟩])
                   (.block 2
                    (.loop
                     (.seq
                      (.region false [⟨(some 35), (.bin .lss (.tmp 34) (.const (it 5))), none⟩])
                      (.seq
                       (.cond (.tmp 35)
                        .skip
                        (.exit 2))
                       (.seq
                        (.block 3
                         (.seq
                          (.region false [⟨(some 36), (.mv (.tmp 34)), none⟩,
                           ⟨(some 6), (.mv (.tmp 36)), none⟩])
                          (.region true [⟨(some 37), (.mv (.tmp 4)), none⟩,
                           ⟨(some 38), (.iaddra 256 L8 (.tmp 2) (.tmp 37)), none⟩,
                           ⟨(some 39), (.load L8 (.tmp 38)), none⟩,
                           ⟨(some 40), (.mv (.tmp 5)), none⟩,
                           ⟨(some 41), (.mv (.tmp 6)), none⟩,
                           ⟨(some 42), (.call 36 [(.tmp 40), (.tmp 41)]), none⟩,
                           ⟨(some 43), (.bin .xor (.tmp 39) (.tmp 42)), none⟩,
                           ⟨(some 44), (.iaddra 256 L8 (.tmp 2) (.tmp 37)), none⟩,
                           ⟨none, (.store L8 (.tmp 44) (.tmp 43)), none⟩])))
                        (.region false [⟨(some 45), (.bin .add (.tmp 34) (.const (it 1))), none⟩,
                         ⟨(some 34), (.mv (.tmp 45)), none⟩]))))))))))))))
           (.region false [⟨(some 46), (.bin .add (.tmp 9) (.const (it 1))), none⟩,
            ⟨(some 9), (.mv (.tmp 46)), none⟩])))))))
     (.seq
      (.region false [⟨(some 47), (.iaddra 256 L8 (.tmp 2) (.const (it 0))), none⟩,
       ⟨none, (.store L8 (.tmp 47) (.const (u8 99#8))), none⟩])
      (.seq
       (.seq
        (.region false [⟨(some 48), (.load (.ar 256 L8) (.tmp 2)), none⟩,
         ⟨(some 49), (.mv (.const (it 0))), none⟩])
        (.block 4
         (.loop
          (.seq
           (.region false [⟨(some 50), (.bin .lss (.tmp 49) (.const (it 256))), none⟩])
           (.seq
            (.cond (.tmp 50)
             .skip
             (.exit 4))
            (.seq
             (.block 5
              (.seq
               (.region false [⟨(some 51), (.mv (.tmp 49)), none⟩,
                ⟨(some 52), (.index 256 L8 (.tmp 48) (.tmp 49)), none⟩,
                ⟨(some 7), (.mv (.tmp 51)), none⟩,
                ⟨(some 8), (.mv (.tmp 52)), none⟩])
               (.region false [⟨(some 53), (.mv (.tmp 8)), none⟩,
                ⟨(some 54), (.mv (.tmp 7)), none⟩,
                ⟨(some 55), (.conv .u8 (.tmp 54)), none⟩,
                ⟨(some 56), (.iaddra 256 L8 (.tmp 3) (.tmp 53)), none⟩,
                ⟨none, (.store L8 (.tmp 56) (.tmp 55)), none⟩])))
             (.region false [⟨(some 57), (.bin .add (.tmp 49) (.const (it 1))), none⟩,
              ⟨(some 49), (.mv (.tmp 57)), none⟩])))))))
       (.seq
        (.draw [⟨(some 58), (.load (.ar 256 L8) (.tmp 2)), none⟩,
         ⟨(some 59), (.load (.ar 256 L8) (.tmp 3)), none⟩]
         [⟨(some 59), (.load (.ar 256 L8) (.tmp 3)), none⟩]
         [(⟨none, (.store (.ar 256 L8) (.tmp 0) (.tmp 58)), none⟩, [⟨(some 59), (.load (.ar 256 L8) (.tmp 3)), none⟩]),
         (⟨none, (.store (.ar 256 L8) (.tmp 1) (.tmp 59)), none⟩, [])])
        .ret)))))))
def r_aes_boxes : List ARes := [(.cell 0 (.ar 256 L8)), (.cell 1 (.ar 256 L8))]
theorem c_aes_boxes : o2 Go.Proofs.Try.f28.body (comp Go.Proofs.Try.prog Go.Proofs.Try.f28.ntmps) = some a_aes_boxes := by kernel_rfl
theorem s_aes_boxes : cRess Go.Proofs.Try.prog Go.Proofs.Try.f28.results.toList = some r_aes_boxes := by kernel_rfl
theorem m_aes_boxes (C : Ctx) (hC : CtxOK C Go.Proofs.Try.prog) : Meets C.glob Go.Proofs.Try.prog 28 (afun C 0 r_aes_boxes a_aes_boxes) :=
  fn_sound hC Go.Proofs.Try.func28 c_aes_boxes s_aes_boxes (Nat.le_of_ble_eq_true (by kernel_rfl))

/-- (*curtilage/aes.Key).sub -/
def a_aes_Key_sub : ACode :=
 (.seq
  (.region false [⟨(some 4), (.mv (.const (u32 0#32))), none⟩])
  (.seq
   (.region true [⟨(some 5), (.mv (.tmp 0)), none⟩,
    ⟨(some 6), (.mv (.tmp 1)), none⟩,
    ⟨(some 7), (.bin .shr (.tmp 6) (.const (u64 24#64))), none⟩,
    ⟨(some 8), (.conv .u8 (.tmp 7)), none⟩,
    ⟨(some 9), (.nilc (.tmp 5)), none⟩,
    ⟨(some 10), (.faddr S1 (.tmp 9) 1), none⟩,
    ⟨(some 11), (.iaddra 256 L8 (.tmp 10) (.tmp 8)), none⟩,
    ⟨(some 12), (.load L8 (.tmp 11)), none⟩,
    ⟨(some 13), (.conv .u32 (.tmp 12)), none⟩,
    ⟨(some 14), (.bin .shl (.tmp 13) (.const (u64 24#64))), none⟩,
    ⟨(some 15), (.mv (.tmp 0)), none⟩,
    ⟨(some 16), (.mv (.tmp 1)), none⟩,
    ⟨(some 17), (.bin .shr (.tmp 16) (.const (u64 16#64))), none⟩,
    ⟨(some 18), (.conv .u8 (.tmp 17)), none⟩,
    ⟨(some 19), (.nilc (.tmp 15)), none⟩,
    ⟨(some 20), (.faddr S1 (.tmp 19) 1), none⟩,
    ⟨(some 21), (.iaddra 256 L8 (.tmp 20) (.tmp 18)), none⟩,
    ⟨(some 22), (.load L8 (.tmp 21)), none⟩,
    ⟨(some 23), (.conv .u32 (.tmp 22)), none⟩,
    ⟨(some 24), (.bin .shl (.tmp 23) (.const (u64 16#64))), none⟩,
    ⟨(some 25), (.bin .or (.tmp 14) (.tmp 24)), none⟩,
    ⟨(some 26), (.mv (.tmp 0)), none⟩,
    ⟨(some 27), (.mv (.tmp 1)), none⟩,
    ⟨(some 28), (.bin .shr (.tmp 27) (.const (u64 8#64))), none⟩,
    ⟨(some 29), (.conv .u8 (.tmp 28)), none⟩,
    ⟨(some 30), (.nilc (.tmp 26)), none⟩,
    ⟨(some 31), (.faddr S1 (.tmp 30) 1), none⟩,
    ⟨(some 32), (.iaddra 256 L8 (.tmp 31) (.tmp 29)), none⟩,
    ⟨(some 33), (.load L8 (.tmp 32)), none⟩,
    ⟨(some 34), (.conv .u32 (.tmp 33)), none⟩,
    ⟨(some 35), (.bin .shl (.tmp 34) (.const (u64 8#64))), none⟩,
    ⟨(some 36), (.bin .or (.tmp 25) (.tmp 35)), none⟩,
    ⟨(some 37), (.mv (.tmp 0)), none⟩,
    ⟨(some 38), (.mv (.tmp 1)), none⟩,
    ⟨(some 39), (.conv .u8 (.tmp 38)), none⟩,
    ⟨(some 40), (.nilc (.tmp 37)), none⟩,
    ⟨(some 41), (.faddr S1 (.tmp 40) 1), none⟩,
    ⟨(some 42), (.iaddra 256 L8 (.tmp 41) (.tmp 39)), none⟩,
    ⟨(some 43), (.load L8 (.tmp 42)), none⟩,
    ⟨(some 44), (.conv .u32 (.tmp 43)), none⟩,
    ⟨(some 45), (.bin .or (.tmp 36) (.tmp 44)), none⟩,
    ⟨(some 4), (.mv (.tmp 45)), none⟩])
   .ret))
def r_aes_Key_sub : List ARes := [(.tmp 4)]
theorem c_aes_Key_sub : o2 Go.Proofs.Try.f29.body (comp Go.Proofs.Try.prog Go.Proofs.Try.f29.ntmps) = some a_aes_Key_sub := by kernel_rfl
theorem s_aes_Key_sub : cRess Go.Proofs.Try.prog Go.Proofs.Try.f29.results.toList = some r_aes_Key_sub := by kernel_rfl
theorem m_aes_Key_sub (C : Ctx) (hC : CtxOK C Go.Proofs.Try.prog) : Meets C.glob Go.Proofs.Try.prog 29 (afun C 2 r_aes_Key_sub a_aes_Key_sub) :=
  fn_sound hC Go.Proofs.Try.func29 c_aes_Key_sub s_aes_Key_sub (Nat.le_of_ble_eq_true (by kernel_rfl))

/-- math/bits.RotateLeft32 -/
def a_math_bits_RotateLeft32 : ACode :=
 (.seq
  (.region false [⟨(some 4), (.mv (.const (u32 0#32))), none⟩])
  (.seq
   (.region false [⟨(some 6), (.mv (.tmp 1)), none⟩,
    ⟨(some 7), (.conv .u64 (.tmp 6)), none⟩,
    ⟨(some 8), (.bin .and (.tmp 7) (.const (u64 31#64))), none⟩,
    ⟨(some 5), (.mv (.tmp 8)), none⟩])
   (.seq
    (.region false [⟨(some 9), (.mv (.tmp 0)), none⟩,
     ⟨(some 10), (.mv (.tmp 5)), none⟩,
     ⟨(some 11), (.bin .shl (.tmp 9) (.tmp 10)), none⟩,
     ⟨(some 12), (.mv (.tmp 0)), none⟩,
     ⟨(some 13), (.mv (.tmp 5)), none⟩,
     ⟨(some 14), (.bin .sub (.const (u64 32#64)) (.tmp 13)), none⟩,
     ⟨(some 15), (.bin .shr (.tmp 12) (.tmp 14)), none⟩,
     ⟨(some 16), (.bin .or (.tmp 11) (.tmp 15)), none⟩,
     ⟨(some 4), (.mv (.tmp 16)), none⟩])
    .ret)))
def r_math_bits_RotateLeft32 : List ARes := [(.tmp 4)]
theorem c_math_bits_RotateLeft32 : o2 Go.Proofs.Try.f30.body (comp Go.Proofs.Try.prog Go.Proofs.Try.f30.ntmps) = some a_math_bits_RotateLeft32 := by kernel_rfl
theorem s_math_bits_RotateLeft32 : cRess Go.Proofs.Try.prog Go.Proofs.Try.f30.results.toList = some r_math_bits_RotateLeft32 := by kernel_rfl
theorem m_math_bits_RotateLeft32 (C : Ctx) (hC : CtxOK C Go.Proofs.Try.prog) : Meets C.glob Go.Proofs.Try.prog 30 (afun C 2 r_math_bits_RotateLeft32 a_math_bits_RotateLeft32) :=
  fn_sound hC Go.Proofs.Try.func30 c_math_bits_RotateLeft32 s_math_bits_RotateLeft32 (Nat.le_of_ble_eq_true (by kernel_rfl))

/-- curtilage/aes.twice -/
def a_aes_twice : ACode :=
 (.seq
  (.region false [⟨(some 2), (.mv (.const (u8 0#8))), none⟩])
  (.seq
   (.region false [⟨(some 3), (.mv (.tmp 0)), none⟩,
    ⟨(some 4), (.bin .shl (.tmp 3) (.const (u64 1#64))), none⟩,
    ⟨(some 5), (.mv (.tmp 0)), none⟩,
    ⟨(some 6), (.bin .shr (.tmp 5) (.const (u64 7#64))), none⟩,
    ⟨(some 7), (.bin .mul (.tmp 6) (.const (u8 27#8))), none⟩,
    ⟨(some 8), (.bin .xor (.tmp 4) (.tmp 7)), none⟩,
    ⟨(some 2), (.mv (.tmp 8)), none⟩])
   .ret))
def r_aes_twice : List ARes := [(.tmp 2)]
theorem c_aes_twice : o2 Go.Proofs.Try.f31.body (comp Go.Proofs.Try.prog Go.Proofs.Try.f31.ntmps) = some a_aes_twice := by kernel_rfl
theorem s_aes_twice : cRess Go.Proofs.Try.prog Go.Proofs.Try.f31.results.toList = some r_aes_twice := by kernel_rfl
theorem m_aes_twice (C : Ctx) (hC : CtxOK C Go.Proofs.Try.prog) : Meets C.glob Go.Proofs.Try.prog 31 (afun C 1 r_aes_twice a_aes_twice) :=
  fn_sound hC Go.Proofs.Try.func31 c_aes_twice s_aes_twice (Nat.le_of_ble_eq_true (by kernel_rfl))

/-- curtilage/aes.moved -/
def a_aes_moved : ACode :=
 (.seq
  (.region false [⟨(some 3), (.box (.ar 16 L8) (.tmp 0)), none⟩,
   ⟨(some 6), (.alloc (.ar 16 L8) (.agg (.ar 16 L8) (List.replicate 16 (.raw (u8 0#8))))), none⟩])
  (.seq
   (.region false [⟨(some 7), (.alloc (.ar 16 L8) (.agg (.ar 16 L8) (List.replicate 16 (.raw (u8 0#8))))), none⟩])
   (.seq
    (.seq
     (.region false [⟨(some 10), (.mv (.const (it 0))), none⟩])
     (.block 0
      (.loop
       (.seq
        (.region false [⟨(some 11), (.bin .lss (.tmp 10) (.const (it 16))), none⟩])
        (.seq
         (.cond (.tmp 11)
          .skip
          (.exit 0))
         (.seq
          (.block 1
           (.seq
            (.region false [⟨(some 12), (.mv (.tmp 10)), none⟩,
             ⟨(some 8), (.mv (.tmp 12)), none⟩])
            (.seq
             (.region false [⟨(some 13), (.mv (.tmp 8)), none⟩,
              ⟨(some 14), (.bin .rem (.tmp 13) (.const (it 4))), none⟩,
              ⟨(some 9), (.mv (.tmp 14)), none⟩])
             (.region true [⟨(some 15), (.mv (.tmp 8)), none⟩,
              ⟨(some 16), (.mv (.tmp 1)), none⟩,
              ⟨(some 17), (.mv (.tmp 8)), none⟩,
              ⟨(some 18), (.mv (.tmp 2)), none⟩,
              ⟨(some 19), (.bin .mul (.tmp 18) (.const (it 4))), none⟩,
              ⟨(some 20), (.mv (.tmp 9)), none⟩,
              ⟨(some 21), (.bin .mul (.tmp 19) (.tmp 20)), none⟩,
              ⟨(some 22), (.bin .add (.tmp 17) (.tmp 21)), none⟩,
              ⟨(some 23), (.bin .and (.tmp 22) (.const (it 15))), none⟩,
              ⟨(some 24), (.iaddra 16 L8 (.tmp 3) (.tmp 23)), none⟩,
              ⟨(some 25), (.load L8 (.tmp 24)), none⟩,
              ⟨(some 26), (.nilc (.tmp 16)), none⟩,
              ⟨(some 27), (.iaddra 256 L8 (.tmp 26) (.tmp 25)), none⟩,
              ⟨(some 28), (.load L8 (.tmp 27)), none⟩,
              ⟨(some 29), (.iaddra 16 L8 (.tmp 7) (.tmp 15)), none⟩,
              ⟨none, (.store L8 (.tmp 29) (.tmp 28)), none⟩]))))
          (.region false [⟨(some 30), (.bin .add (.tmp 10) (.const (it 1))), none⟩,
           ⟨(some 10), (.mv (.tmp 30)), none⟩])))))))
    (.seq
     (.region false [⟨(some 31), (.load (.ar 16 L8) (.tmp 7)), none⟩,
      ⟨none, (.store (.ar 16 L8) (.tmp 6) (.tmp 31)), none⟩])
     .ret))))
def r_aes_moved : List ARes := [(.cell 6 (.ar 16 L8))]
theorem c_aes_moved : o2 Go.Proofs.Try.f32.body (comp Go.Proofs.Try.prog Go.Proofs.Try.f32.ntmps) = some a_aes_moved := by kernel_rfl
theorem s_aes_moved : cRess Go.Proofs.Try.prog Go.Proofs.Try.f32.results.toList = some r_aes_moved := by kernel_rfl
theorem m_aes_moved (C : Ctx) (hC : CtxOK C Go.Proofs.Try.prog) : Meets C.glob Go.Proofs.Try.prog 32 (afun C 3 r_aes_moved a_aes_moved) :=
  fn_sound hC Go.Proofs.Try.func32 c_aes_moved s_aes_moved (Nat.le_of_ble_eq_true (by kernel_rfl))

/-- (curtilage/aes.Key).add -/
def a_aes_Key_add : ACode :=
 (.seq
  (.region false [⟨(some 3), (.box S1 (.tmp 0)), none⟩,
   ⟨(some 4), (.box (.ar 16 L8) (.tmp 1)), none⟩,
   ⟨(some 6), (.alloc (.ar 16 L8) (.agg (.ar 16 L8) (List.replicate 16 (.raw (u8 0#8))))), none⟩])
  (.seq
   (.seq
    (.region false [⟨(some 9), (.faddr S1 (.tmp 3) 0), none⟩,
     ⟨(some 10), (.load .ref (.tmp 9)), none⟩,
     ⟨(some 11), (.mv (.tmp 2)), none⟩,
     ⟨(some 12), (.bin .mul (.const (it 4)) (.tmp 11)), none⟩,
     ⟨(some 13), (.mv (.tmp 2)), none⟩,
     ⟨(some 14), (.bin .mul (.const (it 4)) (.tmp 13)), none⟩,
     ⟨(some 15), (.bin .add (.tmp 14) (.const (it 4))), none⟩,
     ⟨(some 16), (.slice L32 (.tmp 10) (some (.tmp 12)) (some (.tmp 15)) none), none⟩,
     ⟨(some 17), (.len (.tmp 16)), none⟩,
     ⟨(some 18), (.mv (.const (it 0))), none⟩])
    (.block 0
     (.loop
      (.seq
       (.region false [⟨(some 19), (.bin .lss (.tmp 18) (.tmp 17)), none⟩])
       (.seq
        (.cond (.tmp 19)
         .skip
         (.exit 0))
        (.seq
         (.block 1
          (.seq
           (.region false [⟨(some 20), (.mv (.tmp 18)), none⟩,
            ⟨(some 21), (.iaddrs L32 (.tmp 16) (.tmp 18)), none⟩,
            ⟨(some 22), (.load L32 (.tmp 21)), none⟩,
            ⟨(some 7), (.mv (.tmp 20)), none⟩,
            ⟨(some 8), (.mv (.tmp 22)), none⟩])
           (.seq
            (.region false [⟨(some 23), (.mv (.tmp 7)), none⟩,
             ⟨(some 24), (.bin .mul (.const (it 4)) (.tmp 23)), none⟩,
             ⟨(some 25), (.iaddra 16 L8 (.tmp 4) (.tmp 24)), none⟩,
             ⟨(some 26), (.load L8 (.tmp 25)), none⟩,
             ⟨(some 27), (.mv (.tmp 8)), none⟩,
             ⟨(some 28), (.bin .shr (.tmp 27) (.const (u64 24#64))), none⟩,
             ⟨(some 29), (.conv .u8 (.tmp 28)), none⟩,
             ⟨(some 30), (.bin .xor (.tmp 26) (.tmp 29)), none⟩,
             ⟨(some 31), (.iaddra 16 L8 (.tmp 4) (.tmp 24)), none⟩,
             ⟨none, (.store L8 (.tmp 31) (.tmp 30)), none⟩])
            (.seq
             (.region false [⟨(some 32), (.mv (.tmp 7)), none⟩,
              ⟨(some 33), (.bin .mul (.const (it 4)) (.tmp 32)), none⟩,
              ⟨(some 34), (.bin .add (.tmp 33) (.const (it 1))), none⟩,
              ⟨(some 35), (.iaddra 16 L8 (.tmp 4) (.tmp 34)), none⟩,
              ⟨(some 36), (.load L8 (.tmp 35)), none⟩,
              ⟨(some 37), (.mv (.tmp 8)), none⟩,
              ⟨(some 38), (.bin .shr (.tmp 37) (.const (u64 16#64))), none⟩,
              ⟨(some 39), (.conv .u8 (.tmp 38)), none⟩,
              ⟨(some 40), (.bin .xor (.tmp 36) (.tmp 39)), none⟩,
              ⟨(some 41), (.iaddra 16 L8 (.tmp 4) (.tmp 34)), none⟩,
              ⟨none, (.store L8 (.tmp 41) (.tmp 40)), none⟩])
             (.seq
              (.region false [⟨(some 42), (.mv (.tmp 7)), none⟩,
               ⟨(some 43), (.bin .mul (.const (it 4)) (.tmp 42)), none⟩,
               ⟨(some 44), (.bin .add (.tmp 43) (.const (it 2))), none⟩,
               ⟨(some 45), (.iaddra 16 L8 (.tmp 4) (.tmp 44)), none⟩,
               ⟨(some 46), (.load L8 (.tmp 45)), none⟩,
               ⟨(some 47), (.mv (.tmp 8)), none⟩,
               ⟨(some 48), (.bin .shr (.tmp 47) (.const (u64 8#64))), none⟩,
               ⟨(some 49), (.conv .u8 (.tmp 48)), none⟩,
               ⟨(some 50), (.bin .xor (.tmp 46) (.tmp 49)), none⟩,
               ⟨(some 51), (.iaddra 16 L8 (.tmp 4) (.tmp 44)), none⟩,
               ⟨none, (.store L8 (.tmp 51) (.tmp 50)), none⟩])
              (.region false [⟨(some 52), (.mv (.tmp 7)), none⟩,
               ⟨(some 53), (.bin .mul (.const (it 4)) (.tmp 52)), none⟩,
               ⟨(some 54), (.bin .add (.tmp 53) (.const (it 3))), none⟩,
               ⟨(some 55), (.iaddra 16 L8 (.tmp 4) (.tmp 54)), none⟩,
               ⟨(some 56), (.load L8 (.tmp 55)), none⟩,
               ⟨(some 57), (.mv (.tmp 8)), none⟩,
               ⟨(some 58), (.conv .u8 (.tmp 57)), none⟩,
               ⟨(some 59), (.bin .xor (.tmp 56) (.tmp 58)), none⟩,
               ⟨(some 60), (.iaddra 16 L8 (.tmp 4) (.tmp 54)), none⟩,
               ⟨none, (.store L8 (.tmp 60) (.tmp 59)), none⟩]))))))
         (.region false [⟨(some 61), (.bin .add (.tmp 18) (.const (it 1))), none⟩,
          ⟨(some 18), (.mv (.tmp 61)), none⟩])))))))
   (.seq
    (.region false [⟨(some 62), (.load (.ar 16 L8) (.tmp 4)), none⟩,
     ⟨none, (.store (.ar 16 L8) (.tmp 6) (.tmp 62)), none⟩])
    .ret)))
def r_aes_Key_add : List ARes := [(.cell 6 (.ar 16 L8))]
theorem c_aes_Key_add : o2 Go.Proofs.Try.f33.body (comp Go.Proofs.Try.prog Go.Proofs.Try.f33.ntmps) = some a_aes_Key_add := by kernel_rfl
theorem s_aes_Key_add : cRess Go.Proofs.Try.prog Go.Proofs.Try.f33.results.toList = some r_aes_Key_add := by kernel_rfl
theorem m_aes_Key_add (C : Ctx) (hC : CtxOK C Go.Proofs.Try.prog) : Meets C.glob Go.Proofs.Try.prog 33 (afun C 3 r_aes_Key_add a_aes_Key_add) :=
  fn_sound hC Go.Proofs.Try.func33 c_aes_Key_add s_aes_Key_add (Nat.le_of_ble_eq_true (by kernel_rfl))

/-- curtilage/aes.mixed -/
def a_aes_mixed : ACode :=
 (.seq
  (.region false [⟨(some 2), (.box (.ar 16 L8) (.tmp 0)), none⟩,
   ⟨(some 3), (.box (.ar 4 L8) (.tmp 1)), none⟩,
   ⟨(some 4), (.alloc (.ar 16 L8) (.agg (.ar 16 L8) (List.replicate 16 (.raw (u8 0#8))))), none⟩])
  (.seq
   (.region false [⟨(some 5), (.alloc (.ar 16 L8) (.agg (.ar 16 L8) (List.replicate 16 (.raw (u8 0#8))))), none⟩])
   (.seq
    (.seq
     (.region false [⟨(some 10), (.mv (.const (it 0))), none⟩])
     (.block 0
      (.loop
       (.seq
        (.region false [⟨(some 11), (.bin .lss (.tmp 10) (.const (it 16))), none⟩])
        (.seq
         (.cond (.tmp 11)
          .skip
          (.exit 0))
         (.seq
          (.block 1
           (.seq
            (.region false [⟨(some 12), (.mv (.tmp 10)), none⟩,
             ⟨(some 6), (.mv (.tmp 12)), none⟩])
            (.seq
             (.region false [⟨(some 13), (.mv (.tmp 6)), none⟩,
              ⟨(some 14), (.mv (.tmp 6)), none⟩,
              ⟨(some 15), (.bin .rem (.tmp 14) (.const (it 4))), none⟩,
              ⟨(some 16), (.bin .sub (.tmp 13) (.tmp 15)), none⟩,
              ⟨(some 7), (.mv (.tmp 16)), none⟩])
             (.seq
              (.region false [⟨(some 17), (.load (.ar 4 L8) (.tmp 3)), none⟩,
               ⟨(some 18), (.mv (.const (it 0))), none⟩])
              (.block 2
               (.loop
                (.seq
                 (.region false [⟨(some 19), (.bin .lss (.tmp 18) (.const (it 4))), none⟩])
                 (.seq
                  (.cond (.tmp 19)
                   .skip
                   (.exit 2))
                  (.seq
                   (.block 3
                    (.seq
                     (.region false [⟨(some 20), (.mv (.tmp 18)), none⟩,
                      ⟨(some 21), (.index 4 L8 (.tmp 17) (.tmp 18)), none⟩,
                      ⟨(some 8), (.mv (.tmp 20)), none⟩,
                      ⟨(some 9), (.mv (.tmp 21)), none⟩])
                     (.region true [⟨(some 22), (.mv (.tmp 6)), none⟩,
                      ⟨(some 23), (.iaddra 16 L8 (.tmp 5) (.tmp 22)), none⟩,
                      ⟨(some 24), (.load L8 (.tmp 23)), none⟩,
                      ⟨(some 25), (.mv (.tmp 7)), none⟩,
                      ⟨(some 26), (.mv (.tmp 6)), none⟩,
                      ⟨(some 27), (.mv (.tmp 8)), none⟩,
                      ⟨(some 28), (.bin .add (.tmp 26) (.tmp 27)), none⟩,
                      ⟨(some 29), (.bin .rem (.tmp 28) (.const (it 4))), none⟩,
                      ⟨(some 30), (.bin .add (.tmp 25) (.tmp 29)), none⟩,
                      ⟨(some 31), (.iaddra 16 L8 (.tmp 2) (.tmp 30)), none⟩,
                      ⟨(some 32), (.load L8 (.tmp 31)), none⟩,
                      ⟨(some 33), (.mv (.tmp 9)), none⟩,
                      ⟨(some 34), (.call 13 [(.tmp 32), (.tmp 33)]), none⟩,
                      ⟨(some 35), (.bin .xor (.tmp 24) (.tmp 34)), none⟩,
                      ⟨(some 36), (.iaddra 16 L8 (.tmp 5) (.tmp 22)), none⟩,
                      ⟨none, (.store L8 (.tmp 36) (.tmp 35)), none⟩])))
                   (.region false [⟨(some 37), (.bin .add (.tmp 18) (.const (it 1))), none⟩,
                    ⟨(some 18), (.mv (.tmp 37)), none⟩]))))))))))
          (.region false [⟨(some 38), (.bin .add (.tmp 10) (.const (it 1))), none⟩,
           ⟨(some 10), (.mv (.tmp 38)), none⟩])))))))
    (.seq
     (.region false [⟨(some 39), (.load (.ar 16 L8) (.tmp 5)), none⟩,
      ⟨none, (.store (.ar 16 L8) (.tmp 4) (.tmp 39)), none⟩])
     .ret))))
def r_aes_mixed : List ARes := [(.cell 4 (.ar 16 L8))]
theorem c_aes_mixed : o2 Go.Proofs.Try.f34.body (comp Go.Proofs.Try.prog Go.Proofs.Try.f34.ntmps) = some a_aes_mixed := by kernel_rfl
theorem s_aes_mixed : cRess Go.Proofs.Try.prog Go.Proofs.Try.f34.results.toList = some r_aes_mixed := by kernel_rfl
theorem m_aes_mixed (C : Ctx) (hC : CtxOK C Go.Proofs.Try.prog) : Meets C.glob Go.Proofs.Try.prog 34 (afun C 2 r_aes_mixed a_aes_mixed) :=
  fn_sound hC Go.Proofs.Try.func34 c_aes_mixed s_aes_mixed (Nat.le_of_ble_eq_true (by kernel_rfl))

/-- curtilage/aes.inverse -/
def a_aes_inverse : ACode :=
 (.seq
  (.region false [⟨(some 2), (.mv (.const (u8 0#8))), none⟩])
  (.seq
   (.region false [⟨(some 3), (.mv (.const (u8 1#8))), none⟩])
   (.seq
    (.seq
     (.region false [⟨(some 4), (.mv (.const (it 0))), none⟩])
     (.block 0
      (.loop
       (.seq
        (.region false [⟨(some 5), (.bin .lss (.tmp 4) (.const (it 254))), none⟩])
        (.seq
         (.cond (.tmp 5)
          .skip
          (.exit 0))
         (.seq
          (.block 1
           (.region false [⟨(some 6), (.mv (.tmp 3)), none⟩,
            ⟨(some 7), (.mv (.tmp 0)), none⟩,
            ⟨(some 8), (.call 13 [(.tmp 6), (.tmp 7)]), none⟩,
            ⟨(some 3), (.mv (.tmp 8)), none⟩]))
          (.region false [⟨(some 9), (.bin .add (.tmp 4) (.const (it 1))), none⟩,
           ⟨(some 4), (.mv (.tmp 9)), none⟩])))))))
    (.seq
     (.region false [⟨(some 10), (.mv (.tmp 3)), none⟩,
      ⟨(some 2), (.mv (.tmp 10)), none⟩])
     .ret))))
def r_aes_inverse : List ARes := [(.tmp 2)]
theorem c_aes_inverse : o2 Go.Proofs.Try.f35.body (comp Go.Proofs.Try.prog Go.Proofs.Try.f35.ntmps) = some a_aes_inverse := by kernel_rfl
theorem s_aes_inverse : cRess Go.Proofs.Try.prog Go.Proofs.Try.f35.results.toList = some r_aes_inverse := by kernel_rfl
theorem m_aes_inverse (C : Ctx) (hC : CtxOK C Go.Proofs.Try.prog) : Meets C.glob Go.Proofs.Try.prog 35 (afun C 1 r_aes_inverse a_aes_inverse) :=
  fn_sound hC Go.Proofs.Try.func35 c_aes_inverse s_aes_inverse (Nat.le_of_ble_eq_true (by kernel_rfl))

/-- math/bits.RotateLeft8 -/
def a_math_bits_RotateLeft8 : ACode :=
 (.seq
  (.region false [⟨(some 4), (.mv (.const (u8 0#8))), none⟩])
  (.seq
   (.region false [⟨(some 6), (.mv (.tmp 1)), none⟩,
    ⟨(some 7), (.conv .u64 (.tmp 6)), none⟩,
    ⟨(some 8), (.bin .and (.tmp 7) (.const (u64 7#64))), none⟩,
    ⟨(some 5), (.mv (.tmp 8)), none⟩])
   (.seq
    (.region false [⟨(some 9), (.mv (.tmp 0)), none⟩,
     ⟨(some 10), (.mv (.tmp 5)), none⟩,
     ⟨(some 11), (.bin .shl (.tmp 9) (.tmp 10)), none⟩,
     ⟨(some 12), (.mv (.tmp 0)), none⟩,
     ⟨(some 13), (.mv (.tmp 5)), none⟩,
     ⟨(some 14), (.bin .sub (.const (u64 8#64)) (.tmp 13)), none⟩,
     ⟨(some 15), (.bin .shr (.tmp 12) (.tmp 14)), none⟩,
     ⟨(some 16), (.bin .or (.tmp 11) (.tmp 15)), none⟩,
     ⟨(some 4), (.mv (.tmp 16)), none⟩])
    .ret)))
def r_math_bits_RotateLeft8 : List ARes := [(.tmp 4)]
theorem c_math_bits_RotateLeft8 : o2 Go.Proofs.Try.f36.body (comp Go.Proofs.Try.prog Go.Proofs.Try.f36.ntmps) = some a_math_bits_RotateLeft8 := by kernel_rfl
theorem s_math_bits_RotateLeft8 : cRess Go.Proofs.Try.prog Go.Proofs.Try.f36.results.toList = some r_math_bits_RotateLeft8 := by kernel_rfl
theorem m_math_bits_RotateLeft8 (C : Ctx) (hC : CtxOK C Go.Proofs.Try.prog) : Meets C.glob Go.Proofs.Try.prog 36 (afun C 2 r_math_bits_RotateLeft8 a_math_bits_RotateLeft8) :=
  fn_sound hC Go.Proofs.Try.func36 c_math_bits_RotateLeft8 s_math_bits_RotateLeft8 (Nat.le_of_ble_eq_true (by kernel_rfl))

/-- curtilage/curtilageref03.Boxes -/
def a_ref03_Boxes : ACode :=
 (.seq
  (.region false [⟨(some 0), (.mv (.const (.slice none 0 0))), none⟩])
  (.seq
   (.region false [⟨(some 3), (.mks L8 1 (.raw (u8 0#8)) (.const (it 256)) (.const (it 256))), none⟩,
    ⟨(some 1), (.mv (.tmp 3)), none⟩])
   (.seq
    (.seq
     (.region false [⟨(some 4), (.mv (.tmp 1)), none⟩,
      ⟨(some 5), (.len (.tmp 4)), none⟩,
      ⟨(some 6), (.mv (.const (it 0))), none⟩])
     (.block 0
      (.loop
       (.seq
        (.region false [⟨(some 7), (.bin .lss (.tmp 6) (.tmp 5)), none⟩])
        (.seq
         (.cond (.tmp 7)
          .skip
          (.exit 0))
         (.seq
          (.block 1
           (.seq
            (.region false [⟨(some 8), (.mv (.tmp 6)), none⟩,
             ⟨(some 2), (.mv (.tmp 8)), none⟩])
            (.region false [⟨(some 9), (.mv (.tmp 1)), none⟩,
             ⟨(some 10), (.mv (.tmp 2)), none⟩,
             ⟨(some 11), (.mv (.tmp 2)), none⟩,
             ⟨(some 12), (.conv .u8 (.tmp 11)), none⟩,
             ⟨(some 13), (.call 16 [(.tmp 12)]), none⟩,
             ⟨(some 14), (.iaddrs L8 (.tmp 9) (.tmp 10)), none⟩,
             ⟨none, (.store L8 (.tmp 14) (.tmp 13)), none⟩])))
          (.region false [⟨(some 15), (.bin .add (.tmp 6) (.const (it 1))), none⟩,
           ⟨(some 6), (.mv (.tmp 15)), none⟩])))))))
    (.seq
     (.region false [⟨(some 16), (.mv (.tmp 1)), none⟩,
      ⟨(some 0), (.mv (.tmp 16)), none⟩])
     .ret))))
def r_ref03_Boxes : List ARes := [(.tmp 0)]
theorem c_ref03_Boxes : o2 Go.Proofs.Try.f37.body (comp Go.Proofs.Try.prog Go.Proofs.Try.f37.ntmps) = some a_ref03_Boxes := by kernel_rfl
theorem s_ref03_Boxes : cRess Go.Proofs.Try.prog Go.Proofs.Try.f37.results.toList = some r_ref03_Boxes := by kernel_rfl
theorem m_ref03_Boxes (C : Ctx) (hC : CtxOK C Go.Proofs.Try.prog) : Meets C.glob Go.Proofs.Try.prog 37 (afun C 0 r_ref03_Boxes a_ref03_Boxes) :=
  fn_sound hC Go.Proofs.Try.func37 c_ref03_Boxes s_ref03_Boxes (Nat.le_of_ble_eq_true (by kernel_rfl))

/-- slices.Clone[[]uint32,uint32] -/
def a_slices_Clone_uint32_uint32 : ACode :=
 (.seq
  (.region false [⟨(some 2), (.mv (.const (.slice none 0 0))), none⟩])
  (.seq
   (.seq
    (.region false [⟨(some 3), (.mv (.tmp 0)), none⟩,
     ⟨(some 4), (.eqsn false (.tmp 3) (.const (.slice none 0 0))), none⟩])
    (.cond (.tmp 4)
     (.seq
      (.region false [⟨(some 2), (.mv (.const (.slice none 0 0))), none⟩])
      .ret)
     .skip))
   (.seq
    (.region false [⟨(some 5), (.bslice L32 0 (.raw (u32 0#32)) []), none⟩,
     ⟨(some 6), (.mv (.tmp 0)), none⟩,
     ⟨(some 7), (.append L32 4 (.tmp 5) (.tmp 6)), none⟩,
     ⟨(some 2), (.mv (.tmp 7)), none⟩])
    .ret)))
def r_slices_Clone_uint32_uint32 : List ARes := [(.tmp 2)]
theorem c_slices_Clone_uint32_uint32 : o2 Go.Proofs.Try.f38.body (comp Go.Proofs.Try.prog Go.Proofs.Try.f38.ntmps) = some a_slices_Clone_uint32_uint32 := by kernel_rfl
theorem s_slices_Clone_uint32_uint32 : cRess Go.Proofs.Try.prog Go.Proofs.Try.f38.results.toList = some r_slices_Clone_uint32_uint32 := by kernel_rfl
theorem m_slices_Clone_uint32_uint32 (C : Ctx) (hC : CtxOK C Go.Proofs.Try.prog) : Meets C.glob Go.Proofs.Try.prog 38 (afun C 1 r_slices_Clone_uint32_uint32 a_slices_Clone_uint32_uint32) :=
  fn_sound hC Go.Proofs.Try.func38 c_slices_Clone_uint32_uint32 s_slices_Clone_uint32_uint32 (Nat.le_of_ble_eq_true (by kernel_rfl))

end Go.Am.F
