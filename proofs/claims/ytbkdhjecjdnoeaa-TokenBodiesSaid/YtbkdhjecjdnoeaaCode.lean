/- The functions as the abstract machine has them: printed. -/
import Derived.Test.YtbkdhjecjdnoeaaProg
import Derived.Test.YtbkdhjecjdnoeaaAm24
namespace Go.Am.F
set_option linter.unusedVariables false
set_option linter.unusedSimpArgs false
abbrev S1 : Sh := .cons LI (.cons L32 (.cons (.ar 16 L8) .nil))
abbrev S2 : Sh := .cons LI (.cons LI .nil)
/-- gosem.cut.init -/
def a_gosem_cut_init : ACode :=
 (.region false [⟨(some 0), .fail, none⟩])
def r_gosem_cut_init : List ARes := []
theorem c_gosem_cut_init : o2 Go.Proofs.Try.f2.body (comp Go.Proofs.Try.prog Go.Proofs.Try.f2.ntmps) = some a_gosem_cut_init := by kernel_rfl
theorem s_gosem_cut_init : cRess Go.Proofs.Try.prog Go.Proofs.Try.f2.results.toList = some r_gosem_cut_init := by kernel_rfl
theorem m_gosem_cut_init (C : Ctx) (hC : CtxOK C Go.Proofs.Try.prog) : Meets C.glob Go.Proofs.Try.prog 2 (afun C 0 r_gosem_cut_init a_gosem_cut_init) :=
  fn_sound hC Go.Proofs.Try.func2 c_gosem_cut_init s_gosem_cut_init (Nat.le_of_ble_eq_true (by kernel_rfl))

/-- curtilage/curtilagelaw09.TokenBodies -/
def a_law09_TokenBodies : ACode :=
 (.seq
  (.region false [⟨(some 6), (.box S1 (.tmp 0)), none⟩,
   ⟨(some 12), (.mv (.const (.bool false))), none⟩])
  (.seq
   (.seq
    (.region false [⟨(some 23), (.call 5 []), none⟩,
     ⟨(some 24), (.un .not (.tmp 23)), none⟩])
    (.cond (.tmp 24)
     (.seq
      (.region false [⟨(some 12), (.mv (.const (.bool false))), none⟩])
      .ret)
     .skip))
   (.seq
    (.region false [⟨(some 25), (.mv (.tmp 1)), none⟩,
     ⟨(some 26), (.call 6 [(.tmp 25), (.const (it 40))]), none⟩,
     ⟨(some 1), (.mv (.tmp 26)), none⟩])
    (.seq
     (.region false [⟨(some 28), (.load S1 (.tmp 6)), none⟩,
      ⟨(some 29), (.call 7 [(.tmp 28)]), none⟩,
      ⟨(some 27), (.mv (.tmp 29)), none⟩,
      ⟨(some 30), (.ext (.tmp 27) 0), none⟩,
      ⟨(some 31), (.ext (.tmp 27) 1), none⟩,
      ⟨(some 13), (.mv (.tmp 30)), none⟩,
      ⟨(some 14), (.mv (.tmp 31)), none⟩])
     (.seq
      (.region false [⟨(some 32), (.faddr S1 (.tmp 6) 0), none⟩,
       ⟨(some 33), (.load LI (.tmp 32)), none⟩,
       ⟨(some 34), (.bin .geq (.tmp 33) (.const (it 1))), none⟩,
       ⟨(some 35), (.mv (.tmp 34)), none⟩,
       ⟨(some 36), (.faddr S1 (.tmp 6) 0), some (35, true)⟩,
       ⟨(some 37), (.load LI (.tmp 36)), some (35, true)⟩,
       ⟨(some 38), (.bin .leq (.tmp 37) (.const (it 3))), some (35, true)⟩,
       ⟨(some 39), (.pick (.tmp 35) (.tmp 38) (.const (.bool false))), none⟩,
       ⟨(some 15), (.mv (.tmp 39)), none⟩])
      (.seq
       (.seq
        (.region false [⟨(some 40), (.mv (.tmp 14)), none⟩,
         ⟨(some 41), (.bin .eql (.tmp 40) (.const (it 0))), none⟩,
         ⟨(some 42), (.mv (.tmp 15)), none⟩,
         ⟨(some 43), (.beq true (.tmp 41) (.tmp 42)), none⟩,
         ⟨(some 44), (.mv (.tmp 43)), none⟩,
         ⟨(some 45), (.mv (.tmp 15)), some (44, false)⟩,
         ⟨(some 46), (.un .not (.tmp 45)), some (44, false)⟩,
         ⟨(some 47), (.mv (.tmp 46)), some (44, false)⟩,
         ⟨(some 48), (.mv (.tmp 14)), some (47, true)⟩,
         ⟨(some 49), (.bin .neq (.tmp 48) (.const (it 1))), some (47, true)⟩,
         ⟨(some 50), (.mv (.tmp 49)), some (47, true)⟩,
         ⟨(some 51), (.mv (.tmp 13)), some (50, false)⟩,
         ⟨(some 52), (.len (.tmp 51)), some (50, false)⟩,
         ⟨(some 53), (.bin .neq (.tmp 52) (.const (it 0))), some (50, false)⟩,
         ⟨(some 54), (.pick (.tmp 50) (.const (.bool true)) (.tmp 53)), some (47, true)⟩,
         ⟨(some 55), (.pick (.tmp 47) (.tmp 54) (.const (.bool false))), some (44, false)⟩,
         ⟨(some 56), (.pick (.tmp 44) (.const (.bool true)) (.tmp 55)), none⟩,
         ⟨(some 57), (.mv (.tmp 56)), none⟩,
         ⟨(some 58), (.mv (.tmp 15)), some (57, false)⟩,
         ⟨(some 59), (.mv (.tmp 58)), some (57, false)⟩,
         ⟨(some 60), (.mv (.tmp 13)), some (59, true)⟩,
         ⟨(some 61), (.load S1 (.tmp 6)), some (59, true)⟩,
         ⟨(some 62), (.call 9 [(.tmp 61)]), some (59, true)⟩,
         ⟨(some 63), (.call 8 [(.tmp 60), (.tmp 62)]), some (59, true)⟩,
         ⟨(some 64), (.un .not (.tmp 63)), some (59, true)⟩,
         ⟨(some 65), (.pick (.tmp 59) (.tmp 64) (.const (.bool false))), some (57, false)⟩,
         ⟨(some 66), (.pick (.tmp 57) (.const (.bool true)) (.tmp 65)), none⟩])
        (.cond (.tmp 66)
         (.seq
          (.region false [⟨(some 12), (.mv (.const (.bool false))), none⟩])
          .ret)
         .skip))
       (.seq
        (.region false [⟨(some 67), (.mv (.tmp 13)), none⟩,
         ⟨(some 68), (.bslice .ref 1 (.raw (.slice none 0 0)) [(0, (.tmp 67))]), none⟩,
         ⟨(some 69), (.call 10 [(.tmp 68)]), none⟩,
         ⟨(some 16), (.mv (.tmp 69)), none⟩])
        (.seq
         (.seq
          (.region false [⟨(some 70), (.mv (.tmp 15)), none⟩])
          (.cond (.tmp 70)
           (.region false [⟨(some 71), (.mv (.tmp 16)), none⟩,
            ⟨(some 72), (.mv (.tmp 2)), none⟩,
            ⟨(some 73), (.bin .rem (.tmp 72) (.const (u8 28#8))), none⟩,
            ⟨(some 74), (.iaddrs L8 (.tmp 71) (.tmp 73)), none⟩,
            ⟨(some 75), (.load L8 (.tmp 74)), none⟩,
            ⟨(some 76), (.mv (.tmp 3)), none⟩,
            ⟨(some 77), (.bin .xor (.tmp 75) (.tmp 76)), none⟩,
            ⟨(some 78), (.iaddrs L8 (.tmp 71) (.tmp 73)), none⟩,
            ⟨none, (.store L8 (.tmp 78) (.tmp 77)), none⟩])
           .skip))
         (.seq
          (.seq
           (.region false [⟨(some 79), (.mv (.tmp 1)), none⟩,
            ⟨(some 80), (.mv (.tmp 16)), none⟩,
            ⟨(some 81), (.mv (.tmp 13)), none⟩,
            ⟨(some 82), (.mv (.tmp 1)), none⟩,
            ⟨(some 83), (.bslice .ref 2 (.raw (.slice none 0 0)) [(0, (.tmp 81)), (1, (.tmp 82))]), none⟩,
            ⟨(some 84), (.call 10 [(.tmp 83)]), none⟩,
            ⟨(some 85), (.mv (.tmp 13)), none⟩,
            ⟨(some 86), (.bslice .ref 4 (.raw (.slice none 0 0)) [(0, (.tmp 79)), (1, (.tmp 80)), (2, (.tmp 84)), (3, (.tmp 85))]), none⟩,
            ⟨(some 87), (.len (.tmp 86)), none⟩,
            ⟨(some 88), (.mv (.const (it 0))), none⟩])
           (.block 0
            (.loop
             (.seq
              (.region false [⟨(some 89), (.bin .lss (.tmp 88) (.tmp 87)), none⟩])
              (.seq
               (.cond (.tmp 89)
                .skip
                (.exit 0))
               (.seq
                (.block 1
                 (.seq
                  (.region false [⟨(some 90), (.iaddrs .ref (.tmp 86) (.tmp 88)), none⟩,
                   ⟨(some 91), (.load .ref (.tmp 90)), none⟩,
                   ⟨(some 18), (.mv (.tmp 91)), none⟩])
                  (.seq
                   (.region false [⟨(some 93), (.mv (.tmp 18)), none⟩,
                    ⟨(some 94), (.call 11 [(.tmp 93)]), none⟩,
                    ⟨(some 92), (.mv (.tmp 94)), none⟩,
                    ⟨(some 95), (.ext (.tmp 92) 0), none⟩,
                    ⟨(some 96), (.ext (.tmp 92) 1), none⟩,
                    ⟨(some 19), (.alloc S1 (.agg S1 [(.raw (it 0)), (.raw (u32 0#32)), (.agg (.ar 16 L8) (List.replicate 16 (.raw (u8 0#8))))])), none⟩,
                    ⟨none, (.store S1 (.tmp 19) (.tmp 95)), none⟩,
                    ⟨(some 20), (.mv (.tmp 96)), none⟩])
                   (.seq
                    (.region false [⟨(some 98), (.mv (.tmp 18)), none⟩,
                     ⟨(some 99), (.call 12 [(.tmp 98)]), none⟩,
                     ⟨(some 97), (.mv (.tmp 99)), none⟩,
                     ⟨(some 100), (.ext (.tmp 97) 0), none⟩,
                     ⟨(some 101), (.ext (.tmp 97) 1), none⟩,
                     ⟨(some 21), (.alloc S1 (.agg S1 [(.raw (it 0)), (.raw (u32 0#32)), (.agg (.ar 16 L8) (List.replicate 16 (.raw (u8 0#8))))])), none⟩,
                     ⟨none, (.store S1 (.tmp 21) (.tmp 100)), none⟩,
                     ⟨(some 22), (.mv (.tmp 101)), none⟩])
                    (.seq
                     (.region false [⟨(some 102), (.mv (.tmp 20)), none⟩,
                      ⟨(some 103), (.mv (.tmp 22)), none⟩,
                      ⟨(some 104), (.bin .neq (.tmp 102) (.tmp 103)), none⟩,
                      ⟨(some 105), (.mv (.tmp 104)), none⟩,
                      ⟨(some 106), (.load S1 (.tmp 19)), some (105, false)⟩,
                      ⟨(some 107), (.load S1 (.tmp 21)), some (105, false)⟩,
                      ⟨(some 108), (.eqa S1 true (.tmp 106) (.tmp 107)), some (105, false)⟩,
                      ⟨(some 109), (.pick (.tmp 105) (.const (.bool true)) (.tmp 108)), none⟩])
                     (.cond (.tmp 109)
                      (.seq
                       (.region false [⟨(some 12), (.mv (.const (.bool false))), none⟩])
                       .ret)
                      .skip))))))
                (.region false [⟨(some 110), (.bin .add (.tmp 88) (.const (it 1))), none⟩,
                 ⟨(some 88), (.mv (.tmp 110)), none⟩])))))))
          (.seq
           (.region false [⟨(some 111), (.mv (.tmp 4)), none⟩,
            ⟨(some 112), (.mv (.tmp 5)), none⟩,
            ⟨(some 113), (.call 13 [(.tmp 111), (.tmp 112)]), none⟩,
            ⟨(some 114), (.mv (.tmp 4)), none⟩,
            ⟨(some 115), (.mv (.tmp 5)), none⟩,
            ⟨(some 116), (.call 14 [(.tmp 114), (.tmp 115)]), none⟩,
            ⟨(some 117), (.beq false (.tmp 113) (.tmp 116)), none⟩,
            ⟨(some 12), (.mv (.tmp 117)), none⟩])
           .ret))))))))))
def r_law09_TokenBodies : List ARes := [(.tmp 12)]
theorem c_law09_TokenBodies : o2 Go.Proofs.Try.f3.body (comp Go.Proofs.Try.prog Go.Proofs.Try.f3.ntmps) = some a_law09_TokenBodies := by kernel_rfl
theorem s_law09_TokenBodies : cRess Go.Proofs.Try.prog Go.Proofs.Try.f3.results.toList = some r_law09_TokenBodies := by kernel_rfl
theorem m_law09_TokenBodies (C : Ctx) (hC : CtxOK C Go.Proofs.Try.prog) : Meets C.glob Go.Proofs.Try.prog 3 (afun C 6 r_law09_TokenBodies a_law09_TokenBodies) :=
  fn_sound hC Go.Proofs.Try.func3 c_law09_TokenBodies s_law09_TokenBodies (Nat.le_of_ble_eq_true (by kernel_rfl))

/-- curtilage/curtilagelaw09.TokenLives -/
def a_law09_TokenLives : ACode :=
 (.seq
  (.region false [⟨(some 4), (.mv (.const (.bool false))), none⟩])
  (.seq
   (.seq
    (.region false [⟨(some 7), (.call 5 []), none⟩,
     ⟨(some 8), (.un .not (.tmp 7)), none⟩])
    (.cond (.tmp 8)
     (.seq
      (.region false [⟨(some 4), (.mv (.const (.bool false))), none⟩])
      .ret)
     .skip))
   (.seq
    (.region false [⟨(some 9), (.mv (.tmp 0)), none⟩,
     ⟨(some 5), (.mv (.tmp 9)), none⟩])
    (.seq
     (.seq
      (.region false [⟨(some 10), (.mv (.tmp 1)), none⟩])
      (.block 0
       (.seq
        (.region false [⟨(some 12), (.bin .eql (.tmp 10) (.const (it 2))), none⟩,
         ⟨(some 11), (.mv (.tmp 12)), none⟩])
        (.cond (.tmp 11)
         (.region false [⟨(some 5), (.mv (.const (it 3))), none⟩])
         (.seq
          (.region false [⟨(some 14), (.bin .eql (.tmp 10) (.const (it 3))), none⟩,
           ⟨(some 13), (.mv (.tmp 14)), none⟩])
          (.cond (.tmp 13)
           (.region false [⟨(some 5), (.mv (.const (it 4))), none⟩])
           .skip))))))
     (.seq
      (.seq
       (.region false [⟨(some 6), (.mv (.const (it 1))), none⟩])
       (.block 1
        (.loop
         (.seq
          (.seq
           (.region false [⟨(some 15), (.mv (.tmp 6)), none⟩,
            ⟨(some 16), (.bin .leq (.tmp 15) (.const (it 3))), none⟩])
           (.cond (.tmp 16)
            .skip
            (.exit 1)))
          (.seq
           (.block 2
            (.seq
             (.region false [⟨(some 19), (.mv (.tmp 0)), none⟩,
              ⟨(some 20), (.mv (.tmp 1)), none⟩,
              ⟨(some 21), (.call 13 [(.tmp 19), (.tmp 20)]), none⟩,
              ⟨(some 22), (.mv (.tmp 21)), none⟩,
              ⟨(some 23), (.mv (.tmp 5)), some (22, true)⟩,
              ⟨(some 24), (.mv (.tmp 6)), some (22, true)⟩,
              ⟨(some 25), (.call 13 [(.tmp 23), (.tmp 24)]), some (22, true)⟩,
              ⟨(some 26), (.pick (.tmp 22) (.tmp 25) (.const (.bool false))), none⟩,
              ⟨(some 27), (.mv (.tmp 26)), none⟩,
              ⟨(some 28), (.mv (.tmp 0)), some (27, true)⟩,
              ⟨(some 29), (.mv (.tmp 6)), some (27, true)⟩,
              ⟨(some 30), (.call 13 [(.tmp 28), (.tmp 29)]), some (27, true)⟩,
              ⟨(some 31), (.un .not (.tmp 30)), some (27, true)⟩,
              ⟨(some 32), (.pick (.tmp 27) (.tmp 31) (.const (.bool false))), none⟩,
              ⟨(some 33), (.mv (.tmp 32)), none⟩,
              ⟨(some 34), (.mv (.tmp 6)), some (33, false)⟩,
              ⟨(some 35), (.call 13 [(.const (it 4)), (.tmp 34)]), some (33, false)⟩,
              ⟨(some 36), (.pick (.tmp 33) (.const (.bool true)) (.tmp 35)), none⟩,
              ⟨(some 37), (.mv (.tmp 36)), none⟩,
              ⟨(some 38), (.mv (.tmp 6)), some (37, false)⟩,
              ⟨(some 39), (.call 13 [(.const (it 0)), (.tmp 38)]), some (37, false)⟩,
              ⟨(some 40), (.pick (.tmp 37) (.const (.bool true)) (.tmp 39)), none⟩])
             (.cond (.tmp 40)
              (.seq
               (.region false [⟨(some 4), (.mv (.const (.bool false))), none⟩])
               .ret)
              .skip)))
           (.region false [⟨(some 17), (.mv (.tmp 6)), none⟩,
            ⟨(some 18), (.bin .add (.tmp 17) (.const (it 1))), none⟩,
            ⟨(some 6), (.mv (.tmp 18)), none⟩]))))))
      (.seq
       (.region false [⟨(some 41), (.mv (.tmp 0)), none⟩,
        ⟨(some 42), (.mv (.tmp 1)), none⟩,
        ⟨(some 43), (.call 13 [(.tmp 41), (.tmp 42)]), none⟩,
        ⟨(some 44), (.un .not (.tmp 43)), none⟩,
        ⟨(some 45), (.mv (.tmp 44)), none⟩,
        ⟨(some 46), (.mv (.tmp 5)), some (45, false)⟩,
        ⟨(some 47), (.mv (.tmp 0)), some (45, false)⟩,
        ⟨(some 48), (.bin .geq (.tmp 46) (.tmp 47)), some (45, false)⟩,
        ⟨(some 49), (.pick (.tmp 45) (.const (.bool true)) (.tmp 48)), none⟩,
        ⟨(some 4), (.mv (.tmp 49)), none⟩])
       .ret))))))
def r_law09_TokenLives : List ARes := [(.tmp 4)]
theorem c_law09_TokenLives : o2 Go.Proofs.Try.f4.body (comp Go.Proofs.Try.prog Go.Proofs.Try.f4.ntmps) = some a_law09_TokenLives := by kernel_rfl
theorem s_law09_TokenLives : cRess Go.Proofs.Try.prog Go.Proofs.Try.f4.results.toList = some r_law09_TokenLives := by kernel_rfl
theorem m_law09_TokenLives (C : Ctx) (hC : CtxOK C Go.Proofs.Try.prog) : Meets C.glob Go.Proofs.Try.prog 4 (afun C 2 r_law09_TokenLives a_law09_TokenLives) :=
  fn_sound hC Go.Proofs.Try.func4 c_law09_TokenLives s_law09_TokenLives (Nat.le_of_ble_eq_true (by kernel_rfl))

/-- curtilage/curtilagelaw09.awake -/
def a_law09_awake : ACode :=
 (.seq
  (.region false [⟨(some 0), (.mv (.const (.bool false))), none⟩])
  (.seq
   (.region false [⟨(some 6), (.build S1 [(.raw (it 0)), (.raw (u32 0#32)), (.agg (.ar 16 L8) (List.replicate 16 (.raw (u8 0#8))))] [(0, (.const (it 2))), (1, (.const (u32 7#32)))]), none⟩,
    ⟨(some 7), (.call 7 [(.tmp 6)]), none⟩,
    ⟨(some 5), (.mv (.tmp 7)), none⟩,
    ⟨(some 8), (.ext (.tmp 5) 0), none⟩,
    ⟨(some 9), (.ext (.tmp 5) 1), none⟩,
    ⟨(some 1), (.mv (.tmp 8)), none⟩,
    ⟨(some 2), (.mv (.tmp 9)), none⟩])
   (.seq
    (.region false [⟨(some 11), (.mv (.tmp 1)), none⟩,
     ⟨(some 12), (.call 11 [(.tmp 11)]), none⟩,
     ⟨(some 10), (.mv (.tmp 12)), none⟩,
     ⟨(some 13), (.ext (.tmp 10) 0), none⟩,
     ⟨(some 14), (.ext (.tmp 10) 1), none⟩,
     ⟨(some 3), (.alloc S1 (.agg S1 [(.raw (it 0)), (.raw (u32 0#32)), (.agg (.ar 16 L8) (List.replicate 16 (.raw (u8 0#8))))])), none⟩,
     ⟨none, (.store S1 (.tmp 3) (.tmp 13)), none⟩,
     ⟨(some 4), (.mv (.tmp 14)), none⟩])
    (.seq
     (.region false [⟨(some 15), (.mv (.tmp 2)), none⟩,
      ⟨(some 16), (.bin .eql (.tmp 15) (.const (it 0))), none⟩,
      ⟨(some 17), (.mv (.tmp 16)), none⟩,
      ⟨(some 18), (.mv (.tmp 4)), some (17, true)⟩,
      ⟨(some 19), (.bin .eql (.tmp 18) (.const (it 0))), some (17, true)⟩,
      ⟨(some 20), (.pick (.tmp 17) (.tmp 19) (.const (.bool false))), none⟩,
      ⟨(some 21), (.mv (.tmp 20)), none⟩,
      ⟨(some 22), (.faddr S1 (.tmp 3) 0), some (21, true)⟩,
      ⟨(some 23), (.load LI (.tmp 22)), some (21, true)⟩,
      ⟨(some 24), (.bin .eql (.tmp 23) (.const (it 2))), some (21, true)⟩,
      ⟨(some 25), (.pick (.tmp 21) (.tmp 24) (.const (.bool false))), none⟩,
      ⟨(some 26), (.mv (.tmp 25)), none⟩,
      ⟨(some 27), (.faddr S1 (.tmp 3) 1), some (26, true)⟩,
      ⟨(some 28), (.load L32 (.tmp 27)), some (26, true)⟩,
      ⟨(some 29), (.bin .eql (.tmp 28) (.const (u32 7#32))), some (26, true)⟩,
      ⟨(some 30), (.pick (.tmp 26) (.tmp 29) (.const (.bool false))), none⟩,
      ⟨(some 31), (.mv (.tmp 30)), none⟩,
      ⟨(some 32), (.mv (.tmp 1)), some (31, true)⟩,
      ⟨(some 33), (.len (.tmp 32)), some (31, true)⟩,
      ⟨(some 34), (.bin .eql (.tmp 33) (.const (it 28))), some (31, true)⟩,
      ⟨(some 35), (.pick (.tmp 31) (.tmp 34) (.const (.bool false))), none⟩,
      ⟨(some 36), (.mv (.tmp 35)), none⟩,
      ⟨(some 37), (.call 13 [(.const (it 2)), (.const (it 2))]), some (36, true)⟩,
      ⟨(some 38), (.pick (.tmp 36) (.tmp 37) (.const (.bool false))), none⟩,
      ⟨(some 39), (.mv (.tmp 38)), none⟩,
      ⟨(some 40), (.call 13 [(.const (it 3)), (.const (it 2))]), some (39, true)⟩,
      ⟨(some 41), (.un .not (.tmp 40)), some (39, true)⟩,
      ⟨(some 42), (.pick (.tmp 39) (.tmp 41) (.const (.bool false))), none⟩,
      ⟨(some 0), (.mv (.tmp 42)), none⟩])
     .ret))))
def r_law09_awake : List ARes := [(.tmp 0)]
theorem c_law09_awake : o2 Go.Proofs.Try.f5.body (comp Go.Proofs.Try.prog Go.Proofs.Try.f5.ntmps) = some a_law09_awake := by kernel_rfl
theorem s_law09_awake : cRess Go.Proofs.Try.prog Go.Proofs.Try.f5.results.toList = some r_law09_awake := by kernel_rfl
theorem m_law09_awake (C : Ctx) (hC : CtxOK C Go.Proofs.Try.prog) : Meets C.glob Go.Proofs.Try.prog 5 (afun C 0 r_law09_awake a_law09_awake) :=
  fn_sound hC Go.Proofs.Try.func5 c_law09_awake s_law09_awake (Nat.le_of_ble_eq_true (by kernel_rfl))

/-- curtilage/curtilageref01.Cut -/
def a_ref01_Cut : ACode :=
 (.seq
  (.region false [⟨(some 4), (.mv (.const (.slice none 0 0))), none⟩])
  (.seq
   (.region false [⟨(some 5), (.mv (.const (.slice none 0 0))), none⟩])
   (.seq
    (.seq
     (.region false [⟨(some 8), (.mv (.tmp 0)), none⟩,
      ⟨(some 9), (.len (.tmp 8)), none⟩,
      ⟨(some 10), (.mv (.const (it 0))), none⟩])
     (.block 0
      (.loop
       (.seq
        (.region false [⟨(some 11), (.bin .lss (.tmp 10) (.tmp 9)), none⟩])
        (.seq
         (.cond (.tmp 11)
          .skip
          (.exit 0))
         (.seq
          (.block 1
           (.seq
            (.region false [⟨(some 12), (.mv (.tmp 10)), none⟩,
             ⟨(some 13), (.iaddrs L8 (.tmp 8) (.tmp 10)), none⟩,
             ⟨(some 14), (.load L8 (.tmp 13)), none⟩,
             ⟨(some 6), (.mv (.tmp 12)), none⟩,
             ⟨(some 7), (.mv (.tmp 14)), none⟩])
            (.seq
             (.region false [⟨(some 15), (.mv (.tmp 6)), none⟩,
              ⟨(some 16), (.mv (.tmp 1)), none⟩,
              ⟨(some 17), (.bin .lss (.tmp 15) (.tmp 16)), none⟩])
             (.cond (.tmp 17)
              (.region false [⟨(some 18), (.mv (.tmp 5)), none⟩,
               ⟨(some 19), (.mv (.tmp 7)), none⟩,
               ⟨(some 20), (.bslice L8 1 (.raw (u8 0#8)) [(0, (.tmp 19))]), none⟩,
               ⟨(some 21), (.append L8 1 (.tmp 18) (.tmp 20)), none⟩,
               ⟨(some 5), (.mv (.tmp 21)), none⟩])
              .skip))))
          (.region false [⟨(some 22), (.bin .add (.tmp 10) (.const (it 1))), none⟩,
           ⟨(some 10), (.mv (.tmp 22)), none⟩])))))))
    (.seq
     (.region false [⟨(some 23), (.mv (.tmp 5)), none⟩,
      ⟨(some 4), (.mv (.tmp 23)), none⟩])
     .ret))))
def r_ref01_Cut : List ARes := [(.tmp 4)]
theorem c_ref01_Cut : o2 Go.Proofs.Try.f6.body (comp Go.Proofs.Try.prog Go.Proofs.Try.f6.ntmps) = some a_ref01_Cut := by kernel_rfl
theorem s_ref01_Cut : cRess Go.Proofs.Try.prog Go.Proofs.Try.f6.results.toList = some r_ref01_Cut := by kernel_rfl
theorem m_ref01_Cut (C : Ctx) (hC : CtxOK C Go.Proofs.Try.prog) : Meets C.glob Go.Proofs.Try.prog 6 (afun C 2 r_ref01_Cut a_ref01_Cut) :=
  fn_sound hC Go.Proofs.Try.func6 c_ref01_Cut s_ref01_Cut (Nat.le_of_ble_eq_true (by kernel_rfl))

/-- (curtilage/token.Token).Body -/
def a_token_Token_Body : ACode :=
 (.seq
  (.region false [⟨(some 1), (.box S1 (.tmp 0)), none⟩,
   ⟨(some 2), (.mv (.const (.slice none 0 0))), none⟩,
   ⟨(some 3), (.mv (.const (it 0))), none⟩])
  (.seq
   (.seq
    (.region false [⟨(some 7), (.faddr S1 (.tmp 1) 0), none⟩,
     ⟨(some 8), (.load LI (.tmp 7)), none⟩,
     ⟨(some 9), (.call 15 [(.tmp 8)]), none⟩,
     ⟨(some 10), (.un .not (.tmp 9)), none⟩])
    (.cond (.tmp 10)
     (.seq
      (.region false [⟨(some 2), (.mv (.const (.slice none 0 0))), none⟩,
       ⟨(some 3), (.mv (.const (it 1))), none⟩])
      .ret)
     .skip))
   (.seq
    (.region false [⟨(some 11), (.bslice L8 4 (.raw (u8 0#8)) [(0, (.const (u8 84#8))), (1, (.const (u8 79#8))), (2, (.const (u8 75#8))), (3, (.const (u8 78#8)))]), none⟩,
     ⟨(some 12), (.frzb L8 (.tmp 11)), none⟩,
     ⟨(some 4), (.mv (.tmp 12)), none⟩])
    (.seq
     (.seq
      (.region false [⟨(some 13), (.faddr S1 (.tmp 1) 0), none⟩,
       ⟨(some 14), (.load LI (.tmp 13)), none⟩,
       ⟨(some 15), (.conv .u32 (.tmp 14)), none⟩,
       ⟨(some 16), (.faddr S1 (.tmp 1) 1), none⟩,
       ⟨(some 17), (.load L32 (.tmp 16)), none⟩,
       ⟨(some 18), (.bslice L32 2 (.raw (u32 0#32)) [(0, (.tmp 15)), (1, (.tmp 17))]), none⟩,
       ⟨(some 19), (.len (.tmp 18)), none⟩,
       ⟨(some 20), (.mv (.const (it 0))), none⟩])
      (.block 0
       (.loop
        (.seq
         (.region false [⟨(some 21), (.bin .lss (.tmp 20) (.tmp 19)), none⟩])
         (.seq
          (.cond (.tmp 21)
           .skip
           (.exit 0))
          (.seq
           (.block 1
            (.seq
             (.region false [⟨(some 22), (.iaddrs L32 (.tmp 18) (.tmp 20)), none⟩,
              ⟨(some 23), (.load L32 (.tmp 22)), none⟩,
              ⟨(some 6), (.mv (.tmp 23)), none⟩])
             (.region false [⟨(some 24), (.mv (.tmp 4)), none⟩,
              ⟨(some 25), (.mv (.tmp 6)), none⟩,
              ⟨(some 26), (.bin .shr (.tmp 25) (.const (u64 24#64))), none⟩,
              ⟨(some 27), (.conv .u8 (.tmp 26)), none⟩,
              ⟨(some 28), (.mv (.tmp 6)), none⟩,
              ⟨(some 29), (.bin .shr (.tmp 28) (.const (u64 16#64))), none⟩,
              ⟨(some 30), (.conv .u8 (.tmp 29)), none⟩,
              ⟨(some 31), (.mv (.tmp 6)), none⟩,
              ⟨(some 32), (.bin .shr (.tmp 31) (.const (u64 8#64))), none⟩,
              ⟨(some 33), (.conv .u8 (.tmp 32)), none⟩,
              ⟨(some 34), (.mv (.tmp 6)), none⟩,
              ⟨(some 35), (.conv .u8 (.tmp 34)), none⟩,
              ⟨(some 36), (.bslice L8 4 (.raw (u8 0#8)) [(0, (.tmp 27)), (1, (.tmp 30)), (2, (.tmp 33)), (3, (.tmp 35))]), none⟩,
              ⟨(some 37), (.append L8 1 (.tmp 24) (.tmp 36)), none⟩,
              ⟨(some 4), (.mv (.tmp 37)), none⟩])))
           (.region false [⟨(some 38), (.bin .add (.tmp 20) (.const (it 1))), none⟩,
            ⟨(some 20), (.mv (.tmp 38)), none⟩])))))))
     (.seq
      (.region false [⟨(some 39), (.mv (.tmp 4)), none⟩,
       ⟨(some 40), (.faddr S1 (.tmp 1) 2), none⟩,
       ⟨(some 41), (.slicea 16 L8 (.tmp 40) none none none), none⟩,
       ⟨(some 42), (.append L8 1 (.tmp 39) (.tmp 41)), none⟩,
       ⟨(some 2), (.mv (.tmp 42)), none⟩,
       ⟨(some 3), (.mv (.const (it 0))), none⟩])
      .ret)))))
def r_token_Token_Body : List ARes := [(.tmp 2), (.tmp 3)]
theorem c_token_Token_Body : o2 Go.Proofs.Try.f7.body (comp Go.Proofs.Try.prog Go.Proofs.Try.f7.ntmps) = some a_token_Token_Body := by kernel_rfl
theorem s_token_Token_Body : cRess Go.Proofs.Try.prog Go.Proofs.Try.f7.results.toList = some r_token_Token_Body := by kernel_rfl
theorem m_token_Token_Body (C : Ctx) (hC : CtxOK C Go.Proofs.Try.prog) : Meets C.glob Go.Proofs.Try.prog 7 (afun C 1 r_token_Token_Body a_token_Token_Body) :=
  fn_sound hC Go.Proofs.Try.func7 c_token_Token_Body s_token_Token_Body (Nat.le_of_ble_eq_true (by kernel_rfl))

/-- curtilage/curtilageref01.Same -/
def a_ref01_Same : ACode :=
 (.seq
  (.region false [⟨(some 4), (.mv (.const (.bool false))), none⟩])
  (.seq
   (.seq
    (.region false [⟨(some 6), (.mv (.tmp 0)), none⟩,
     ⟨(some 7), (.len (.tmp 6)), none⟩,
     ⟨(some 8), (.mv (.tmp 1)), none⟩,
     ⟨(some 9), (.len (.tmp 8)), none⟩,
     ⟨(some 10), (.bin .neq (.tmp 7) (.tmp 9)), none⟩])
    (.cond (.tmp 10)
     (.seq
      (.region false [⟨(some 4), (.mv (.const (.bool false))), none⟩])
      .ret)
     .skip))
   (.seq
    (.seq
     (.region false [⟨(some 11), (.mv (.tmp 0)), none⟩,
      ⟨(some 12), (.len (.tmp 11)), none⟩,
      ⟨(some 13), (.mv (.const (it 0))), none⟩])
     (.block 0
      (.loop
       (.seq
        (.region false [⟨(some 14), (.bin .lss (.tmp 13) (.tmp 12)), none⟩])
        (.seq
         (.cond (.tmp 14)
          .skip
          (.exit 0))
         (.seq
          (.block 1
           (.seq
            (.region false [⟨(some 15), (.mv (.tmp 13)), none⟩,
             ⟨(some 5), (.mv (.tmp 15)), none⟩])
            (.seq
             (.region true [⟨(some 16), (.mv (.tmp 0)), none⟩,
              ⟨(some 17), (.mv (.tmp 5)), none⟩,
              ⟨(some 18), (.iaddrs L8 (.tmp 16) (.tmp 17)), none⟩,
              ⟨(some 19), (.load L8 (.tmp 18)), none⟩,
              ⟨(some 20), (.mv (.tmp 1)), none⟩,
              ⟨(some 21), (.mv (.tmp 5)), none⟩,
              ⟨(some 22), (.iaddrs L8 (.tmp 20) (.tmp 21)), none⟩,
              ⟨(some 23), (.load L8 (.tmp 22)), none⟩,
              ⟨(some 24), (.bin .neq (.tmp 19) (.tmp 23)), none⟩])
             (.cond (.tmp 24)
              (.seq
               (.region false [⟨(some 4), (.mv (.const (.bool false))), none⟩])
               .ret)
              .skip))))
          (.region false [⟨(some 25), (.bin .add (.tmp 13) (.const (it 1))), none⟩,
           ⟨(some 13), (.mv (.tmp 25)), none⟩])))))))
    (.seq
     (.region false [⟨(some 4), (.mv (.const (.bool true))), none⟩])
     .ret))))
def r_ref01_Same : List ARes := [(.tmp 4)]
theorem c_ref01_Same : o2 Go.Proofs.Try.f8.body (comp Go.Proofs.Try.prog Go.Proofs.Try.f8.ntmps) = some a_ref01_Same := by kernel_rfl
theorem s_ref01_Same : cRess Go.Proofs.Try.prog Go.Proofs.Try.f8.results.toList = some r_ref01_Same := by kernel_rfl
theorem m_ref01_Same (C : Ctx) (hC : CtxOK C Go.Proofs.Try.prog) : Meets C.glob Go.Proofs.Try.prog 8 (afun C 2 r_ref01_Same a_ref01_Same) :=
  fn_sound hC Go.Proofs.Try.func8 c_ref01_Same s_ref01_Same (Nat.le_of_ble_eq_true (by kernel_rfl))

/-- curtilage/curtilageref09.Body -/
def a_ref09_Body : ACode :=
 (.seq
  (.region false [⟨(some 1), (.box S1 (.tmp 0)), none⟩,
   ⟨(some 2), (.mv (.const (.slice none 0 0))), none⟩])
  (.seq
   (.region true [⟨(some 3), (.bslice L8 4 (.raw (u8 0#8)) [(0, (.const (u8 84#8))), (1, (.const (u8 79#8))), (2, (.const (u8 75#8))), (3, (.const (u8 78#8)))]), none⟩,
    ⟨(some 4), (.frzb L8 (.tmp 3)), none⟩,
    ⟨(some 5), (.faddr S1 (.tmp 1) 0), none⟩,
    ⟨(some 6), (.load LI (.tmp 5)), none⟩,
    ⟨(some 7), (.conv .u64 (.tmp 6)), none⟩,
    ⟨(some 8), (.call 16 [(.tmp 7), (.const (it 4))]), none⟩,
    ⟨(some 9), (.faddr S1 (.tmp 1) 1), none⟩,
    ⟨(some 10), (.load L32 (.tmp 9)), none⟩,
    ⟨(some 11), (.conv .u64 (.tmp 10)), none⟩,
    ⟨(some 12), (.call 16 [(.tmp 11), (.const (it 4))]), none⟩,
    ⟨(some 13), (.faddr S1 (.tmp 1) 2), none⟩,
    ⟨(some 14), (.slicea 16 L8 (.tmp 13) none none none), none⟩,
    ⟨(some 15), (.bslice .ref 4 (.raw (.slice none 0 0)) [(0, (.tmp 4)), (1, (.tmp 8)), (2, (.tmp 12)), (3, (.tmp 14))]), none⟩,
    ⟨(some 16), (.call 10 [(.tmp 15)]), none⟩,
    ⟨(some 2), (.mv (.tmp 16)), none⟩])
   .ret))
def r_ref09_Body : List ARes := [(.tmp 2)]
theorem c_ref09_Body : o2 Go.Proofs.Try.f9.body (comp Go.Proofs.Try.prog Go.Proofs.Try.f9.ntmps) = some a_ref09_Body := by kernel_rfl
theorem s_ref09_Body : cRess Go.Proofs.Try.prog Go.Proofs.Try.f9.results.toList = some r_ref09_Body := by kernel_rfl
theorem m_ref09_Body (C : Ctx) (hC : CtxOK C Go.Proofs.Try.prog) : Meets C.glob Go.Proofs.Try.prog 9 (afun C 1 r_ref09_Body a_ref09_Body) :=
  fn_sound hC Go.Proofs.Try.func9 c_ref09_Body s_ref09_Body (Nat.le_of_ble_eq_true (by kernel_rfl))

/-- curtilage/curtilageref01.Join -/
def a_ref01_Join : ACode :=
 (.seq
  (.region false [⟨(some 2), (.mv (.const (.slice none 0 0))), none⟩])
  (.seq
   (.region false [⟨(some 3), (.mv (.const (.slice none 0 0))), none⟩])
   (.seq
    (.seq
     (.region false [⟨(some 6), (.mv (.tmp 0)), none⟩,
      ⟨(some 7), (.len (.tmp 6)), none⟩,
      ⟨(some 8), (.mv (.const (it 0))), none⟩])
     (.block 0
      (.loop
       (.seq
        (.region false [⟨(some 9), (.bin .lss (.tmp 8) (.tmp 7)), none⟩])
        (.seq
         (.cond (.tmp 9)
          .skip
          (.exit 0))
         (.seq
          (.block 1
           (.seq
            (.region false [⟨(some 10), (.iaddrs .ref (.tmp 6) (.tmp 8)), none⟩,
             ⟨(some 11), (.load .ref (.tmp 10)), none⟩,
             ⟨(some 5), (.mv (.tmp 11)), none⟩])
            (.region false [⟨(some 12), (.mv (.tmp 3)), none⟩,
             ⟨(some 13), (.mv (.tmp 5)), none⟩,
             ⟨(some 14), (.append L8 1 (.tmp 12) (.tmp 13)), none⟩,
             ⟨(some 3), (.mv (.tmp 14)), none⟩])))
          (.region false [⟨(some 15), (.bin .add (.tmp 8) (.const (it 1))), none⟩,
           ⟨(some 8), (.mv (.tmp 15)), none⟩])))))))
    (.seq
     (.region false [⟨(some 16), (.mv (.tmp 3)), none⟩,
      ⟨(some 2), (.mv (.tmp 16)), none⟩])
     .ret))))
def r_ref01_Join : List ARes := [(.tmp 2)]
theorem c_ref01_Join : o2 Go.Proofs.Try.f10.body (comp Go.Proofs.Try.prog Go.Proofs.Try.f10.ntmps) = some a_ref01_Join := by kernel_rfl
theorem s_ref01_Join : cRess Go.Proofs.Try.prog Go.Proofs.Try.f10.results.toList = some r_ref01_Join := by kernel_rfl
theorem m_ref01_Join (C : Ctx) (hC : CtxOK C Go.Proofs.Try.prog) : Meets C.glob Go.Proofs.Try.prog 10 (afun C 1 r_ref01_Join a_ref01_Join) :=
  fn_sound hC Go.Proofs.Try.func10 c_ref01_Join s_ref01_Join (Nat.le_of_ble_eq_true (by kernel_rfl))

/-- curtilage/token.Parse -/
def a_token_Parse : ACode :=
 (.seq
  (.region false [⟨(some 2), (.alloc S1 (.agg S1 [(.raw (it 0)), (.raw (u32 0#32)), (.agg (.ar 16 L8) (List.replicate 16 (.raw (u8 0#8))))])), none⟩,
   ⟨(some 3), (.mv (.const (it 0))), none⟩])
  (.seq
   (.seq
    (.region false [⟨(some 5), (.mv (.tmp 0)), none⟩,
     ⟨(some 6), (.len (.tmp 5)), none⟩,
     ⟨(some 7), (.bin .neq (.tmp 6) (.const (it 28))), none⟩,
     ⟨(some 8), (.mv (.tmp 7)), none⟩,
     ⟨(some 9), (.mv (.tmp 0)), some (8, false)⟩,
     ⟨(some 10), (.bslice L8 4 (.raw (u8 0#8)) [(0, (.const (u8 84#8))), (1, (.const (u8 79#8))), (2, (.const (u8 75#8))), (3, (.const (u8 78#8)))]), some (8, false)⟩,
     ⟨(some 11), (.frzb L8 (.tmp 10)), some (8, false)⟩,
     ⟨(some 12), (.call 17 [(.tmp 9), (.tmp 11)]), some (8, false)⟩,
     ⟨(some 13), (.un .not (.tmp 12)), some (8, false)⟩,
     ⟨(some 14), (.pick (.tmp 8) (.const (.bool true)) (.tmp 13)), none⟩])
    (.cond (.tmp 14)
     (.seq
      (.region false [⟨(some 15), (.build S1 [(.raw (it 0)), (.raw (u32 0#32)), (.agg (.ar 16 L8) (List.replicate 16 (.raw (u8 0#8))))] []), none⟩,
       ⟨none, (.store S1 (.tmp 2) (.tmp 15)), none⟩,
       ⟨(some 3), (.mv (.const (it 2))), none⟩])
      .ret)
     .skip))
   (.seq
    (.region true [⟨(some 16), (.mv (.tmp 0)), none⟩,
     ⟨(some 17), (.slice L8 (.tmp 16) (some (.const (it 4))) none none), none⟩,
     ⟨(some 18), (.call 18 [(.tmp 17)]), none⟩,
     ⟨(some 19), (.conv .i64 (.tmp 18)), none⟩,
     ⟨(some 20), (.mv (.tmp 0)), none⟩,
     ⟨(some 21), (.slice L8 (.tmp 20) (some (.const (it 8))) none none), none⟩,
     ⟨(some 22), (.call 18 [(.tmp 21)]), none⟩,
     ⟨(some 23), (.mv (.tmp 0)), none⟩,
     ⟨(some 24), (.slice L8 (.tmp 23) (some (.const (it 12))) none none), none⟩,
     ⟨(some 25), (.s2a 16 L8 (.tmp 24)), none⟩,
     ⟨(some 26), (.load (.ar 16 L8) (.tmp 25)), none⟩,
     ⟨(some 27), (.build S1 [(.raw (it 0)), (.raw (u32 0#32)), (.agg (.ar 16 L8) (List.replicate 16 (.raw (u8 0#8))))] [(0, (.tmp 19)), (1, (.tmp 22)), (2, (.tmp 26))]), none⟩,
     ⟨(some 4), (.alloc S1 (.agg S1 [(.raw (it 0)), (.raw (u32 0#32)), (.agg (.ar 16 L8) (List.replicate 16 (.raw (u8 0#8))))])), none⟩,
     ⟨none, (.store S1 (.tmp 4) (.tmp 27)), none⟩])
    (.seq
     (.seq
      (.region false [⟨(some 28), (.faddr S1 (.tmp 4) 0), none⟩,
       ⟨(some 29), (.load LI (.tmp 28)), none⟩,
       ⟨(some 30), (.call 15 [(.tmp 29)]), none⟩,
       ⟨(some 31), (.un .not (.tmp 30)), none⟩])
      (.cond (.tmp 31)
       (.seq
        (.region false [⟨(some 32), (.build S1 [(.raw (it 0)), (.raw (u32 0#32)), (.agg (.ar 16 L8) (List.replicate 16 (.raw (u8 0#8))))] []), none⟩,
         ⟨none, (.store S1 (.tmp 2) (.tmp 32)), none⟩,
         ⟨(some 3), (.mv (.const (it 1))), none⟩])
        .ret)
       .skip))
     (.seq
      (.region false [⟨(some 33), (.load S1 (.tmp 4)), none⟩,
       ⟨none, (.store S1 (.tmp 2) (.tmp 33)), none⟩,
       ⟨(some 3), (.mv (.const (it 0))), none⟩])
      .ret)))))
def r_token_Parse : List ARes := [(.cell 2 S1), (.tmp 3)]
theorem c_token_Parse : o2 Go.Proofs.Try.f11.body (comp Go.Proofs.Try.prog Go.Proofs.Try.f11.ntmps) = some a_token_Parse := by kernel_rfl
theorem s_token_Parse : cRess Go.Proofs.Try.prog Go.Proofs.Try.f11.results.toList = some r_token_Parse := by kernel_rfl
theorem m_token_Parse (C : Ctx) (hC : CtxOK C Go.Proofs.Try.prog) : Meets C.glob Go.Proofs.Try.prog 11 (afun C 1 r_token_Parse a_token_Parse) :=
  fn_sound hC Go.Proofs.Try.func11 c_token_Parse s_token_Parse (Nat.le_of_ble_eq_true (by kernel_rfl))

/-- curtilage/curtilageref09.Parse -/
def a_ref09_Parse : ACode :=
 (.seq
  (.region false [⟨(some 2), (.alloc S1 (.agg S1 [(.raw (it 0)), (.raw (u32 0#32)), (.agg (.ar 16 L8) (List.replicate 16 (.raw (u8 0#8))))])), none⟩,
   ⟨(some 3), (.mv (.const (it 0))), none⟩])
  (.seq
   (.seq
    (.region false [⟨(some 5), (.mv (.tmp 0)), none⟩,
     ⟨(some 6), (.len (.tmp 5)), none⟩,
     ⟨(some 7), (.bin .neq (.tmp 6) (.const (it 28))), none⟩,
     ⟨(some 8), (.mv (.tmp 7)), none⟩,
     ⟨(some 9), (.mv (.tmp 0)), some (8, false)⟩,
     ⟨(some 10), (.slice L8 (.tmp 9) none (some (.const (it 4))) none), some (8, false)⟩,
     ⟨(some 11), (.b2s (.tmp 10)), some (8, false)⟩,
     ⟨(some 12), (.bin .neq (.tmp 11) (.const (.string ⟨#[84, 79, 75, 78]⟩))), some (8, false)⟩,
     ⟨(some 13), (.pick (.tmp 8) (.const (.bool true)) (.tmp 12)), none⟩])
    (.cond (.tmp 13)
     (.seq
      (.region false [⟨(some 14), (.build S1 [(.raw (it 0)), (.raw (u32 0#32)), (.agg (.ar 16 L8) (List.replicate 16 (.raw (u8 0#8))))] []), none⟩,
       ⟨none, (.store S1 (.tmp 2) (.tmp 14)), none⟩,
       ⟨(some 3), (.mv (.const (it 2))), none⟩])
      .ret)
     .skip))
   (.seq
    (.region true [⟨(some 15), (.mv (.tmp 0)), none⟩,
     ⟨(some 16), (.slice L8 (.tmp 15) (some (.const (it 4))) (some (.const (it 8))) none), none⟩,
     ⟨(some 17), (.call 19 [(.tmp 16)]), none⟩,
     ⟨(some 18), (.conv .i64 (.tmp 17)), none⟩,
     ⟨(some 19), (.mv (.tmp 0)), none⟩,
     ⟨(some 20), (.slice L8 (.tmp 19) (some (.const (it 8))) (some (.const (it 12))) none), none⟩,
     ⟨(some 21), (.call 19 [(.tmp 20)]), none⟩,
     ⟨(some 22), (.conv .u32 (.tmp 21)), none⟩,
     ⟨(some 23), (.mv (.tmp 0)), none⟩,
     ⟨(some 24), (.slice L8 (.tmp 23) (some (.const (it 12))) none none), none⟩,
     ⟨(some 25), (.s2a 16 L8 (.tmp 24)), none⟩,
     ⟨(some 26), (.load (.ar 16 L8) (.tmp 25)), none⟩,
     ⟨(some 27), (.build S1 [(.raw (it 0)), (.raw (u32 0#32)), (.agg (.ar 16 L8) (List.replicate 16 (.raw (u8 0#8))))] [(0, (.tmp 18)), (1, (.tmp 22)), (2, (.tmp 26))]), none⟩,
     ⟨(some 4), (.alloc S1 (.agg S1 [(.raw (it 0)), (.raw (u32 0#32)), (.agg (.ar 16 L8) (List.replicate 16 (.raw (u8 0#8))))])), none⟩,
     ⟨none, (.store S1 (.tmp 4) (.tmp 27)), none⟩])
    (.seq
     (.seq
      (.region false [⟨(some 28), (.faddr S1 (.tmp 4) 0), none⟩,
       ⟨(some 29), (.load LI (.tmp 28)), none⟩,
       ⟨(some 30), (.bin .lss (.tmp 29) (.const (it 1))), none⟩,
       ⟨(some 31), (.mv (.tmp 30)), none⟩,
       ⟨(some 32), (.faddr S1 (.tmp 4) 0), some (31, false)⟩,
       ⟨(some 33), (.load LI (.tmp 32)), some (31, false)⟩,
       ⟨(some 34), (.bin .gtr (.tmp 33) (.const (it 3))), some (31, false)⟩,
       ⟨(some 35), (.pick (.tmp 31) (.const (.bool true)) (.tmp 34)), none⟩])
      (.cond (.tmp 35)
       (.seq
        (.region false [⟨(some 36), (.build S1 [(.raw (it 0)), (.raw (u32 0#32)), (.agg (.ar 16 L8) (List.replicate 16 (.raw (u8 0#8))))] []), none⟩,
         ⟨none, (.store S1 (.tmp 2) (.tmp 36)), none⟩,
         ⟨(some 3), (.mv (.const (it 1))), none⟩])
        .ret)
       .skip))
     (.seq
      (.region false [⟨(some 37), (.load S1 (.tmp 4)), none⟩,
       ⟨none, (.store S1 (.tmp 2) (.tmp 37)), none⟩,
       ⟨(some 3), (.mv (.const (it 0))), none⟩])
      .ret)))))
def r_ref09_Parse : List ARes := [(.cell 2 S1), (.tmp 3)]
theorem c_ref09_Parse : o2 Go.Proofs.Try.f12.body (comp Go.Proofs.Try.prog Go.Proofs.Try.f12.ntmps) = some a_ref09_Parse := by kernel_rfl
theorem s_ref09_Parse : cRess Go.Proofs.Try.prog Go.Proofs.Try.f12.results.toList = some r_ref09_Parse := by kernel_rfl
theorem m_ref09_Parse (C : Ctx) (hC : CtxOK C Go.Proofs.Try.prog) : Meets C.glob Go.Proofs.Try.prog 12 (afun C 1 r_ref09_Parse a_ref09_Parse) :=
  fn_sound hC Go.Proofs.Try.func12 c_ref09_Parse s_ref09_Parse (Nat.le_of_ble_eq_true (by kernel_rfl))

/-- curtilage/token.Allows -/
def a_token_Allows : ACode :=
 (.seq
  (.region false [⟨(some 4), (.mv (.const (.bool false))), none⟩])
  (.seq
   (.seq
    (.region false [⟨(some 5), (.mv (.tmp 0)), none⟩,
     ⟨(some 6), (.mv (.tmp 1)), none⟩,
     ⟨(some 7), (.build S2 [(.raw (it 0)), (.raw (it 0))] [(0, (.tmp 5)), (1, (.tmp 6))]), none⟩])
    (.block 0
     (.seq
      (.seq
       (.region false [⟨(some 9), (.build S2 [(.raw (it 0)), (.raw (it 0))] [(0, (.const (it 1))), (1, (.const (it 1)))]), none⟩,
        ⟨(some 10), (.eqa S2 false (.tmp 7) (.tmp 9)), none⟩,
        ⟨(some 8), (.mv (.tmp 10)), none⟩])
       (.cond (.tmp 8)
        .skip
        (.seq
         (.region false [⟨(some 11), (.build S2 [(.raw (it 0)), (.raw (it 0))] [(0, (.const (it 2))), (1, (.const (it 1)))]), none⟩,
          ⟨(some 12), (.eqa S2 false (.tmp 7) (.tmp 11)), none⟩,
          ⟨(some 8), (.mv (.tmp 12)), none⟩])
         (.cond (.tmp 8)
          .skip
          (.region false [⟨(some 13), (.build S2 [(.raw (it 0)), (.raw (it 0))] [(0, (.const (it 3))), (1, (.const (it 1)))]), none⟩,
           ⟨(some 14), (.eqa S2 false (.tmp 7) (.tmp 13)), none⟩,
           ⟨(some 8), (.mv (.tmp 14)), none⟩])))))
      (.cond (.tmp 8)
       (.seq
        (.region false [⟨(some 4), (.mv (.const (.bool true))), none⟩])
        .ret)
       (.seq
        (.seq
         (.region false [⟨(some 16), (.build S2 [(.raw (it 0)), (.raw (it 0))] [(0, (.const (it 1))), (1, (.const (it 2)))]), none⟩,
          ⟨(some 17), (.eqa S2 false (.tmp 7) (.tmp 16)), none⟩,
          ⟨(some 15), (.mv (.tmp 17)), none⟩])
         (.cond (.tmp 15)
          .skip
          (.region false [⟨(some 18), (.build S2 [(.raw (it 0)), (.raw (it 0))] [(0, (.const (it 2))), (1, (.const (it 2)))]), none⟩,
           ⟨(some 19), (.eqa S2 false (.tmp 7) (.tmp 18)), none⟩,
           ⟨(some 15), (.mv (.tmp 19)), none⟩])))
        (.cond (.tmp 15)
         (.seq
          (.region false [⟨(some 4), (.mv (.const (.bool true))), none⟩])
          .ret)
         (.seq
          (.seq
           (.region false [⟨(some 21), (.build S2 [(.raw (it 0)), (.raw (it 0))] [(0, (.const (it 1))), (1, (.const (it 3)))]), none⟩,
            ⟨(some 22), (.eqa S2 false (.tmp 7) (.tmp 21)), none⟩,
            ⟨(some 20), (.mv (.tmp 22)), none⟩])
           (.cond (.tmp 20)
            .skip
            (.seq
             (.region false [⟨(some 23), (.build S2 [(.raw (it 0)), (.raw (it 0))] [(0, (.const (it 2))), (1, (.const (it 3)))]), none⟩,
              ⟨(some 24), (.eqa S2 false (.tmp 7) (.tmp 23)), none⟩,
              ⟨(some 20), (.mv (.tmp 24)), none⟩])
             (.cond (.tmp 20)
              .skip
              (.region false [⟨(some 25), (.build S2 [(.raw (it 0)), (.raw (it 0))] [(0, (.const (it 3))), (1, (.const (it 3)))]), none⟩,
               ⟨(some 26), (.eqa S2 false (.tmp 7) (.tmp 25)), none⟩,
               ⟨(some 20), (.mv (.tmp 26)), none⟩])))))
          (.cond (.tmp 20)
           (.seq
            (.region false [⟨(some 4), (.mv (.const (.bool true))), none⟩])
            .ret)
           .skip))))))))
   (.seq
    (.region false [⟨(some 4), (.mv (.const (.bool false))), none⟩])
    .ret)))
def r_token_Allows : List ARes := [(.tmp 4)]
theorem c_token_Allows : o2 Go.Proofs.Try.f13.body (comp Go.Proofs.Try.prog Go.Proofs.Try.f13.ntmps) = some a_token_Allows := by kernel_rfl
theorem s_token_Allows : cRess Go.Proofs.Try.prog Go.Proofs.Try.f13.results.toList = some r_token_Allows := by kernel_rfl
theorem m_token_Allows (C : Ctx) (hC : CtxOK C Go.Proofs.Try.prog) : Meets C.glob Go.Proofs.Try.prog 13 (afun C 2 r_token_Allows a_token_Allows) :=
  fn_sound hC Go.Proofs.Try.func13 c_token_Allows s_token_Allows (Nat.le_of_ble_eq_true (by kernel_rfl))

/-- curtilage/curtilageref09.Allows -/
def a_ref09_Allows : ACode :=
 (.seq
  (.region false [⟨(some 4), (.mv (.const (.bool false))), none⟩])
  (.seq
   (.seq
    (.region false [⟨(some 5), (.mv (.tmp 1)), none⟩])
    (.block 0
     (.seq
      (.seq
       (.region false [⟨(some 7), (.bin .eql (.tmp 5) (.const (it 1))), none⟩,
        ⟨(some 6), (.mv (.tmp 7)), none⟩])
       (.cond (.tmp 6)
        .skip
        (.region false [⟨(some 8), (.bin .eql (.tmp 5) (.const (it 3))), none⟩,
         ⟨(some 6), (.mv (.tmp 8)), none⟩])))
      (.cond (.tmp 6)
       (.seq
        (.region false [⟨(some 9), (.mv (.tmp 0)), none⟩,
         ⟨(some 10), (.bin .geq (.tmp 9) (.const (it 1))), none⟩,
         ⟨(some 11), (.mv (.tmp 10)), none⟩,
         ⟨(some 12), (.mv (.tmp 0)), some (11, true)⟩,
         ⟨(some 13), (.bin .leq (.tmp 12) (.const (it 3))), some (11, true)⟩,
         ⟨(some 14), (.pick (.tmp 11) (.tmp 13) (.const (.bool false))), none⟩,
         ⟨(some 4), (.mv (.tmp 14)), none⟩])
        .ret)
       (.seq
        (.region false [⟨(some 16), (.bin .eql (.tmp 5) (.const (it 2))), none⟩,
         ⟨(some 15), (.mv (.tmp 16)), none⟩])
        (.cond (.tmp 15)
         (.seq
          (.region false [⟨(some 17), (.mv (.tmp 0)), none⟩,
           ⟨(some 18), (.bin .eql (.tmp 17) (.const (it 1))), none⟩,
           ⟨(some 19), (.mv (.tmp 18)), none⟩,
           ⟨(some 20), (.mv (.tmp 0)), some (19, false)⟩,
           ⟨(some 21), (.bin .eql (.tmp 20) (.const (it 2))), some (19, false)⟩,
           ⟨(some 22), (.pick (.tmp 19) (.const (.bool true)) (.tmp 21)), none⟩,
           ⟨(some 4), (.mv (.tmp 22)), none⟩])
          .ret)
         .skip))))))
   (.seq
    (.region false [⟨(some 4), (.mv (.const (.bool false))), none⟩])
    .ret)))
def r_ref09_Allows : List ARes := [(.tmp 4)]
theorem c_ref09_Allows : o2 Go.Proofs.Try.f14.body (comp Go.Proofs.Try.prog Go.Proofs.Try.f14.ntmps) = some a_ref09_Allows := by kernel_rfl
theorem s_ref09_Allows : cRess Go.Proofs.Try.prog Go.Proofs.Try.f14.results.toList = some r_ref09_Allows := by kernel_rfl
theorem m_ref09_Allows (C : Ctx) (hC : CtxOK C Go.Proofs.Try.prog) : Meets C.glob Go.Proofs.Try.prog 14 (afun C 2 r_ref09_Allows a_ref09_Allows) :=
  fn_sound hC Go.Proofs.Try.func14 c_ref09_Allows s_ref09_Allows (Nat.le_of_ble_eq_true (by kernel_rfl))

/-- curtilage/token.right -/
def a_token_right : ACode :=
 (.seq
  (.region false [⟨(some 2), (.mv (.const (.bool false))), none⟩])
  (.seq
   (.region false [⟨(some 3), (.mv (.tmp 0)), none⟩,
    ⟨(some 4), (.bin .geq (.tmp 3) (.const (it 1))), none⟩,
    ⟨(some 5), (.mv (.tmp 4)), none⟩,
    ⟨(some 6), (.mv (.tmp 0)), some (5, true)⟩,
    ⟨(some 7), (.bin .leq (.tmp 6) (.const (it 3))), some (5, true)⟩,
    ⟨(some 8), (.pick (.tmp 5) (.tmp 7) (.const (.bool false))), none⟩,
    ⟨(some 2), (.mv (.tmp 8)), none⟩])
   .ret))
def r_token_right : List ARes := [(.tmp 2)]
theorem c_token_right : o2 Go.Proofs.Try.f15.body (comp Go.Proofs.Try.prog Go.Proofs.Try.f15.ntmps) = some a_token_right := by kernel_rfl
theorem s_token_right : cRess Go.Proofs.Try.prog Go.Proofs.Try.f15.results.toList = some r_token_right := by kernel_rfl
theorem m_token_right (C : Ctx) (hC : CtxOK C Go.Proofs.Try.prog) : Meets C.glob Go.Proofs.Try.prog 15 (afun C 1 r_token_right a_token_right) :=
  fn_sound hC Go.Proofs.Try.func15 c_token_right s_token_right (Nat.le_of_ble_eq_true (by kernel_rfl))

/-- curtilage/curtilageref01.Num -/
def a_ref01_Num : ACode :=
 (.seq
  (.region false [⟨(some 4), (.mv (.const (.slice none 0 0))), none⟩])
  (.seq
   (.region false [⟨(some 7), (.mv (.tmp 1)), none⟩,
    ⟨(some 8), (.mks L8 1 (.raw (u8 0#8)) (.tmp 7) (.tmp 7)), none⟩,
    ⟨(some 5), (.mv (.tmp 8)), none⟩])
   (.seq
    (.seq
     (.region false [⟨(some 9), (.mv (.tmp 1)), none⟩,
      ⟨(some 10), (.bin .sub (.tmp 9) (.const (it 1))), none⟩,
      ⟨(some 6), (.mv (.tmp 10)), none⟩])
     (.block 0
      (.loop
       (.seq
        (.seq
         (.region false [⟨(some 11), (.mv (.tmp 6)), none⟩,
          ⟨(some 12), (.bin .geq (.tmp 11) (.const (it 0))), none⟩])
         (.cond (.tmp 12)
          .skip
          (.exit 0)))
        (.seq
         (.block 1
          (.seq
           (.region false [⟨(some 15), (.mv (.tmp 5)), none⟩,
            ⟨(some 16), (.mv (.tmp 6)), none⟩,
            ⟨(some 17), (.mv (.tmp 0)), none⟩,
            ⟨(some 18), (.bin .rem (.tmp 17) (.const (u64 256#64))), none⟩,
            ⟨(some 19), (.conv .u8 (.tmp 18)), none⟩,
            ⟨(some 20), (.iaddrs L8 (.tmp 15) (.tmp 16)), none⟩,
            ⟨none, (.store L8 (.tmp 20) (.tmp 19)), none⟩])
           (.region false [⟨(some 21), (.mv (.tmp 0)), none⟩,
            ⟨(some 22), (.bin .quo (.tmp 21) (.const (u64 256#64))), none⟩,
            ⟨(some 0), (.mv (.tmp 22)), none⟩])))
         (.region false [⟨(some 13), (.mv (.tmp 6)), none⟩,
          ⟨(some 14), (.bin .sub (.tmp 13) (.const (it 1))), none⟩,
          ⟨(some 6), (.mv (.tmp 14)), none⟩]))))))
    (.seq
     (.region false [⟨(some 23), (.mv (.tmp 5)), none⟩,
      ⟨(some 4), (.mv (.tmp 23)), none⟩])
     .ret))))
def r_ref01_Num : List ARes := [(.tmp 4)]
theorem c_ref01_Num : o2 Go.Proofs.Try.f16.body (comp Go.Proofs.Try.prog Go.Proofs.Try.f16.ntmps) = some a_ref01_Num := by kernel_rfl
theorem s_ref01_Num : cRess Go.Proofs.Try.prog Go.Proofs.Try.f16.results.toList = some r_ref01_Num := by kernel_rfl
theorem m_ref01_Num (C : Ctx) (hC : CtxOK C Go.Proofs.Try.prog) : Meets C.glob Go.Proofs.Try.prog 16 (afun C 2 r_ref01_Num a_ref01_Num) :=
  fn_sound hC Go.Proofs.Try.func16 c_ref01_Num s_ref01_Num (Nat.le_of_ble_eq_true (by kernel_rfl))

/-- bytes.HasPrefix -/
def a_bytes_HasPrefix : ACode :=
 (.seq
  (.region false [⟨(some 4), (.mv (.const (.bool false))), none⟩])
  (.seq
   (.region false [⟨(some 5), (.mv (.tmp 0)), none⟩,
    ⟨(some 6), (.len (.tmp 5)), none⟩,
    ⟨(some 7), (.mv (.tmp 1)), none⟩,
    ⟨(some 8), (.len (.tmp 7)), none⟩,
    ⟨(some 9), (.bin .geq (.tmp 6) (.tmp 8)), none⟩,
    ⟨(some 10), (.mv (.tmp 9)), none⟩,
    ⟨(some 11), (.mv (.tmp 0)), some (10, true)⟩,
    ⟨(some 12), (.mv (.tmp 1)), some (10, true)⟩,
    ⟨(some 13), (.len (.tmp 12)), some (10, true)⟩,
    ⟨(some 14), (.slice L8 (.tmp 11) none (some (.tmp 13)) none), some (10, true)⟩,
    ⟨(some 15), (.mv (.tmp 1)), some (10, true)⟩,
    ⟨(some 16), (.call 20 [(.tmp 14), (.tmp 15)]), some (10, true)⟩,
    ⟨(some 17), (.pick (.tmp 10) (.tmp 16) (.const (.bool false))), none⟩,
    ⟨(some 4), (.mv (.tmp 17)), none⟩])
   .ret))
def r_bytes_HasPrefix : List ARes := [(.tmp 4)]
theorem c_bytes_HasPrefix : o2 Go.Proofs.Try.f17.body (comp Go.Proofs.Try.prog Go.Proofs.Try.f17.ntmps) = some a_bytes_HasPrefix := by kernel_rfl
theorem s_bytes_HasPrefix : cRess Go.Proofs.Try.prog Go.Proofs.Try.f17.results.toList = some r_bytes_HasPrefix := by kernel_rfl
theorem m_bytes_HasPrefix (C : Ctx) (hC : CtxOK C Go.Proofs.Try.prog) : Meets C.glob Go.Proofs.Try.prog 17 (afun C 2 r_bytes_HasPrefix a_bytes_HasPrefix) :=
  fn_sound hC Go.Proofs.Try.func17 c_bytes_HasPrefix s_bytes_HasPrefix (Nat.le_of_ble_eq_true (by kernel_rfl))

/-- curtilage/token.num -/
def a_token_num : ACode :=
 (.seq
  (.region false [⟨(some 2), (.mv (.const (u32 0#32))), none⟩])
  (.seq
   (.region true [⟨(some 3), (.mv (.tmp 0)), none⟩,
    ⟨(some 4), (.iaddrs L8 (.tmp 3) (.const (it 0))), none⟩,
    ⟨(some 5), (.load L8 (.tmp 4)), none⟩,
    ⟨(some 6), (.conv .u32 (.tmp 5)), none⟩,
    ⟨(some 7), (.bin .shl (.tmp 6) (.const (u64 24#64))), none⟩,
    ⟨(some 8), (.mv (.tmp 0)), none⟩,
    ⟨(some 9), (.iaddrs L8 (.tmp 8) (.const (it 1))), none⟩,
    ⟨(some 10), (.load L8 (.tmp 9)), none⟩,
    ⟨(some 11), (.conv .u32 (.tmp 10)), none⟩,
    ⟨(some 12), (.bin .shl (.tmp 11) (.const (u64 16#64))), none⟩,
    ⟨(some 13), (.bin .or (.tmp 7) (.tmp 12)), none⟩,
    ⟨(some 14), (.mv (.tmp 0)), none⟩,
    ⟨(some 15), (.iaddrs L8 (.tmp 14) (.const (it 2))), none⟩,
    ⟨(some 16), (.load L8 (.tmp 15)), none⟩,
    ⟨(some 17), (.conv .u32 (.tmp 16)), none⟩,
    ⟨(some 18), (.bin .shl (.tmp 17) (.const (u64 8#64))), none⟩,
    ⟨(some 19), (.bin .or (.tmp 13) (.tmp 18)), none⟩,
    ⟨(some 20), (.mv (.tmp 0)), none⟩,
    ⟨(some 21), (.iaddrs L8 (.tmp 20) (.const (it 3))), none⟩,
    ⟨(some 22), (.load L8 (.tmp 21)), none⟩,
    ⟨(some 23), (.conv .u32 (.tmp 22)), none⟩,
    ⟨(some 24), (.bin .or (.tmp 19) (.tmp 23)), none⟩,
    ⟨(some 2), (.mv (.tmp 24)), none⟩])
   .ret))
def r_token_num : List ARes := [(.tmp 2)]
theorem c_token_num : o2 Go.Proofs.Try.f18.body (comp Go.Proofs.Try.prog Go.Proofs.Try.f18.ntmps) = some a_token_num := by kernel_rfl
theorem s_token_num : cRess Go.Proofs.Try.prog Go.Proofs.Try.f18.results.toList = some r_token_num := by kernel_rfl
theorem m_token_num (C : Ctx) (hC : CtxOK C Go.Proofs.Try.prog) : Meets C.glob Go.Proofs.Try.prog 18 (afun C 1 r_token_num a_token_num) :=
  fn_sound hC Go.Proofs.Try.func18 c_token_num s_token_num (Nat.le_of_ble_eq_true (by kernel_rfl))

/-- curtilage/curtilageref01.Value -/
def a_ref01_Value : ACode :=
 (.seq
  (.region false [⟨(some 2), (.mv (.const (u64 0#64))), none⟩])
  (.seq
   (.region false [⟨(some 3), (.mv (.const (u64 0#64))), none⟩])
   (.seq
    (.seq
     (.region false [⟨(some 6), (.mv (.tmp 0)), none⟩,
      ⟨(some 7), (.len (.tmp 6)), none⟩,
      ⟨(some 8), (.mv (.const (it 0))), none⟩])
     (.block 0
      (.loop
       (.seq
        (.region false [⟨(some 9), (.bin .lss (.tmp 8) (.tmp 7)), none⟩])
        (.seq
         (.cond (.tmp 9)
          .skip
          (.exit 0))
         (.seq
          (.block 1
           (.seq
            (.region false [⟨(some 10), (.iaddrs L8 (.tmp 6) (.tmp 8)), none⟩,
             ⟨(some 11), (.load L8 (.tmp 10)), none⟩,
             ⟨(some 5), (.mv (.tmp 11)), none⟩])
            (.region false [⟨(some 12), (.mv (.tmp 3)), none⟩,
             ⟨(some 13), (.bin .mul (.const (u64 256#64)) (.tmp 12)), none⟩,
             ⟨(some 14), (.mv (.tmp 5)), none⟩,
             ⟨(some 15), (.conv .u64 (.tmp 14)), none⟩,
             ⟨(some 16), (.bin .add (.tmp 13) (.tmp 15)), none⟩,
             ⟨(some 3), (.mv (.tmp 16)), none⟩])))
          (.region false [⟨(some 17), (.bin .add (.tmp 8) (.const (it 1))), none⟩,
           ⟨(some 8), (.mv (.tmp 17)), none⟩])))))))
    (.seq
     (.region false [⟨(some 18), (.mv (.tmp 3)), none⟩,
      ⟨(some 2), (.mv (.tmp 18)), none⟩])
     .ret))))
def r_ref01_Value : List ARes := [(.tmp 2)]
theorem c_ref01_Value : o2 Go.Proofs.Try.f19.body (comp Go.Proofs.Try.prog Go.Proofs.Try.f19.ntmps) = some a_ref01_Value := by kernel_rfl
theorem s_ref01_Value : cRess Go.Proofs.Try.prog Go.Proofs.Try.f19.results.toList = some r_ref01_Value := by kernel_rfl
theorem m_ref01_Value (C : Ctx) (hC : CtxOK C Go.Proofs.Try.prog) : Meets C.glob Go.Proofs.Try.prog 19 (afun C 1 r_ref01_Value a_ref01_Value) :=
  fn_sound hC Go.Proofs.Try.func19 c_ref01_Value s_ref01_Value (Nat.le_of_ble_eq_true (by kernel_rfl))

/-- bytes.Equal -/
def a_bytes_Equal : ACode :=
 (.seq
  (.region false [⟨(some 4), (.mv (.const (.bool false))), none⟩])
  (.seq
   (.region false [⟨(some 5), (.mv (.tmp 0)), none⟩,
    ⟨(some 6), (.b2s (.tmp 5)), none⟩,
    ⟨(some 7), (.mv (.tmp 1)), none⟩,
    ⟨(some 8), (.b2s (.tmp 7)), none⟩,
    ⟨(some 9), (.bin .eql (.tmp 6) (.tmp 8)), none⟩,
    ⟨(some 4), (.mv (.tmp 9)), none⟩])
   .ret))
def r_bytes_Equal : List ARes := [(.tmp 4)]
theorem c_bytes_Equal : o2 Go.Proofs.Try.f20.body (comp Go.Proofs.Try.prog Go.Proofs.Try.f20.ntmps) = some a_bytes_Equal := by kernel_rfl
theorem s_bytes_Equal : cRess Go.Proofs.Try.prog Go.Proofs.Try.f20.results.toList = some r_bytes_Equal := by kernel_rfl
theorem m_bytes_Equal (C : Ctx) (hC : CtxOK C Go.Proofs.Try.prog) : Meets C.glob Go.Proofs.Try.prog 20 (afun C 2 r_bytes_Equal a_bytes_Equal) :=
  fn_sound hC Go.Proofs.Try.func20 c_bytes_Equal s_bytes_Equal (Nat.le_of_ble_eq_true (by kernel_rfl))

end Go.Am.F
