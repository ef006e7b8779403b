/- The functions as the abstract machine has them: printed. -/
import Derived.Test.YtbkdhjecjdnoeaaDoorProg
import Derived.Test.YtbkdhjecjdnoeaaDoorAm24
namespace Go.Am.F
set_option linter.unusedVariables false
set_option linter.unusedSimpArgs false
abbrev S1 : Sh := .cons LI (.cons L32 (.cons (.ar 16 L8) .nil))
abbrev S2 : Sh := .cons L32 (.cons L32 (.cons (.ar 16 L8) (.cons (.ar 32 L8) .nil)))
abbrev S3 : Sh := .cons LI (.cons LI .nil)
abbrev S4 : Sh := .cons (.ar 16 L8) (.cons L32 .nil)
abbrev S5 : Sh := .cons LI (.cons LI (.cons LI .nil))
abbrev S6 : Sh := .cons (.ar 8 L32) (.cons (.ar 64 L8) (.cons L64 .nil))
/-- gosem.cut.init -/
def a_gosem_cut_init : ACode :=
 (.region false [⟨(some 0), .fail, none⟩])
def r_gosem_cut_init : List ARes := []
theorem c_gosem_cut_init : o2 Go.Proofs.Tryd.f2.body (comp Go.Proofs.Tryd.prog Go.Proofs.Tryd.f2.ntmps) = some a_gosem_cut_init := by kernel_rfl
theorem s_gosem_cut_init : cRess Go.Proofs.Tryd.prog Go.Proofs.Tryd.f2.results.toList = some r_gosem_cut_init := by kernel_rfl
theorem m_gosem_cut_init (C : Ctx) (hC : CtxOK C Go.Proofs.Tryd.prog) : Meets C.glob Go.Proofs.Tryd.prog 2 (afun C 0 r_gosem_cut_init a_gosem_cut_init) :=
  fn_sound hC Go.Proofs.Tryd.func2 c_gosem_cut_init s_gosem_cut_init (Nat.le_of_ble_eq_true (by kernel_rfl))

/-- curtilage/curtilagelaw09.TokenShort -/
def a_law09_TokenShort : ACode :=
 (.seq
  (.region false [⟨(some 6), (.box (.ar 16 L8) (.tmp 2)), none⟩,
   ⟨(some 8), (.mv (.const (.bool false))), none⟩])
  (.seq
   (.seq
    (.region false [⟨(some 12), (.call 4 []), none⟩,
     ⟨(some 13), (.un .not (.tmp 12)), none⟩])
    (.cond (.tmp 13)
     (.seq
      (.region false [⟨(some 8), (.mv (.const (.bool false))), none⟩])
      .ret)
     .skip))
   (.seq
    (.region false [⟨(some 14), (.mv (.tmp 0)), none⟩,
     ⟨(some 15), (.call 5 [(.tmp 14), (.const (it 60))]), none⟩,
     ⟨(some 16), (.mv (.tmp 1)), none⟩,
     ⟨(some 17), (.call 5 [(.tmp 16), (.const (it 40))]), none⟩,
     ⟨(some 0), (.mv (.tmp 15)), none⟩,
     ⟨(some 1), (.mv (.tmp 17)), none⟩])
    (.seq
     (.region false [⟨(some 9), (.mv (.const (it 2))), none⟩])
     (.seq
      (.seq
       (.region false [⟨(some 18), (.mv (.tmp 1)), none⟩,
        ⟨(some 19), (.len (.tmp 18)), none⟩,
        ⟨(some 20), (.bin .geq (.tmp 19) (.const (it 28))), none⟩])
       (.cond (.tmp 20)
        (.seq
         (.region false [⟨(some 22), (.mv (.tmp 1)), none⟩,
          ⟨(some 23), (.slice L8 (.tmp 22) none (some (.const (it 28))) none), none⟩,
          ⟨(some 24), (.call 6 [(.tmp 23)]), none⟩,
          ⟨(some 21), (.mv (.tmp 24)), none⟩,
          ⟨(some 25), (.ext (.tmp 21) 0), none⟩,
          ⟨(some 26), (.ext (.tmp 21) 1), none⟩,
          ⟨(some 9), (.mv (.tmp 26)), none⟩])
         (.seq
          (.region false [⟨(some 27), (.mv (.tmp 9)), none⟩,
           ⟨(some 28), (.bin .eql (.tmp 27) (.const (it 0))), none⟩])
          (.cond (.tmp 28)
           (.draw1 [⟨(some 29), (.mv (.tmp 0)), none⟩,
            ⟨(some 30), (.mv (.tmp 1)), none⟩,
            ⟨(some 31), (.slice L8 (.tmp 30) none (some (.const (it 28))) none), none⟩,
            ⟨(some 32), (.mv (.tmp 1)), none⟩,
            ⟨(some 33), (.slice L8 (.tmp 32) (some (.const (it 28))) none none), none⟩]
            [⟨(some 34), (.call 7 [(.tmp 29), (.tmp 31), (.tmp 33)]), none⟩,
            ⟨(some 9), (.mv (.tmp 34)), none⟩])
           .skip)))
        .skip))
      (.seq
       (.region false [⟨(some 36), (.mv (.tmp 0)), none⟩,
        ⟨(some 37), (.load (.ar 16 L8) (.tmp 6)), none⟩,
        ⟨(some 38), (.mv (.tmp 3)), none⟩,
        ⟨(some 39), (.mv (.tmp 1)), none⟩,
        ⟨(some 40), (.call 8 [(.tmp 36), (.tmp 37), (.tmp 38), (.tmp 39)]), none⟩,
        ⟨(some 35), (.mv (.tmp 40)), none⟩,
        ⟨(some 41), (.ext (.tmp 35) 0), none⟩,
        ⟨(some 42), (.ext (.tmp 35) 1), none⟩,
        ⟨(some 10), (.alloc S1 (.agg S1 [(.raw (it 0)), (.raw (u32 0#32)), (.agg (.ar 16 L8) (List.replicate 16 (.raw (u8 0#8))))])), none⟩,
        ⟨none, (.store S1 (.tmp 10) (.tmp 41)), none⟩,
        ⟨(some 11), (.mv (.tmp 42)), none⟩])
       (.seq
        (.region false [⟨(some 43), (.mv (.tmp 11)), none⟩,
         ⟨(some 44), (.mv (.tmp 9)), none⟩,
         ⟨(some 45), (.bin .eql (.tmp 43) (.tmp 44)), none⟩,
         ⟨(some 46), (.mv (.tmp 45)), none⟩,
         ⟨(some 47), (.mv (.tmp 9)), some (46, true)⟩,
         ⟨(some 48), (.bin .neq (.tmp 47) (.const (it 0))), some (46, true)⟩,
         ⟨(some 49), (.pick (.tmp 46) (.tmp 48) (.const (.bool false))), none⟩,
         ⟨(some 50), (.mv (.tmp 49)), none⟩,
         ⟨(some 51), (.load S1 (.tmp 10)), some (50, true)⟩,
         ⟨(some 52), (.build S1 [(.raw (it 0)), (.raw (u32 0#32)), (.agg (.ar 16 L8) (List.replicate 16 (.raw (u8 0#8))))] []), some (50, true)⟩,
         ⟨(some 53), (.eqa S1 false (.tmp 51) (.tmp 52)), some (50, true)⟩,
         ⟨(some 54), (.pick (.tmp 50) (.tmp 53) (.const (.bool false))), none⟩,
         ⟨(some 8), (.mv (.tmp 54)), none⟩])
        .ret)))))))
def r_law09_TokenShort : List ARes := [(.tmp 8)]
theorem c_law09_TokenShort : o2 Go.Proofs.Tryd.f3.body (comp Go.Proofs.Tryd.prog Go.Proofs.Tryd.f3.ntmps) = some a_law09_TokenShort := by kernel_rfl
theorem s_law09_TokenShort : cRess Go.Proofs.Tryd.prog Go.Proofs.Tryd.f3.results.toList = some r_law09_TokenShort := by kernel_rfl
theorem m_law09_TokenShort (C : Ctx) (hC : CtxOK C Go.Proofs.Tryd.prog) : Meets C.glob Go.Proofs.Tryd.prog 3 (afun C 4 r_law09_TokenShort a_law09_TokenShort) :=
  fn_sound hC Go.Proofs.Tryd.func3 c_law09_TokenShort s_law09_TokenShort (Nat.le_of_ble_eq_true (by kernel_rfl))

/-- curtilage/curtilagelaw09.awake -/
def a_law09_awake : ACode :=
 (.seq
  (.region false [⟨(some 0), (.mv (.const (.bool false))), none⟩])
  (.seq
   (.region false [⟨(some 6), (.build S1 [(.raw (it 0)), (.raw (u32 0#32)), (.agg (.ar 16 L8) (List.replicate 16 (.raw (u8 0#8))))] [(0, (.const (it 2))), (1, (.const (u32 7#32)))]), none⟩,
    ⟨(some 7), (.call 9 [(.tmp 6)]), none⟩,
    ⟨(some 5), (.mv (.tmp 7)), none⟩,
    ⟨(some 8), (.ext (.tmp 5) 0), none⟩,
    ⟨(some 9), (.ext (.tmp 5) 1), none⟩,
    ⟨(some 1), (.mv (.tmp 8)), none⟩,
    ⟨(some 2), (.mv (.tmp 9)), none⟩])
   (.seq
    (.region false [⟨(some 11), (.mv (.tmp 1)), none⟩,
     ⟨(some 12), (.call 10 [(.tmp 11)]), none⟩,
     ⟨(some 10), (.mv (.tmp 12)), none⟩,
     ⟨(some 13), (.ext (.tmp 10) 0), none⟩,
     ⟨(some 14), (.ext (.tmp 10) 1), none⟩,
     ⟨(some 3), (.alloc S1 (.agg S1 [(.raw (it 0)), (.raw (u32 0#32)), (.agg (.ar 16 L8) (List.replicate 16 (.raw (u8 0#8))))])), none⟩,
     ⟨none, (.store S1 (.tmp 3) (.tmp 13)), none⟩,
     ⟨(some 4), (.mv (.tmp 14)), none⟩])
    (.seq
     (.region false [⟨(some 15), (.mv (.tmp 2)), none⟩,
      ⟨(some 16), (.bin .eql (.tmp 15) (.const (it 0))), none⟩,
      ⟨(some 17), (.mv (.tmp 16)), none⟩,
      ⟨(some 18), (.mv (.tmp 4)), some (17, true)⟩,
      ⟨(some 19), (.bin .eql (.tmp 18) (.const (it 0))), some (17, true)⟩,
      ⟨(some 20), (.pick (.tmp 17) (.tmp 19) (.const (.bool false))), none⟩,
      ⟨(some 21), (.mv (.tmp 20)), none⟩,
      ⟨(some 22), (.faddr S1 (.tmp 3) 0), some (21, true)⟩,
      ⟨(some 23), (.load LI (.tmp 22)), some (21, true)⟩,
      ⟨(some 24), (.bin .eql (.tmp 23) (.const (it 2))), some (21, true)⟩,
      ⟨(some 25), (.pick (.tmp 21) (.tmp 24) (.const (.bool false))), none⟩,
      ⟨(some 26), (.mv (.tmp 25)), none⟩,
      ⟨(some 27), (.faddr S1 (.tmp 3) 1), some (26, true)⟩,
      ⟨(some 28), (.load L32 (.tmp 27)), some (26, true)⟩,
      ⟨(some 29), (.bin .eql (.tmp 28) (.const (u32 7#32))), some (26, true)⟩,
      ⟨(some 30), (.pick (.tmp 26) (.tmp 29) (.const (.bool false))), none⟩,
      ⟨(some 31), (.mv (.tmp 30)), none⟩,
      ⟨(some 32), (.mv (.tmp 1)), some (31, true)⟩,
      ⟨(some 33), (.len (.tmp 32)), some (31, true)⟩,
      ⟨(some 34), (.bin .eql (.tmp 33) (.const (it 28))), some (31, true)⟩,
      ⟨(some 35), (.pick (.tmp 31) (.tmp 34) (.const (.bool false))), none⟩,
      ⟨(some 36), (.mv (.tmp 35)), none⟩,
      ⟨(some 37), (.call 11 [(.const (it 2)), (.const (it 2))]), some (36, true)⟩,
      ⟨(some 38), (.pick (.tmp 36) (.tmp 37) (.const (.bool false))), none⟩,
      ⟨(some 39), (.mv (.tmp 38)), none⟩,
      ⟨(some 40), (.call 11 [(.const (it 3)), (.const (it 2))]), some (39, true)⟩,
      ⟨(some 41), (.un .not (.tmp 40)), some (39, true)⟩,
      ⟨(some 42), (.pick (.tmp 39) (.tmp 41) (.const (.bool false))), none⟩,
      ⟨(some 0), (.mv (.tmp 42)), none⟩])
     .ret))))
def r_law09_awake : List ARes := [(.tmp 0)]
theorem c_law09_awake : o2 Go.Proofs.Tryd.f4.body (comp Go.Proofs.Tryd.prog Go.Proofs.Tryd.f4.ntmps) = some a_law09_awake := by kernel_rfl
theorem s_law09_awake : cRess Go.Proofs.Tryd.prog Go.Proofs.Tryd.f4.results.toList = some r_law09_awake := by kernel_rfl
theorem m_law09_awake (C : Ctx) (hC : CtxOK C Go.Proofs.Tryd.prog) : Meets C.glob Go.Proofs.Tryd.prog 4 (afun C 0 r_law09_awake a_law09_awake) :=
  fn_sound hC Go.Proofs.Tryd.func4 c_law09_awake s_law09_awake (Nat.le_of_ble_eq_true (by kernel_rfl))

/-- curtilage/curtilageref01.Cut -/
def a_ref01_Cut : ACode :=
 (.seq
  (.region false [⟨(some 4), (.mv (.const (.slice none 0 0))), none⟩])
  (.seq
   (.region false [⟨(some 5), (.mv (.const (.slice none 0 0))), none⟩])
   (.seq
    (.seq
     (.region false [⟨(some 8), (.mv (.tmp 0)), none⟩,
      ⟨(some 9), (.len (.tmp 8)), none⟩,
      ⟨(some 10), (.mv (.const (it 0))), none⟩])
     (.block 0
      (.loop
       (.seq
        (.region false [⟨(some 11), (.bin .lss (.tmp 10) (.tmp 9)), none⟩])
        (.seq
         (.cond (.tmp 11)
          .skip
          (.exit 0))
         (.seq
          (.block 1
           (.seq
            (.region false [⟨(some 12), (.mv (.tmp 10)), none⟩,
             ⟨(some 13), (.iaddrs L8 (.tmp 8) (.tmp 10)), none⟩,
             ⟨(some 14), (.load L8 (.tmp 13)), none⟩,
             ⟨(some 6), (.mv (.tmp 12)), none⟩,
             ⟨(some 7), (.mv (.tmp 14)), none⟩])
            (.seq
             (.region false [⟨(some 15), (.mv (.tmp 6)), none⟩,
              ⟨(some 16), (.mv (.tmp 1)), none⟩,
              ⟨(some 17), (.bin .lss (.tmp 15) (.tmp 16)), none⟩])
             (.cond (.tmp 17)
              (.region false [⟨(some 18), (.mv (.tmp 5)), none⟩,
               ⟨(some 19), (.mv (.tmp 7)), none⟩,
               ⟨(some 20), (.bslice L8 1 (.raw (u8 0#8)) [(0, (.tmp 19))]), none⟩,
               ⟨(some 21), (.append L8 1 (.tmp 18) (.tmp 20)), none⟩,
               ⟨(some 5), (.mv (.tmp 21)), none⟩])
              .skip))))
          (.region false [⟨(some 22), (.bin .add (.tmp 10) (.const (it 1))), none⟩,
           ⟨(some 10), (.mv (.tmp 22)), none⟩])))))))
    (.seq
     (.region false [⟨(some 23), (.mv (.tmp 5)), none⟩,
      ⟨(some 4), (.mv (.tmp 23)), none⟩])
     .ret))))
def r_ref01_Cut : List ARes := [(.tmp 4)]
theorem c_ref01_Cut : o2 Go.Proofs.Tryd.f5.body (comp Go.Proofs.Tryd.prog Go.Proofs.Tryd.f5.ntmps) = some a_ref01_Cut := by kernel_rfl
theorem s_ref01_Cut : cRess Go.Proofs.Tryd.prog Go.Proofs.Tryd.f5.results.toList = some r_ref01_Cut := by kernel_rfl
theorem m_ref01_Cut (C : Ctx) (hC : CtxOK C Go.Proofs.Tryd.prog) : Meets C.glob Go.Proofs.Tryd.prog 5 (afun C 2 r_ref01_Cut a_ref01_Cut) :=
  fn_sound hC Go.Proofs.Tryd.func5 c_ref01_Cut s_ref01_Cut (Nat.le_of_ble_eq_true (by kernel_rfl))

/-- curtilage/curtilageref09.Parse -/
def a_ref09_Parse : ACode :=
 (.seq
  (.region false [⟨(some 2), (.alloc S1 (.agg S1 [(.raw (it 0)), (.raw (u32 0#32)), (.agg (.ar 16 L8) (List.replicate 16 (.raw (u8 0#8))))])), none⟩,
   ⟨(some 3), (.mv (.const (it 0))), none⟩])
  (.seq
   (.seq
    (.region false [⟨(some 5), (.mv (.tmp 0)), none⟩,
     ⟨(some 6), (.len (.tmp 5)), none⟩,
     ⟨(some 7), (.bin .neq (.tmp 6) (.const (it 28))), none⟩,
     ⟨(some 8), (.mv (.tmp 7)), none⟩,
     ⟨(some 9), (.mv (.tmp 0)), some (8, false)⟩,
     ⟨(some 10), (.slice L8 (.tmp 9) none (some (.const (it 4))) none), some (8, false)⟩,
     ⟨(some 11), (.b2s (.tmp 10)), some (8, false)⟩,
     ⟨(some 12), (.bin .neq (.tmp 11) (.const (.string ⟨#[84, 79, 75, 78]⟩))), some (8, false)⟩,
     ⟨(some 13), (.pick (.tmp 8) (.const (.bool true)) (.tmp 12)), none⟩])
    (.cond (.tmp 13)
     (.seq
      (.region false [⟨(some 14), (.build S1 [(.raw (it 0)), (.raw (u32 0#32)), (.agg (.ar 16 L8) (List.replicate 16 (.raw (u8 0#8))))] []), none⟩,
       ⟨none, (.store S1 (.tmp 2) (.tmp 14)), none⟩,
       ⟨(some 3), (.mv (.const (it 2))), none⟩])
      .ret)
     .skip))
   (.seq
    (.region true [⟨(some 15), (.mv (.tmp 0)), none⟩,
     ⟨(some 16), (.slice L8 (.tmp 15) (some (.const (it 4))) (some (.const (it 8))) none), none⟩,
     ⟨(some 17), (.call 12 [(.tmp 16)]), none⟩,
     ⟨(some 18), (.conv .i64 (.tmp 17)), none⟩,
     ⟨(some 19), (.mv (.tmp 0)), none⟩,
     ⟨(some 20), (.slice L8 (.tmp 19) (some (.const (it 8))) (some (.const (it 12))) none), none⟩,
     ⟨(some 21), (.call 12 [(.tmp 20)]), none⟩,
     ⟨(some 22), (.conv .u32 (.tmp 21)), none⟩,
     ⟨(some 23), (.mv (.tmp 0)), none⟩,
     ⟨(some 24), (.slice L8 (.tmp 23) (some (.const (it 12))) none none), none⟩,
     ⟨(some 25), (.s2a 16 L8 (.tmp 24)), none⟩,
     ⟨(some 26), (.load (.ar 16 L8) (.tmp 25)), none⟩,
     ⟨(some 27), (.build S1 [(.raw (it 0)), (.raw (u32 0#32)), (.agg (.ar 16 L8) (List.replicate 16 (.raw (u8 0#8))))] [(0, (.tmp 18)), (1, (.tmp 22)), (2, (.tmp 26))]), none⟩,
     ⟨(some 4), (.alloc S1 (.agg S1 [(.raw (it 0)), (.raw (u32 0#32)), (.agg (.ar 16 L8) (List.replicate 16 (.raw (u8 0#8))))])), none⟩,
     ⟨none, (.store S1 (.tmp 4) (.tmp 27)), none⟩])
    (.seq
     (.seq
      (.region false [⟨(some 28), (.faddr S1 (.tmp 4) 0), none⟩,
       ⟨(some 29), (.load LI (.tmp 28)), none⟩,
       ⟨(some 30), (.bin .lss (.tmp 29) (.const (it 1))), none⟩,
       ⟨(some 31), (.mv (.tmp 30)), none⟩,
       ⟨(some 32), (.faddr S1 (.tmp 4) 0), some (31, false)⟩,
       ⟨(some 33), (.load LI (.tmp 32)), some (31, false)⟩,
       ⟨(some 34), (.bin .gtr (.tmp 33) (.const (it 3))), some (31, false)⟩,
       ⟨(some 35), (.pick (.tmp 31) (.const (.bool true)) (.tmp 34)), none⟩])
      (.cond (.tmp 35)
       (.seq
        (.region false [⟨(some 36), (.build S1 [(.raw (it 0)), (.raw (u32 0#32)), (.agg (.ar 16 L8) (List.replicate 16 (.raw (u8 0#8))))] []), none⟩,
         ⟨none, (.store S1 (.tmp 2) (.tmp 36)), none⟩,
         ⟨(some 3), (.mv (.const (it 1))), none⟩])
        .ret)
       .skip))
     (.seq
      (.region false [⟨(some 37), (.load S1 (.tmp 4)), none⟩,
       ⟨none, (.store S1 (.tmp 2) (.tmp 37)), none⟩,
       ⟨(some 3), (.mv (.const (it 0))), none⟩])
      .ret)))))
def r_ref09_Parse : List ARes := [(.cell 2 S1), (.tmp 3)]
theorem c_ref09_Parse : o2 Go.Proofs.Tryd.f6.body (comp Go.Proofs.Tryd.prog Go.Proofs.Tryd.f6.ntmps) = some a_ref09_Parse := by kernel_rfl
theorem s_ref09_Parse : cRess Go.Proofs.Tryd.prog Go.Proofs.Tryd.f6.results.toList = some r_ref09_Parse := by kernel_rfl
theorem m_ref09_Parse (C : Ctx) (hC : CtxOK C Go.Proofs.Tryd.prog) : Meets C.glob Go.Proofs.Tryd.prog 6 (afun C 1 r_ref09_Parse a_ref09_Parse) :=
  fn_sound hC Go.Proofs.Tryd.func6 c_ref09_Parse s_ref09_Parse (Nat.le_of_ble_eq_true (by kernel_rfl))

/-- curtilage/lms.Verify -/
def a_lms_Verify : ACode :=
 (.seq
  (.region false [⟨(some 6), (.mv (.const (it 0))), none⟩])
  (.seq
   (.region false [⟨(some 12), (.mv (.tmp 0)), none⟩,
    ⟨(some 13), (.mv (.tmp 1)), none⟩,
    ⟨(some 14), (.mv (.tmp 2)), none⟩,
    ⟨(some 15), (.call 13 [(.tmp 12), (.tmp 13), (.tmp 14)]), none⟩,
    ⟨(some 11), (.mv (.tmp 15)), none⟩,
    ⟨(some 16), (.ext (.tmp 11) 0), none⟩,
    ⟨(some 17), (.ext (.tmp 11) 1), none⟩,
    ⟨(some 7), (.alloc (.ar 32 L8) (.agg (.ar 32 L8) (List.replicate 32 (.raw (u8 0#8))))), none⟩,
    ⟨none, (.store (.ar 32 L8) (.tmp 7) (.tmp 16)), none⟩,
    ⟨(some 8), (.mv (.tmp 17)), none⟩])
   (.seq
    (.seq
     (.region false [⟨(some 18), (.mv (.tmp 8)), none⟩,
      ⟨(some 19), (.bin .neq (.tmp 18) (.const (it 0))), none⟩])
     (.cond (.tmp 19)
      (.seq
       (.region false [⟨(some 20), (.mv (.tmp 8)), none⟩,
        ⟨(some 6), (.mv (.tmp 20)), none⟩])
       .ret)
      .skip))
    (.seq
     (.seq
      (.region false [⟨(some 22), (.mv (.tmp 0)), none⟩,
       ⟨(some 23), (.call 14 [(.tmp 22)]), none⟩,
       ⟨(some 21), (.mv (.tmp 23)), none⟩,
       ⟨(some 24), (.ext (.tmp 21) 0), none⟩,
       ⟨(some 25), (.ext (.tmp 21) 1), none⟩,
       ⟨(some 9), (.alloc S2 (.agg S2 [(.raw (u32 0#32)), (.raw (u32 0#32)), (.agg (.ar 16 L8) (List.replicate 16 (.raw (u8 0#8)))), (.agg (.ar 32 L8) (List.replicate 32 (.raw (u8 0#8))))])), none⟩,
       ⟨none, (.store S2 (.tmp 9) (.tmp 24)), none⟩,
       ⟨(some 10), (.mv (.tmp 25)), none⟩])
      (.seq
       (.region false [⟨(some 26), (.load (.ar 32 L8) (.tmp 7)), none⟩,
        ⟨(some 27), (.faddr S2 (.tmp 9) 3), none⟩,
        ⟨(some 28), (.load (.ar 32 L8) (.tmp 27)), none⟩,
        ⟨(some 29), (.eqa (.ar 32 L8) true (.tmp 26) (.tmp 28)), none⟩])
       (.cond (.tmp 29)
        (.seq
         (.region false [⟨(some 6), (.mv (.const (it 5))), none⟩])
         .ret)
        .skip)))
     (.seq
      (.region false [⟨(some 6), (.mv (.const (it 0))), none⟩])
      .ret)))))
def r_lms_Verify : List ARes := [(.tmp 6)]
theorem c_lms_Verify : o2 Go.Proofs.Tryd.f7.body (comp Go.Proofs.Tryd.prog Go.Proofs.Tryd.f7.ntmps) = some a_lms_Verify := by kernel_rfl
theorem s_lms_Verify : cRess Go.Proofs.Tryd.prog Go.Proofs.Tryd.f7.results.toList = some r_lms_Verify := by kernel_rfl
theorem m_lms_Verify (C : Ctx) (hC : CtxOK C Go.Proofs.Tryd.prog) : Meets C.glob Go.Proofs.Tryd.prog 7 (afun C 3 r_lms_Verify a_lms_Verify) :=
  fn_sound hC Go.Proofs.Tryd.func7 c_lms_Verify s_lms_Verify (Nat.le_of_ble_eq_true (by kernel_rfl))

/-- curtilage/token.Check -/
def a_token_Check : ACode :=
 (.seq
  (.region false [⟨(some 5), (.box (.ar 16 L8) (.tmp 1)), none⟩,
   ⟨(some 8), (.alloc S1 (.agg S1 [(.raw (it 0)), (.raw (u32 0#32)), (.agg (.ar 16 L8) (List.replicate 16 (.raw (u8 0#8))))])), none⟩,
   ⟨(some 9), (.mv (.const (it 0))), none⟩])
  (.seq
   (.seq
    (.region false [⟨(some 12), (.mv (.tmp 3)), none⟩,
     ⟨(some 13), (.len (.tmp 12)), none⟩,
     ⟨(some 14), (.bin .lss (.tmp 13) (.const (it 28))), none⟩])
    (.cond (.tmp 14)
     (.seq
      (.region false [⟨(some 15), (.build S1 [(.raw (it 0)), (.raw (u32 0#32)), (.agg (.ar 16 L8) (List.replicate 16 (.raw (u8 0#8))))] []), none⟩,
       ⟨none, (.store S1 (.tmp 8) (.tmp 15)), none⟩,
       ⟨(some 9), (.mv (.const (it 2))), none⟩])
      .ret)
     .skip))
   (.seq
    (.region false [⟨(some 17), (.mv (.tmp 3)), none⟩,
     ⟨(some 18), (.slice L8 (.tmp 17) none (some (.const (it 28))) none), none⟩,
     ⟨(some 19), (.call 10 [(.tmp 18)]), none⟩,
     ⟨(some 16), (.mv (.tmp 19)), none⟩,
     ⟨(some 20), (.ext (.tmp 16) 0), none⟩,
     ⟨(some 21), (.ext (.tmp 16) 1), none⟩,
     ⟨(some 10), (.alloc S1 (.agg S1 [(.raw (it 0)), (.raw (u32 0#32)), (.agg (.ar 16 L8) (List.replicate 16 (.raw (u8 0#8))))])), none⟩,
     ⟨none, (.store S1 (.tmp 10) (.tmp 20)), none⟩,
     ⟨(some 11), (.mv (.tmp 21)), none⟩])
    (.seq
     (.seq
      (.region false [⟨(some 22), (.mv (.tmp 11)), none⟩,
       ⟨(some 23), (.bin .eql (.tmp 22) (.const (it 0))), none⟩])
      (.cond (.tmp 23)
       (.draw1 [⟨(some 24), (.mv (.tmp 0)), none⟩,
        ⟨(some 25), (.mv (.tmp 3)), none⟩,
        ⟨(some 26), (.slice L8 (.tmp 25) none (some (.const (it 28))) none), none⟩,
        ⟨(some 27), (.mv (.tmp 3)), none⟩,
        ⟨(some 28), (.slice L8 (.tmp 27) (some (.const (it 28))) none none), none⟩]
        [⟨(some 29), (.call 7 [(.tmp 24), (.tmp 26), (.tmp 28)]), none⟩,
        ⟨(some 11), (.mv (.tmp 29)), none⟩])
       .skip))
     (.seq
      (.seq
       (.region false [⟨(some 30), (.mv (.tmp 11)), none⟩,
        ⟨(some 31), (.bin .eql (.tmp 30) (.const (it 0))), none⟩,
        ⟨(some 32), (.mv (.tmp 31)), none⟩,
        ⟨(some 33), (.faddr S1 (.tmp 10) 2), some (32, true)⟩,
        ⟨(some 34), (.load (.ar 16 L8) (.tmp 33)), some (32, true)⟩,
        ⟨(some 35), (.load (.ar 16 L8) (.tmp 5)), some (32, true)⟩,
        ⟨(some 36), (.eqa (.ar 16 L8) true (.tmp 34) (.tmp 35)), some (32, true)⟩,
        ⟨(some 37), (.mv (.tmp 36)), some (32, true)⟩,
        ⟨(some 38), (.faddr S1 (.tmp 10) 1), some (37, false)⟩,
        ⟨(some 39), (.load L32 (.tmp 38)), some (37, false)⟩,
        ⟨(some 40), (.mv (.tmp 2)), some (37, false)⟩,
        ⟨(some 41), (.bin .neq (.tmp 39) (.tmp 40)), some (37, false)⟩,
        ⟨(some 42), (.pick (.tmp 37) (.const (.bool true)) (.tmp 41)), some (32, true)⟩,
        ⟨(some 43), (.pick (.tmp 32) (.tmp 42) (.const (.bool false))), none⟩])
       (.cond (.tmp 43)
        (.region false [⟨(some 11), (.mv (.const (it 8))), none⟩])
        .skip))
      (.seq
       (.seq
        (.region false [⟨(some 44), (.mv (.tmp 11)), none⟩,
         ⟨(some 45), (.bin .neq (.tmp 44) (.const (it 0))), none⟩])
        (.cond (.tmp 45)
         (.seq
          (.region false [⟨(some 46), (.build S1 [(.raw (it 0)), (.raw (u32 0#32)), (.agg (.ar 16 L8) (List.replicate 16 (.raw (u8 0#8))))] []), none⟩,
           ⟨(some 47), (.mv (.tmp 11)), none⟩,
           ⟨none, (.store S1 (.tmp 8) (.tmp 46)), none⟩,
           ⟨(some 9), (.mv (.tmp 47)), none⟩])
          .ret)
         .skip))
       (.seq
        (.region false [⟨(some 48), (.load S1 (.tmp 10)), none⟩,
         ⟨none, (.store S1 (.tmp 8) (.tmp 48)), none⟩,
         ⟨(some 9), (.mv (.const (it 0))), none⟩])
        .ret)))))))
def r_token_Check : List ARes := [(.cell 8 S1), (.tmp 9)]
theorem c_token_Check : o2 Go.Proofs.Tryd.f8.body (comp Go.Proofs.Tryd.prog Go.Proofs.Tryd.f8.ntmps) = some a_token_Check := by kernel_rfl
theorem s_token_Check : cRess Go.Proofs.Tryd.prog Go.Proofs.Tryd.f8.results.toList = some r_token_Check := by kernel_rfl
theorem m_token_Check (C : Ctx) (hC : CtxOK C Go.Proofs.Tryd.prog) : Meets C.glob Go.Proofs.Tryd.prog 8 (afun C 4 r_token_Check a_token_Check) :=
  fn_sound hC Go.Proofs.Tryd.func8 c_token_Check s_token_Check (Nat.le_of_ble_eq_true (by kernel_rfl))

/-- (curtilage/token.Token).Body -/
def a_token_Token_Body : ACode :=
 (.seq
  (.region false [⟨(some 1), (.box S1 (.tmp 0)), none⟩,
   ⟨(some 2), (.mv (.const (.slice none 0 0))), none⟩,
   ⟨(some 3), (.mv (.const (it 0))), none⟩])
  (.seq
   (.seq
    (.region false [⟨(some 7), (.faddr S1 (.tmp 1) 0), none⟩,
     ⟨(some 8), (.load LI (.tmp 7)), none⟩,
     ⟨(some 9), (.call 15 [(.tmp 8)]), none⟩,
     ⟨(some 10), (.un .not (.tmp 9)), none⟩])
    (.cond (.tmp 10)
     (.seq
      (.region false [⟨(some 2), (.mv (.const (.slice none 0 0))), none⟩,
       ⟨(some 3), (.mv (.const (it 1))), none⟩])
      .ret)
     .skip))
   (.seq
    (.region false [⟨(some 11), (.bslice L8 4 (.raw (u8 0#8)) [(0, (.const (u8 84#8))), (1, (.const (u8 79#8))), (2, (.const (u8 75#8))), (3, (.const (u8 78#8)))]), none⟩,
     ⟨(some 12), (.frzb L8 (.tmp 11)), none⟩,
     ⟨(some 4), (.mv (.tmp 12)), none⟩])
    (.seq
     (.seq
      (.region false [⟨(some 13), (.faddr S1 (.tmp 1) 0), none⟩,
       ⟨(some 14), (.load LI (.tmp 13)), none⟩,
       ⟨(some 15), (.conv .u32 (.tmp 14)), none⟩,
       ⟨(some 16), (.faddr S1 (.tmp 1) 1), none⟩,
       ⟨(some 17), (.load L32 (.tmp 16)), none⟩,
       ⟨(some 18), (.bslice L32 2 (.raw (u32 0#32)) [(0, (.tmp 15)), (1, (.tmp 17))]), none⟩,
       ⟨(some 19), (.len (.tmp 18)), none⟩,
       ⟨(some 20), (.mv (.const (it 0))), none⟩])
      (.block 0
       (.loop
        (.seq
         (.region false [⟨(some 21), (.bin .lss (.tmp 20) (.tmp 19)), none⟩])
         (.seq
          (.cond (.tmp 21)
           .skip
           (.exit 0))
          (.seq
           (.block 1
            (.seq
             (.region false [⟨(some 22), (.iaddrs L32 (.tmp 18) (.tmp 20)), none⟩,
              ⟨(some 23), (.load L32 (.tmp 22)), none⟩,
              ⟨(some 6), (.mv (.tmp 23)), none⟩])
             (.region false [⟨(some 24), (.mv (.tmp 4)), none⟩,
              ⟨(some 25), (.mv (.tmp 6)), none⟩,
              ⟨(some 26), (.bin .shr (.tmp 25) (.const (u64 24#64))), none⟩,
              ⟨(some 27), (.conv .u8 (.tmp 26)), none⟩,
              ⟨(some 28), (.mv (.tmp 6)), none⟩,
              ⟨(some 29), (.bin .shr (.tmp 28) (.const (u64 16#64))), none⟩,
              ⟨(some 30), (.conv .u8 (.tmp 29)), none⟩,
              ⟨(some 31), (.mv (.tmp 6)), none⟩,
              ⟨(some 32), (.bin .shr (.tmp 31) (.const (u64 8#64))), none⟩,
              ⟨(some 33), (.conv .u8 (.tmp 32)), none⟩,
              ⟨(some 34), (.mv (.tmp 6)), none⟩,
              ⟨(some 35), (.conv .u8 (.tmp 34)), none⟩,
              ⟨(some 36), (.bslice L8 4 (.raw (u8 0#8)) [(0, (.tmp 27)), (1, (.tmp 30)), (2, (.tmp 33)), (3, (.tmp 35))]), none⟩,
              ⟨(some 37), (.append L8 1 (.tmp 24) (.tmp 36)), none⟩,
              ⟨(some 4), (.mv (.tmp 37)), none⟩])))
           (.region false [⟨(some 38), (.bin .add (.tmp 20) (.const (it 1))), none⟩,
            ⟨(some 20), (.mv (.tmp 38)), none⟩])))))))
     (.seq
      (.region false [⟨(some 39), (.mv (.tmp 4)), none⟩,
       ⟨(some 40), (.faddr S1 (.tmp 1) 2), none⟩,
       ⟨(some 41), (.slicea 16 L8 (.tmp 40) none none none), none⟩,
       ⟨(some 42), (.append L8 1 (.tmp 39) (.tmp 41)), none⟩,
       ⟨(some 2), (.mv (.tmp 42)), none⟩,
       ⟨(some 3), (.mv (.const (it 0))), none⟩])
      .ret)))))
def r_token_Token_Body : List ARes := [(.tmp 2), (.tmp 3)]
theorem c_token_Token_Body : o2 Go.Proofs.Tryd.f9.body (comp Go.Proofs.Tryd.prog Go.Proofs.Tryd.f9.ntmps) = some a_token_Token_Body := by kernel_rfl
theorem s_token_Token_Body : cRess Go.Proofs.Tryd.prog Go.Proofs.Tryd.f9.results.toList = some r_token_Token_Body := by kernel_rfl
theorem m_token_Token_Body (C : Ctx) (hC : CtxOK C Go.Proofs.Tryd.prog) : Meets C.glob Go.Proofs.Tryd.prog 9 (afun C 1 r_token_Token_Body a_token_Token_Body) :=
  fn_sound hC Go.Proofs.Tryd.func9 c_token_Token_Body s_token_Token_Body (Nat.le_of_ble_eq_true (by kernel_rfl))

/-- curtilage/token.Parse -/
def a_token_Parse : ACode :=
 (.seq
  (.region false [⟨(some 2), (.alloc S1 (.agg S1 [(.raw (it 0)), (.raw (u32 0#32)), (.agg (.ar 16 L8) (List.replicate 16 (.raw (u8 0#8))))])), none⟩,
   ⟨(some 3), (.mv (.const (it 0))), none⟩])
  (.seq
   (.seq
    (.region false [⟨(some 5), (.mv (.tmp 0)), none⟩,
     ⟨(some 6), (.len (.tmp 5)), none⟩,
     ⟨(some 7), (.bin .neq (.tmp 6) (.const (it 28))), none⟩,
     ⟨(some 8), (.mv (.tmp 7)), none⟩,
     ⟨(some 9), (.mv (.tmp 0)), some (8, false)⟩,
     ⟨(some 10), (.bslice L8 4 (.raw (u8 0#8)) [(0, (.const (u8 84#8))), (1, (.const (u8 79#8))), (2, (.const (u8 75#8))), (3, (.const (u8 78#8)))]), some (8, false)⟩,
     ⟨(some 11), (.frzb L8 (.tmp 10)), some (8, false)⟩,
     ⟨(some 12), (.call 16 [(.tmp 9), (.tmp 11)]), some (8, false)⟩,
     ⟨(some 13), (.un .not (.tmp 12)), some (8, false)⟩,
     ⟨(some 14), (.pick (.tmp 8) (.const (.bool true)) (.tmp 13)), none⟩])
    (.cond (.tmp 14)
     (.seq
      (.region false [⟨(some 15), (.build S1 [(.raw (it 0)), (.raw (u32 0#32)), (.agg (.ar 16 L8) (List.replicate 16 (.raw (u8 0#8))))] []), none⟩,
       ⟨none, (.store S1 (.tmp 2) (.tmp 15)), none⟩,
       ⟨(some 3), (.mv (.const (it 2))), none⟩])
      .ret)
     .skip))
   (.seq
    (.region true [⟨(some 16), (.mv (.tmp 0)), none⟩,
     ⟨(some 17), (.slice L8 (.tmp 16) (some (.const (it 4))) none none), none⟩,
     ⟨(some 18), (.call 17 [(.tmp 17)]), none⟩,
     ⟨(some 19), (.conv .i64 (.tmp 18)), none⟩,
     ⟨(some 20), (.mv (.tmp 0)), none⟩,
     ⟨(some 21), (.slice L8 (.tmp 20) (some (.const (it 8))) none none), none⟩,
     ⟨(some 22), (.call 17 [(.tmp 21)]), none⟩,
     ⟨(some 23), (.mv (.tmp 0)), none⟩,
     ⟨(some 24), (.slice L8 (.tmp 23) (some (.const (it 12))) none none), none⟩,
     ⟨(some 25), (.s2a 16 L8 (.tmp 24)), none⟩,
     ⟨(some 26), (.load (.ar 16 L8) (.tmp 25)), none⟩,
     ⟨(some 27), (.build S1 [(.raw (it 0)), (.raw (u32 0#32)), (.agg (.ar 16 L8) (List.replicate 16 (.raw (u8 0#8))))] [(0, (.tmp 19)), (1, (.tmp 22)), (2, (.tmp 26))]), none⟩,
     ⟨(some 4), (.alloc S1 (.agg S1 [(.raw (it 0)), (.raw (u32 0#32)), (.agg (.ar 16 L8) (List.replicate 16 (.raw (u8 0#8))))])), none⟩,
     ⟨none, (.store S1 (.tmp 4) (.tmp 27)), none⟩])
    (.seq
     (.seq
      (.region false [⟨(some 28), (.faddr S1 (.tmp 4) 0), none⟩,
       ⟨(some 29), (.load LI (.tmp 28)), none⟩,
       ⟨(some 30), (.call 15 [(.tmp 29)]), none⟩,
       ⟨(some 31), (.un .not (.tmp 30)), none⟩])
      (.cond (.tmp 31)
       (.seq
        (.region false [⟨(some 32), (.build S1 [(.raw (it 0)), (.raw (u32 0#32)), (.agg (.ar 16 L8) (List.replicate 16 (.raw (u8 0#8))))] []), none⟩,
         ⟨none, (.store S1 (.tmp 2) (.tmp 32)), none⟩,
         ⟨(some 3), (.mv (.const (it 1))), none⟩])
        .ret)
       .skip))
     (.seq
      (.region false [⟨(some 33), (.load S1 (.tmp 4)), none⟩,
       ⟨none, (.store S1 (.tmp 2) (.tmp 33)), none⟩,
       ⟨(some 3), (.mv (.const (it 0))), none⟩])
      .ret)))))
def r_token_Parse : List ARes := [(.cell 2 S1), (.tmp 3)]
theorem c_token_Parse : o2 Go.Proofs.Tryd.f10.body (comp Go.Proofs.Tryd.prog Go.Proofs.Tryd.f10.ntmps) = some a_token_Parse := by kernel_rfl
theorem s_token_Parse : cRess Go.Proofs.Tryd.prog Go.Proofs.Tryd.f10.results.toList = some r_token_Parse := by kernel_rfl
theorem m_token_Parse (C : Ctx) (hC : CtxOK C Go.Proofs.Tryd.prog) : Meets C.glob Go.Proofs.Tryd.prog 10 (afun C 1 r_token_Parse a_token_Parse) :=
  fn_sound hC Go.Proofs.Tryd.func10 c_token_Parse s_token_Parse (Nat.le_of_ble_eq_true (by kernel_rfl))

/-- curtilage/token.Allows -/
def a_token_Allows : ACode :=
 (.seq
  (.region false [⟨(some 4), (.mv (.const (.bool false))), none⟩])
  (.seq
   (.seq
    (.region false [⟨(some 5), (.mv (.tmp 0)), none⟩,
     ⟨(some 6), (.mv (.tmp 1)), none⟩,
     ⟨(some 7), (.build S3 [(.raw (it 0)), (.raw (it 0))] [(0, (.tmp 5)), (1, (.tmp 6))]), none⟩])
    (.block 0
     (.seq
      (.seq
       (.region false [⟨(some 9), (.build S3 [(.raw (it 0)), (.raw (it 0))] [(0, (.const (it 1))), (1, (.const (it 1)))]), none⟩,
        ⟨(some 10), (.eqa S3 false (.tmp 7) (.tmp 9)), none⟩,
        ⟨(some 8), (.mv (.tmp 10)), none⟩])
       (.cond (.tmp 8)
        .skip
        (.seq
         (.region false [⟨(some 11), (.build S3 [(.raw (it 0)), (.raw (it 0))] [(0, (.const (it 2))), (1, (.const (it 1)))]), none⟩,
          ⟨(some 12), (.eqa S3 false (.tmp 7) (.tmp 11)), none⟩,
          ⟨(some 8), (.mv (.tmp 12)), none⟩])
         (.cond (.tmp 8)
          .skip
          (.region false [⟨(some 13), (.build S3 [(.raw (it 0)), (.raw (it 0))] [(0, (.const (it 3))), (1, (.const (it 1)))]), none⟩,
           ⟨(some 14), (.eqa S3 false (.tmp 7) (.tmp 13)), none⟩,
           ⟨(some 8), (.mv (.tmp 14)), none⟩])))))
      (.cond (.tmp 8)
       (.seq
        (.region false [⟨(some 4), (.mv (.const (.bool true))), none⟩])
        .ret)
       (.seq
        (.seq
         (.region false [⟨(some 16), (.build S3 [(.raw (it 0)), (.raw (it 0))] [(0, (.const (it 1))), (1, (.const (it 2)))]), none⟩,
          ⟨(some 17), (.eqa S3 false (.tmp 7) (.tmp 16)), none⟩,
          ⟨(some 15), (.mv (.tmp 17)), none⟩])
         (.cond (.tmp 15)
          .skip
          (.region false [⟨(some 18), (.build S3 [(.raw (it 0)), (.raw (it 0))] [(0, (.const (it 2))), (1, (.const (it 2)))]), none⟩,
           ⟨(some 19), (.eqa S3 false (.tmp 7) (.tmp 18)), none⟩,
           ⟨(some 15), (.mv (.tmp 19)), none⟩])))
        (.cond (.tmp 15)
         (.seq
          (.region false [⟨(some 4), (.mv (.const (.bool true))), none⟩])
          .ret)
         (.seq
          (.seq
           (.region false [⟨(some 21), (.build S3 [(.raw (it 0)), (.raw (it 0))] [(0, (.const (it 1))), (1, (.const (it 3)))]), none⟩,
            ⟨(some 22), (.eqa S3 false (.tmp 7) (.tmp 21)), none⟩,
            ⟨(some 20), (.mv (.tmp 22)), none⟩])
           (.cond (.tmp 20)
            .skip
            (.seq
             (.region false [⟨(some 23), (.build S3 [(.raw (it 0)), (.raw (it 0))] [(0, (.const (it 2))), (1, (.const (it 3)))]), none⟩,
              ⟨(some 24), (.eqa S3 false (.tmp 7) (.tmp 23)), none⟩,
              ⟨(some 20), (.mv (.tmp 24)), none⟩])
             (.cond (.tmp 20)
              .skip
              (.region false [⟨(some 25), (.build S3 [(.raw (it 0)), (.raw (it 0))] [(0, (.const (it 3))), (1, (.const (it 3)))]), none⟩,
               ⟨(some 26), (.eqa S3 false (.tmp 7) (.tmp 25)), none⟩,
               ⟨(some 20), (.mv (.tmp 26)), none⟩])))))
          (.cond (.tmp 20)
           (.seq
            (.region false [⟨(some 4), (.mv (.const (.bool true))), none⟩])
            .ret)
           .skip))))))))
   (.seq
    (.region false [⟨(some 4), (.mv (.const (.bool false))), none⟩])
    .ret)))
def r_token_Allows : List ARes := [(.tmp 4)]
theorem c_token_Allows : o2 Go.Proofs.Tryd.f11.body (comp Go.Proofs.Tryd.prog Go.Proofs.Tryd.f11.ntmps) = some a_token_Allows := by kernel_rfl
theorem s_token_Allows : cRess Go.Proofs.Tryd.prog Go.Proofs.Tryd.f11.results.toList = some r_token_Allows := by kernel_rfl
theorem m_token_Allows (C : Ctx) (hC : CtxOK C Go.Proofs.Tryd.prog) : Meets C.glob Go.Proofs.Tryd.prog 11 (afun C 2 r_token_Allows a_token_Allows) :=
  fn_sound hC Go.Proofs.Tryd.func11 c_token_Allows s_token_Allows (Nat.le_of_ble_eq_true (by kernel_rfl))

/-- curtilage/curtilageref01.Value -/
def a_ref01_Value : ACode :=
 (.seq
  (.region false [⟨(some 2), (.mv (.const (u64 0#64))), none⟩])
  (.seq
   (.region false [⟨(some 3), (.mv (.const (u64 0#64))), none⟩])
   (.seq
    (.seq
     (.region false [⟨(some 6), (.mv (.tmp 0)), none⟩,
      ⟨(some 7), (.len (.tmp 6)), none⟩,
      ⟨(some 8), (.mv (.const (it 0))), none⟩])
     (.block 0
      (.loop
       (.seq
        (.region false [⟨(some 9), (.bin .lss (.tmp 8) (.tmp 7)), none⟩])
        (.seq
         (.cond (.tmp 9)
          .skip
          (.exit 0))
         (.seq
          (.block 1
           (.seq
            (.region false [⟨(some 10), (.iaddrs L8 (.tmp 6) (.tmp 8)), none⟩,
             ⟨(some 11), (.load L8 (.tmp 10)), none⟩,
             ⟨(some 5), (.mv (.tmp 11)), none⟩])
            (.region false [⟨(some 12), (.mv (.tmp 3)), none⟩,
             ⟨(some 13), (.bin .mul (.const (u64 256#64)) (.tmp 12)), none⟩,
             ⟨(some 14), (.mv (.tmp 5)), none⟩,
             ⟨(some 15), (.conv .u64 (.tmp 14)), none⟩,
             ⟨(some 16), (.bin .add (.tmp 13) (.tmp 15)), none⟩,
             ⟨(some 3), (.mv (.tmp 16)), none⟩])))
          (.region false [⟨(some 17), (.bin .add (.tmp 8) (.const (it 1))), none⟩,
           ⟨(some 8), (.mv (.tmp 17)), none⟩])))))))
    (.seq
     (.region false [⟨(some 18), (.mv (.tmp 3)), none⟩,
      ⟨(some 2), (.mv (.tmp 18)), none⟩])
     .ret))))
def r_ref01_Value : List ARes := [(.tmp 2)]
theorem c_ref01_Value : o2 Go.Proofs.Tryd.f12.body (comp Go.Proofs.Tryd.prog Go.Proofs.Tryd.f12.ntmps) = some a_ref01_Value := by kernel_rfl
theorem s_ref01_Value : cRess Go.Proofs.Tryd.prog Go.Proofs.Tryd.f12.results.toList = some r_ref01_Value := by kernel_rfl
theorem m_ref01_Value (C : Ctx) (hC : CtxOK C Go.Proofs.Tryd.prog) : Meets C.glob Go.Proofs.Tryd.prog 12 (afun C 1 r_ref01_Value a_ref01_Value) :=
  fn_sound hC Go.Proofs.Tryd.func12 c_ref01_Value s_ref01_Value (Nat.le_of_ble_eq_true (by kernel_rfl))

/-- curtilage/lms.Root -/
def a_lms_Root : ACode :=
 (.seq
  (.region false [⟨(some 6), (.alloc (.ar 32 L8) (.agg (.ar 32 L8) (List.replicate 32 (.raw (u8 0#8))))), none⟩,
   ⟨(some 7), (.mv (.const (it 0))), none⟩])
  (.seq
   (.region false [⟨(some 21), (.mv (.tmp 0)), none⟩,
    ⟨(some 22), (.call 14 [(.tmp 21)]), none⟩,
    ⟨(some 20), (.mv (.tmp 22)), none⟩,
    ⟨(some 23), (.ext (.tmp 20) 0), none⟩,
    ⟨(some 24), (.ext (.tmp 20) 1), none⟩,
    ⟨(some 8), (.alloc S2 (.agg S2 [(.raw (u32 0#32)), (.raw (u32 0#32)), (.agg (.ar 16 L8) (List.replicate 16 (.raw (u8 0#8)))), (.agg (.ar 32 L8) (List.replicate 32 (.raw (u8 0#8))))])), none⟩,
    ⟨none, (.store S2 (.tmp 8) (.tmp 23)), none⟩,
    ⟨(some 9), (.mv (.tmp 24)), none⟩])
   (.seq
    (.seq
     (.region false [⟨(some 25), (.mv (.tmp 9)), none⟩,
      ⟨(some 26), (.bin .neq (.tmp 25) (.const (it 0))), none⟩])
     (.cond (.tmp 26)
      (.seq
       (.region false [⟨(some 27), (.build (.ar 32 L8) (List.replicate 32 (.raw (u8 0#8))) []), none⟩,
        ⟨(some 28), (.mv (.tmp 9)), none⟩,
        ⟨none, (.store (.ar 32 L8) (.tmp 6) (.tmp 27)), none⟩,
        ⟨(some 7), (.mv (.tmp 28)), none⟩])
       .ret)
      .skip))
    (.seq
     (.region false [⟨(some 30), (.mv (.tmp 2)), none⟩,
      ⟨(some 31), (.call 18 [(.tmp 30)]), none⟩,
      ⟨(some 29), (.mv (.tmp 31)), none⟩,
      ⟨(some 32), (.ext (.tmp 29) 0), none⟩,
      ⟨(some 33), (.ext (.tmp 29) 1), none⟩,
      ⟨(some 34), (.ext (.tmp 29) 2), none⟩,
      ⟨(some 35), (.ext (.tmp 29) 3), none⟩,
      ⟨(some 36), (.ext (.tmp 29) 4), none⟩,
      ⟨(some 10), (.mv (.tmp 32)), none⟩,
      ⟨(some 11), (.mv (.tmp 33)), none⟩,
      ⟨(some 12), (.mv (.tmp 34)), none⟩,
      ⟨(some 13), (.mv (.tmp 35)), none⟩,
      ⟨(some 9), (.mv (.tmp 36)), none⟩])
     (.seq
      (.block 0
       (.seq
        (.region false [⟨(some 38), (.mv (.tmp 9)), none⟩,
         ⟨(some 39), (.bin .neq (.tmp 38) (.const (it 0))), none⟩,
         ⟨(some 37), (.mv (.tmp 39)), none⟩])
        (.cond (.tmp 37)
         (.seq
          (.region false [⟨(some 40), (.build (.ar 32 L8) (List.replicate 32 (.raw (u8 0#8))) []), none⟩,
           ⟨(some 41), (.mv (.tmp 9)), none⟩,
           ⟨none, (.store (.ar 32 L8) (.tmp 6) (.tmp 40)), none⟩,
           ⟨(some 7), (.mv (.tmp 41)), none⟩])
          .ret)
         (.seq
          (.region true [⟨(some 43), (.mv (.tmp 12)), none⟩,
           ⟨(some 44), (.faddr S2 (.tmp 8) 0), none⟩,
           ⟨(some 45), (.load L32 (.tmp 44)), none⟩,
           ⟨(some 46), (.bin .neq (.tmp 43) (.tmp 45)), none⟩,
           ⟨(some 47), (.mv (.tmp 46)), none⟩,
           ⟨(some 48), (.mv (.tmp 11)), some (47, false)⟩,
           ⟨(some 49), (.call 19 [(.tmp 48)]), some (47, false)⟩,
           ⟨(some 50), (.faddr S2 (.tmp 8) 1), some (47, false)⟩,
           ⟨(some 51), (.load L32 (.tmp 50)), some (47, false)⟩,
           ⟨(some 52), (.bin .neq (.tmp 49) (.tmp 51)), some (47, false)⟩,
           ⟨(some 53), (.pick (.tmp 47) (.const (.bool true)) (.tmp 52)), none⟩,
           ⟨(some 42), (.mv (.tmp 53)), none⟩])
          (.cond (.tmp 42)
           (.seq
            (.region false [⟨(some 54), (.build (.ar 32 L8) (List.replicate 32 (.raw (u8 0#8))) []), none⟩,
             ⟨none, (.store (.ar 32 L8) (.tmp 6) (.tmp 54)), none⟩,
             ⟨(some 7), (.mv (.const (it 6))), none⟩])
            .ret)
           .skip)))))
      (.seq
       (.region false [⟨(some 56), (.faddr S2 (.tmp 8) 2), none⟩,
        ⟨(some 57), (.load (.ar 16 L8) (.tmp 56)), none⟩,
        ⟨(some 58), (.mv (.tmp 10)), none⟩,
        ⟨(some 59), (.build S4 [(.agg (.ar 16 L8) (List.replicate 16 (.raw (u8 0#8)))), (.raw (u32 0#32))] [(0, (.tmp 57)), (1, (.tmp 58))]), none⟩,
        ⟨(some 60), (.mv (.tmp 11)), none⟩,
        ⟨(some 61), (.mv (.tmp 1)), none⟩,
        ⟨(some 62), (.call 20 [(.tmp 59), (.tmp 60), (.tmp 61)]), none⟩,
        ⟨(some 55), (.mv (.tmp 62)), none⟩,
        ⟨(some 63), (.ext (.tmp 55) 0), none⟩,
        ⟨(some 64), (.ext (.tmp 55) 1), none⟩,
        ⟨(some 14), (.alloc (.ar 32 L8) (.agg (.ar 32 L8) (List.replicate 32 (.raw (u8 0#8))))), none⟩,
        ⟨none, (.store (.ar 32 L8) (.tmp 14) (.tmp 63)), none⟩,
        ⟨(some 15), (.mv (.tmp 64)), none⟩])
       (.seq
        (.region false [⟨(some 65), (.mv (.tmp 10)), none⟩,
         ⟨(some 66), (.mv (.tmp 13)), none⟩,
         ⟨(some 67), (.len (.tmp 66)), none⟩,
         ⟨(some 68), (.bin .shl (.const (u32 1#32)) (.tmp 67)), none⟩,
         ⟨(some 69), (.bin .add (.tmp 65) (.tmp 68)), none⟩,
         ⟨(some 16), (.mv (.tmp 69)), none⟩])
        (.seq
         (.region false [⟨(some 70), (.faddr S2 (.tmp 8) 2), none⟩,
          ⟨(some 71), (.load (.ar 16 L8) (.tmp 70)), none⟩,
          ⟨(some 72), (.mv (.tmp 16)), none⟩,
          ⟨(some 73), (.load (.ar 32 L8) (.tmp 14)), none⟩,
          ⟨(some 74), (.call 21 [(.tmp 71), (.tmp 72), (.tmp 73)]), none⟩,
          ⟨(some 17), (.alloc (.ar 32 L8) (.agg (.ar 32 L8) (List.replicate 32 (.raw (u8 0#8))))), none⟩,
          ⟨none, (.store (.ar 32 L8) (.tmp 17) (.tmp 74)), none⟩])
         (.seq
          (.seq
           (.region false [⟨(some 75), (.mv (.tmp 13)), none⟩,
            ⟨(some 76), (.len (.tmp 75)), none⟩,
            ⟨(some 77), (.mv (.const (it 0))), none⟩])
           (.block 1
            (.loop
             (.seq
              (.region false [⟨(some 78), (.bin .lss (.tmp 77) (.tmp 76)), none⟩])
              (.seq
               (.cond (.tmp 78)
                .skip
                (.exit 1))
               (.seq
                (.block 2
                 (.seq
                  (.region false [⟨(some 79), (.iaddrs (.ar 32 L8) (.tmp 75) (.tmp 77)), none⟩,
                   ⟨(some 80), (.load (.ar 32 L8) (.tmp 79)), none⟩,
                   ⟨(some 19), (.alloc (.ar 32 L8) (.agg (.ar 32 L8) (List.replicate 32 (.raw (u8 0#8))))), none⟩,
                   ⟨none, (.store (.ar 32 L8) (.tmp 19) (.tmp 80)), none⟩])
                  (.seq
                   (.seq
                    (.region false [⟨(some 81), (.mv (.tmp 16)), none⟩,
                     ⟨(some 82), (.bin .and (.tmp 81) (.const (u32 1#32))), none⟩,
                     ⟨(some 83), (.bin .eql (.tmp 82) (.const (u32 1#32))), none⟩])
                    (.cond (.tmp 83)
                     (.region false [⟨(some 84), (.faddr S2 (.tmp 8) 2), none⟩,
                      ⟨(some 85), (.load (.ar 16 L8) (.tmp 84)), none⟩,
                      ⟨(some 86), (.mv (.tmp 16)), none⟩,
                      ⟨(some 87), (.bin .shr (.tmp 86) (.const (u64 1#64))), none⟩,
                      ⟨(some 88), (.load (.ar 32 L8) (.tmp 19)), none⟩,
                      ⟨(some 89), (.load (.ar 32 L8) (.tmp 17)), none⟩,
                      ⟨(some 90), (.call 22 [(.tmp 85), (.tmp 87), (.tmp 88), (.tmp 89)]), none⟩,
                      ⟨none, (.store (.ar 32 L8) (.tmp 17) (.tmp 90)), none⟩])
                     (.region false [⟨(some 91), (.faddr S2 (.tmp 8) 2), none⟩,
                      ⟨(some 92), (.load (.ar 16 L8) (.tmp 91)), none⟩,
                      ⟨(some 93), (.mv (.tmp 16)), none⟩,
                      ⟨(some 94), (.bin .shr (.tmp 93) (.const (u64 1#64))), none⟩,
                      ⟨(some 95), (.load (.ar 32 L8) (.tmp 17)), none⟩,
                      ⟨(some 96), (.load (.ar 32 L8) (.tmp 19)), none⟩,
                      ⟨(some 97), (.call 22 [(.tmp 92), (.tmp 94), (.tmp 95), (.tmp 96)]), none⟩,
                      ⟨none, (.store (.ar 32 L8) (.tmp 17) (.tmp 97)), none⟩])))
                   (.region false [⟨(some 98), (.mv (.tmp 16)), none⟩,
                    ⟨(some 99), (.bin .shr (.tmp 98) (.const (u64 1#64))), none⟩,
                    ⟨(some 16), (.mv (.tmp 99)), none⟩]))))
                (.region false [⟨(some 100), (.bin .add (.tmp 77) (.const (it 1))), none⟩,
                 ⟨(some 77), (.mv (.tmp 100)), none⟩])))))))
          (.seq
           (.region false [⟨(some 101), (.load (.ar 32 L8) (.tmp 17)), none⟩,
            ⟨none, (.store (.ar 32 L8) (.tmp 6) (.tmp 101)), none⟩,
            ⟨(some 7), (.mv (.const (it 0))), none⟩])
           .ret))))))))))
def r_lms_Root : List ARes := [(.cell 6 (.ar 32 L8)), (.tmp 7)]
theorem c_lms_Root : o2 Go.Proofs.Tryd.f13.body (comp Go.Proofs.Tryd.prog Go.Proofs.Tryd.f13.ntmps) = some a_lms_Root := by kernel_rfl
theorem s_lms_Root : cRess Go.Proofs.Tryd.prog Go.Proofs.Tryd.f13.results.toList = some r_lms_Root := by kernel_rfl
theorem m_lms_Root (C : Ctx) (hC : CtxOK C Go.Proofs.Tryd.prog) : Meets C.glob Go.Proofs.Tryd.prog 13 (afun C 3 r_lms_Root a_lms_Root) :=
  fn_sound hC Go.Proofs.Tryd.func13 c_lms_Root s_lms_Root (Nat.le_of_ble_eq_true (by kernel_rfl))

/-- curtilage/lms.read -/
def a_lms_read : ACode :=
 (.seq
  (.region false [⟨(some 2), (.alloc S2 (.agg S2 [(.raw (u32 0#32)), (.raw (u32 0#32)), (.agg (.ar 16 L8) (List.replicate 16 (.raw (u8 0#8)))), (.agg (.ar 32 L8) (List.replicate 32 (.raw (u8 0#8))))])), none⟩,
   ⟨(some 3), (.mv (.const (it 0))), none⟩])
  (.seq
   (.seq
    (.region false [⟨(some 9), (.mv (.tmp 0)), none⟩,
     ⟨(some 10), (.len (.tmp 9)), none⟩,
     ⟨(some 11), (.bin .neq (.tmp 10) (.const (it 56))), none⟩])
    (.cond (.tmp 11)
     (.seq
      (.region false [⟨(some 12), (.build S2 [(.raw (u32 0#32)), (.raw (u32 0#32)), (.agg (.ar 16 L8) (List.replicate 16 (.raw (u8 0#8)))), (.agg (.ar 32 L8) (List.replicate 32 (.raw (u8 0#8))))] []), none⟩,
       ⟨none, (.store S2 (.tmp 2) (.tmp 12)), none⟩,
       ⟨(some 3), (.mv (.const (it 2))), none⟩])
      .ret)
     .skip))
   (.seq
    (.region true [⟨(some 13), (.mv (.tmp 0)), none⟩,
     ⟨(some 14), (.call 19 [(.tmp 13)]), none⟩,
     ⟨(some 15), (.mv (.tmp 0)), none⟩,
     ⟨(some 16), (.slice L8 (.tmp 15) (some (.const (it 4))) none none), none⟩,
     ⟨(some 17), (.call 19 [(.tmp 16)]), none⟩,
     ⟨(some 18), (.mv (.tmp 0)), none⟩,
     ⟨(some 19), (.slice L8 (.tmp 18) (some (.const (it 8))) (some (.const (it 24))) none), none⟩,
     ⟨(some 20), (.s2a 16 L8 (.tmp 19)), none⟩,
     ⟨(some 21), (.load (.ar 16 L8) (.tmp 20)), none⟩,
     ⟨(some 22), (.mv (.tmp 0)), none⟩,
     ⟨(some 23), (.slice L8 (.tmp 22) (some (.const (it 24))) none none), none⟩,
     ⟨(some 24), (.s2a 32 L8 (.tmp 23)), none⟩,
     ⟨(some 25), (.load (.ar 32 L8) (.tmp 24)), none⟩,
     ⟨(some 26), (.build S2 [(.raw (u32 0#32)), (.raw (u32 0#32)), (.agg (.ar 16 L8) (List.replicate 16 (.raw (u8 0#8)))), (.agg (.ar 32 L8) (List.replicate 32 (.raw (u8 0#8))))] [(0, (.tmp 14)), (1, (.tmp 17)), (2, (.tmp 21)), (3, (.tmp 25))]), none⟩,
     ⟨(some 4), (.alloc S2 (.agg S2 [(.raw (u32 0#32)), (.raw (u32 0#32)), (.agg (.ar 16 L8) (List.replicate 16 (.raw (u8 0#8)))), (.agg (.ar 32 L8) (List.replicate 32 (.raw (u8 0#8))))])), none⟩,
     ⟨none, (.store S2 (.tmp 4) (.tmp 26)), none⟩])
    (.seq
     (.region false [⟨(some 28), (.faddr S2 (.tmp 4) 0), none⟩,
      ⟨(some 29), (.load L32 (.tmp 28)), none⟩,
      ⟨(some 30), (.call 23 [(.tmp 29)]), none⟩,
      ⟨(some 27), (.mv (.tmp 30)), none⟩,
      ⟨(some 31), (.ext (.tmp 27) 0), none⟩,
      ⟨(some 32), (.ext (.tmp 27) 1), none⟩,
      ⟨(some 5), (.mv (.tmp 31)), none⟩,
      ⟨(some 6), (.mv (.tmp 32)), none⟩])
     (.seq
      (.region false [⟨(some 34), (.faddr S2 (.tmp 4) 1), none⟩,
       ⟨(some 35), (.load L32 (.tmp 34)), none⟩,
       ⟨(some 36), (.call 24 [(.tmp 35)]), none⟩,
       ⟨(some 33), (.mv (.tmp 36)), none⟩,
       ⟨(some 37), (.ext (.tmp 33) 0), none⟩,
       ⟨(some 38), (.ext (.tmp 33) 1), none⟩,
       ⟨(some 7), (.alloc S5 (.agg S5 [(.raw (it 0)), (.raw (it 0)), (.raw (it 0))])), none⟩,
       ⟨none, (.store S5 (.tmp 7) (.tmp 37)), none⟩,
       ⟨(some 8), (.mv (.tmp 38)), none⟩])
      (.seq
       (.seq
        (.region false [⟨(some 39), (.mv (.tmp 6)), none⟩,
         ⟨(some 40), (.un .not (.tmp 39)), none⟩,
         ⟨(some 41), (.mv (.tmp 40)), none⟩,
         ⟨(some 42), (.mv (.tmp 8)), some (41, false)⟩,
         ⟨(some 43), (.un .not (.tmp 42)), some (41, false)⟩,
         ⟨(some 44), (.pick (.tmp 41) (.const (.bool true)) (.tmp 43)), none⟩])
        (.cond (.tmp 44)
         (.seq
          (.region false [⟨(some 45), (.build S2 [(.raw (u32 0#32)), (.raw (u32 0#32)), (.agg (.ar 16 L8) (List.replicate 16 (.raw (u8 0#8)))), (.agg (.ar 32 L8) (List.replicate 32 (.raw (u8 0#8))))] []), none⟩,
           ⟨none, (.store S2 (.tmp 2) (.tmp 45)), none⟩,
           ⟨(some 3), (.mv (.const (it 6))), none⟩])
          .ret)
         .skip))
       (.seq
        (.region false [⟨(some 46), (.load S2 (.tmp 4)), none⟩,
         ⟨none, (.store S2 (.tmp 2) (.tmp 46)), none⟩,
         ⟨(some 3), (.mv (.const (it 0))), none⟩])
        .ret)))))))
def r_lms_read : List ARes := [(.cell 2 S2), (.tmp 3)]
theorem c_lms_read : o2 Go.Proofs.Tryd.f14.body (comp Go.Proofs.Tryd.prog Go.Proofs.Tryd.f14.ntmps) = some a_lms_read := by kernel_rfl
theorem s_lms_read : cRess Go.Proofs.Tryd.prog Go.Proofs.Tryd.f14.results.toList = some r_lms_read := by kernel_rfl
theorem m_lms_read (C : Ctx) (hC : CtxOK C Go.Proofs.Tryd.prog) : Meets C.glob Go.Proofs.Tryd.prog 14 (afun C 1 r_lms_read a_lms_read) :=
  fn_sound hC Go.Proofs.Tryd.func14 c_lms_read s_lms_read (Nat.le_of_ble_eq_true (by kernel_rfl))

/-- curtilage/token.right -/
def a_token_right : ACode :=
 (.seq
  (.region false [⟨(some 2), (.mv (.const (.bool false))), none⟩])
  (.seq
   (.region false [⟨(some 3), (.mv (.tmp 0)), none⟩,
    ⟨(some 4), (.bin .geq (.tmp 3) (.const (it 1))), none⟩,
    ⟨(some 5), (.mv (.tmp 4)), none⟩,
    ⟨(some 6), (.mv (.tmp 0)), some (5, true)⟩,
    ⟨(some 7), (.bin .leq (.tmp 6) (.const (it 3))), some (5, true)⟩,
    ⟨(some 8), (.pick (.tmp 5) (.tmp 7) (.const (.bool false))), none⟩,
    ⟨(some 2), (.mv (.tmp 8)), none⟩])
   .ret))
def r_token_right : List ARes := [(.tmp 2)]
theorem c_token_right : o2 Go.Proofs.Tryd.f15.body (comp Go.Proofs.Tryd.prog Go.Proofs.Tryd.f15.ntmps) = some a_token_right := by kernel_rfl
theorem s_token_right : cRess Go.Proofs.Tryd.prog Go.Proofs.Tryd.f15.results.toList = some r_token_right := by kernel_rfl
theorem m_token_right (C : Ctx) (hC : CtxOK C Go.Proofs.Tryd.prog) : Meets C.glob Go.Proofs.Tryd.prog 15 (afun C 1 r_token_right a_token_right) :=
  fn_sound hC Go.Proofs.Tryd.func15 c_token_right s_token_right (Nat.le_of_ble_eq_true (by kernel_rfl))

/-- bytes.HasPrefix -/
def a_bytes_HasPrefix : ACode :=
 (.seq
  (.region false [⟨(some 4), (.mv (.const (.bool false))), none⟩])
  (.seq
   (.region false [⟨(some 5), (.mv (.tmp 0)), none⟩,
    ⟨(some 6), (.len (.tmp 5)), none⟩,
    ⟨(some 7), (.mv (.tmp 1)), none⟩,
    ⟨(some 8), (.len (.tmp 7)), none⟩,
    ⟨(some 9), (.bin .geq (.tmp 6) (.tmp 8)), none⟩,
    ⟨(some 10), (.mv (.tmp 9)), none⟩,
    ⟨(some 11), (.mv (.tmp 0)), some (10, true)⟩,
    ⟨(some 12), (.mv (.tmp 1)), some (10, true)⟩,
    ⟨(some 13), (.len (.tmp 12)), some (10, true)⟩,
    ⟨(some 14), (.slice L8 (.tmp 11) none (some (.tmp 13)) none), some (10, true)⟩,
    ⟨(some 15), (.mv (.tmp 1)), some (10, true)⟩,
    ⟨(some 16), (.call 25 [(.tmp 14), (.tmp 15)]), some (10, true)⟩,
    ⟨(some 17), (.pick (.tmp 10) (.tmp 16) (.const (.bool false))), none⟩,
    ⟨(some 4), (.mv (.tmp 17)), none⟩])
   .ret))
def r_bytes_HasPrefix : List ARes := [(.tmp 4)]
theorem c_bytes_HasPrefix : o2 Go.Proofs.Tryd.f16.body (comp Go.Proofs.Tryd.prog Go.Proofs.Tryd.f16.ntmps) = some a_bytes_HasPrefix := by kernel_rfl
theorem s_bytes_HasPrefix : cRess Go.Proofs.Tryd.prog Go.Proofs.Tryd.f16.results.toList = some r_bytes_HasPrefix := by kernel_rfl
theorem m_bytes_HasPrefix (C : Ctx) (hC : CtxOK C Go.Proofs.Tryd.prog) : Meets C.glob Go.Proofs.Tryd.prog 16 (afun C 2 r_bytes_HasPrefix a_bytes_HasPrefix) :=
  fn_sound hC Go.Proofs.Tryd.func16 c_bytes_HasPrefix s_bytes_HasPrefix (Nat.le_of_ble_eq_true (by kernel_rfl))

/-- curtilage/token.num -/
def a_token_num : ACode :=
 (.seq
  (.region false [⟨(some 2), (.mv (.const (u32 0#32))), none⟩])
  (.seq
   (.region true [⟨(some 3), (.mv (.tmp 0)), none⟩,
    ⟨(some 4), (.iaddrs L8 (.tmp 3) (.const (it 0))), none⟩,
    ⟨(some 5), (.load L8 (.tmp 4)), none⟩,
    ⟨(some 6), (.conv .u32 (.tmp 5)), none⟩,
    ⟨(some 7), (.bin .shl (.tmp 6) (.const (u64 24#64))), none⟩,
    ⟨(some 8), (.mv (.tmp 0)), none⟩,
    ⟨(some 9), (.iaddrs L8 (.tmp 8) (.const (it 1))), none⟩,
    ⟨(some 10), (.load L8 (.tmp 9)), none⟩,
    ⟨(some 11), (.conv .u32 (.tmp 10)), none⟩,
    ⟨(some 12), (.bin .shl (.tmp 11) (.const (u64 16#64))), none⟩,
    ⟨(some 13), (.bin .or (.tmp 7) (.tmp 12)), none⟩,
    ⟨(some 14), (.mv (.tmp 0)), none⟩,
    ⟨(some 15), (.iaddrs L8 (.tmp 14) (.const (it 2))), none⟩,
    ⟨(some 16), (.load L8 (.tmp 15)), none⟩,
    ⟨(some 17), (.conv .u32 (.tmp 16)), none⟩,
    ⟨(some 18), (.bin .shl (.tmp 17) (.const (u64 8#64))), none⟩,
    ⟨(some 19), (.bin .or (.tmp 13) (.tmp 18)), none⟩,
    ⟨(some 20), (.mv (.tmp 0)), none⟩,
    ⟨(some 21), (.iaddrs L8 (.tmp 20) (.const (it 3))), none⟩,
    ⟨(some 22), (.load L8 (.tmp 21)), none⟩,
    ⟨(some 23), (.conv .u32 (.tmp 22)), none⟩,
    ⟨(some 24), (.bin .or (.tmp 19) (.tmp 23)), none⟩,
    ⟨(some 2), (.mv (.tmp 24)), none⟩])
   .ret))
def r_token_num : List ARes := [(.tmp 2)]
theorem c_token_num : o2 Go.Proofs.Tryd.f17.body (comp Go.Proofs.Tryd.prog Go.Proofs.Tryd.f17.ntmps) = some a_token_num := by kernel_rfl
theorem s_token_num : cRess Go.Proofs.Tryd.prog Go.Proofs.Tryd.f17.results.toList = some r_token_num := by kernel_rfl
theorem m_token_num (C : Ctx) (hC : CtxOK C Go.Proofs.Tryd.prog) : Meets C.glob Go.Proofs.Tryd.prog 17 (afun C 1 r_token_num a_token_num) :=
  fn_sound hC Go.Proofs.Tryd.func17 c_token_num s_token_num (Nat.le_of_ble_eq_true (by kernel_rfl))

/-- curtilage/lms.Parts -/
def a_lms_Parts : ACode :=
 (.seq
  (.region false [⟨(some 2), (.mv (.const (u32 0#32))), none⟩,
   ⟨(some 3), (.mv (.const (.slice none 0 0))), none⟩,
   ⟨(some 4), (.mv (.const (u32 0#32))), none⟩,
   ⟨(some 5), (.mv (.const (.slice none 0 0))), none⟩,
   ⟨(some 6), (.mv (.const (it 0))), none⟩])
  (.seq
   (.region false [⟨(some 7), (.mv (.const (.func (.func 26) #[] #[]))), none⟩])
   (.seq
    (.region false [⟨(some 19), (.mv (.tmp 0)), none⟩,
     ⟨(some 8), (.alloc .ref (.raw (.slice none 0 0))), none⟩,
     ⟨none, (.store .ref (.tmp 8) (.tmp 19)), none⟩])
    (.seq
     (.region false [⟨(some 21), (.call 27 [(.tmp 8), (.const (it 4))]), none⟩,
      ⟨(some 20), (.mv (.tmp 21)), none⟩,
      ⟨(some 22), (.ext (.tmp 20) 0), none⟩,
      ⟨(some 23), (.ext (.tmp 20) 1), none⟩,
      ⟨(some 9), (.mv (.tmp 22)), none⟩,
      ⟨(some 10), (.mv (.tmp 23)), none⟩])
     (.seq
      (.seq
       (.region false [⟨(some 24), (.mv (.tmp 10)), none⟩,
        ⟨(some 25), (.un .not (.tmp 24)), none⟩,
        ⟨(some 26), (.mv (.tmp 25)), none⟩,
        ⟨(some 27), (.load .ref (.tmp 8)), some (26, false)⟩,
        ⟨(some 28), (.len (.tmp 27)), some (26, false)⟩,
        ⟨(some 29), (.bin .lss (.tmp 28) (.const (it 4))), some (26, false)⟩,
        ⟨(some 30), (.pick (.tmp 26) (.const (.bool true)) (.tmp 29)), none⟩])
       (.cond (.tmp 30)
        (.seq
         (.region false [⟨(some 31), (.mv (.tmp 7)), none⟩,
          ⟨(some 32), (.callv [26] (.tmp 31) [(.const (it 2))]), none⟩,
          ⟨(some 33), (.ext (.tmp 32) 0), none⟩,
          ⟨(some 34), (.ext (.tmp 32) 1), none⟩,
          ⟨(some 35), (.ext (.tmp 32) 2), none⟩,
          ⟨(some 36), (.ext (.tmp 32) 3), none⟩,
          ⟨(some 37), (.ext (.tmp 32) 4), none⟩,
          ⟨(some 2), (.mv (.tmp 33)), none⟩,
          ⟨(some 3), (.mv (.tmp 34)), none⟩,
          ⟨(some 4), (.mv (.tmp 35)), none⟩,
          ⟨(some 5), (.mv (.tmp 36)), none⟩,
          ⟨(some 6), (.mv (.tmp 37)), none⟩])
         .ret)
        .skip))
      (.seq
       (.region false [⟨(some 39), (.load .ref (.tmp 8)), none⟩,
        ⟨(some 40), (.call 19 [(.tmp 39)]), none⟩,
        ⟨(some 41), (.call 24 [(.tmp 40)]), none⟩,
        ⟨(some 38), (.mv (.tmp 41)), none⟩,
        ⟨(some 42), (.ext (.tmp 38) 0), none⟩,
        ⟨(some 43), (.ext (.tmp 38) 1), none⟩,
        ⟨(some 11), (.alloc S5 (.agg S5 [(.raw (it 0)), (.raw (it 0)), (.raw (it 0))])), none⟩,
        ⟨none, (.store S5 (.tmp 11) (.tmp 42)), none⟩,
        ⟨(some 10), (.mv (.tmp 43)), none⟩])
       (.seq
        (.seq
         (.region false [⟨(some 44), (.mv (.tmp 10)), none⟩,
          ⟨(some 45), (.un .not (.tmp 44)), none⟩])
         (.cond (.tmp 45)
          (.seq
           (.region false [⟨(some 46), (.mv (.tmp 7)), none⟩,
            ⟨(some 47), (.callv [26] (.tmp 46) [(.const (it 6))]), none⟩,
            ⟨(some 48), (.ext (.tmp 47) 0), none⟩,
            ⟨(some 49), (.ext (.tmp 47) 1), none⟩,
            ⟨(some 50), (.ext (.tmp 47) 2), none⟩,
            ⟨(some 51), (.ext (.tmp 47) 3), none⟩,
            ⟨(some 52), (.ext (.tmp 47) 4), none⟩,
            ⟨(some 2), (.mv (.tmp 48)), none⟩,
            ⟨(some 3), (.mv (.tmp 49)), none⟩,
            ⟨(some 4), (.mv (.tmp 50)), none⟩,
            ⟨(some 5), (.mv (.tmp 51)), none⟩,
            ⟨(some 6), (.mv (.tmp 52)), none⟩])
           .ret)
          .skip))
        (.seq
         (.region false [⟨(some 54), (.faddr S5 (.tmp 11) 1), none⟩,
          ⟨(some 55), (.load LI (.tmp 54)), none⟩,
          ⟨(some 56), (.bin .add (.tmp 55) (.const (it 1))), none⟩,
          ⟨(some 57), (.bin .mul (.const (it 32)) (.tmp 56)), none⟩,
          ⟨(some 58), (.bin .add (.const (it 4)) (.tmp 57)), none⟩,
          ⟨(some 59), (.call 27 [(.tmp 8), (.tmp 58)]), none⟩,
          ⟨(some 53), (.mv (.tmp 59)), none⟩,
          ⟨(some 60), (.ext (.tmp 53) 0), none⟩,
          ⟨(some 61), (.ext (.tmp 53) 1), none⟩,
          ⟨(some 12), (.mv (.tmp 60)), none⟩,
          ⟨(some 10), (.mv (.tmp 61)), none⟩])
         (.seq
          (.seq
           (.region false [⟨(some 62), (.mv (.tmp 10)), none⟩,
            ⟨(some 63), (.un .not (.tmp 62)), none⟩,
            ⟨(some 64), (.mv (.tmp 63)), none⟩,
            ⟨(some 65), (.load .ref (.tmp 8)), some (64, false)⟩,
            ⟨(some 66), (.len (.tmp 65)), some (64, false)⟩,
            ⟨(some 67), (.bin .lss (.tmp 66) (.const (it 4))), some (64, false)⟩,
            ⟨(some 68), (.pick (.tmp 64) (.const (.bool true)) (.tmp 67)), none⟩])
           (.cond (.tmp 68)
            (.seq
             (.region false [⟨(some 69), (.mv (.tmp 7)), none⟩,
              ⟨(some 70), (.callv [26] (.tmp 69) [(.const (it 2))]), none⟩,
              ⟨(some 71), (.ext (.tmp 70) 0), none⟩,
              ⟨(some 72), (.ext (.tmp 70) 1), none⟩,
              ⟨(some 73), (.ext (.tmp 70) 2), none⟩,
              ⟨(some 74), (.ext (.tmp 70) 3), none⟩,
              ⟨(some 75), (.ext (.tmp 70) 4), none⟩,
              ⟨(some 2), (.mv (.tmp 71)), none⟩,
              ⟨(some 3), (.mv (.tmp 72)), none⟩,
              ⟨(some 4), (.mv (.tmp 73)), none⟩,
              ⟨(some 5), (.mv (.tmp 74)), none⟩,
              ⟨(some 6), (.mv (.tmp 75)), none⟩])
             .ret)
            .skip))
          (.seq
           (.region false [⟨(some 76), (.load .ref (.tmp 8)), none⟩,
            ⟨(some 77), (.call 19 [(.tmp 76)]), none⟩,
            ⟨(some 13), (.mv (.tmp 77)), none⟩])
           (.seq
            (.region false [⟨(some 79), (.mv (.tmp 13)), none⟩,
             ⟨(some 80), (.call 23 [(.tmp 79)]), none⟩,
             ⟨(some 78), (.mv (.tmp 80)), none⟩,
             ⟨(some 81), (.ext (.tmp 78) 0), none⟩,
             ⟨(some 82), (.ext (.tmp 78) 1), none⟩,
             ⟨(some 14), (.mv (.tmp 81)), none⟩,
             ⟨(some 10), (.mv (.tmp 82)), none⟩])
            (.seq
             (.seq
              (.region false [⟨(some 83), (.mv (.tmp 10)), none⟩,
               ⟨(some 84), (.un .not (.tmp 83)), none⟩])
              (.cond (.tmp 84)
               (.seq
                (.region false [⟨(some 85), (.mv (.tmp 7)), none⟩,
                 ⟨(some 86), (.callv [26] (.tmp 85) [(.const (it 6))]), none⟩,
                 ⟨(some 87), (.ext (.tmp 86) 0), none⟩,
                 ⟨(some 88), (.ext (.tmp 86) 1), none⟩,
                 ⟨(some 89), (.ext (.tmp 86) 2), none⟩,
                 ⟨(some 90), (.ext (.tmp 86) 3), none⟩,
                 ⟨(some 91), (.ext (.tmp 86) 4), none⟩,
                 ⟨(some 2), (.mv (.tmp 87)), none⟩,
                 ⟨(some 3), (.mv (.tmp 88)), none⟩,
                 ⟨(some 4), (.mv (.tmp 89)), none⟩,
                 ⟨(some 5), (.mv (.tmp 90)), none⟩,
                 ⟨(some 6), (.mv (.tmp 91)), none⟩])
                .ret)
               .skip))
             (.seq
              (.region false [⟨(some 92), (.load .ref (.tmp 8)), none⟩,
               ⟨(some 93), (.slice L8 (.tmp 92) (some (.const (it 4))) none none), none⟩,
               ⟨none, (.store .ref (.tmp 8) (.tmp 93)), none⟩])
              (.seq
               (.region false [⟨(some 94), (.mv (.tmp 9)), none⟩,
                ⟨(some 95), (.call 19 [(.tmp 94)]), none⟩,
                ⟨(some 15), (.mv (.tmp 95)), none⟩])
               (.seq
                (.seq
                 (.region false [⟨(some 96), (.load .ref (.tmp 8)), none⟩,
                  ⟨(some 97), (.len (.tmp 96)), none⟩,
                  ⟨(some 98), (.mv (.tmp 14)), none⟩,
                  ⟨(some 99), (.bin .mul (.const (it 32)) (.tmp 98)), none⟩,
                  ⟨(some 100), (.bin .neq (.tmp 97) (.tmp 99)), none⟩,
                  ⟨(some 101), (.mv (.tmp 100)), none⟩,
                  ⟨(some 102), (.mv (.tmp 15)), some (101, false)⟩,
                  ⟨(some 103), (.mv (.tmp 14)), some (101, false)⟩,
                  ⟨(some 104), (.bin .shr (.tmp 102) (.tmp 103)), some (101, false)⟩,
                  ⟨(some 105), (.bin .neq (.tmp 104) (.const (u32 0#32))), some (101, false)⟩,
                  ⟨(some 106), (.pick (.tmp 101) (.const (.bool true)) (.tmp 105)), none⟩])
                 (.cond (.tmp 106)
                  (.seq
                   (.region false [⟨(some 107), (.mv (.tmp 7)), none⟩,
                    ⟨(some 108), (.callv [26] (.tmp 107) [(.const (it 2))]), none⟩,
                    ⟨(some 109), (.ext (.tmp 108) 0), none⟩,
                    ⟨(some 110), (.ext (.tmp 108) 1), none⟩,
                    ⟨(some 111), (.ext (.tmp 108) 2), none⟩,
                    ⟨(some 112), (.ext (.tmp 108) 3), none⟩,
                    ⟨(some 113), (.ext (.tmp 108) 4), none⟩,
                    ⟨(some 2), (.mv (.tmp 109)), none⟩,
                    ⟨(some 3), (.mv (.tmp 110)), none⟩,
                    ⟨(some 4), (.mv (.tmp 111)), none⟩,
                    ⟨(some 5), (.mv (.tmp 112)), none⟩,
                    ⟨(some 6), (.mv (.tmp 113)), none⟩])
                   .ret)
                  .skip))
                (.seq
                 (.region false [⟨(some 16), (.mv (.const (.slice none 0 0))), none⟩])
                 (.seq
                  (.block 0
                   (.loop
                    (.seq
                     (.seq
                      (.region false [⟨(some 114), (.load .ref (.tmp 8)), none⟩,
                       ⟨(some 115), (.len (.tmp 114)), none⟩,
                       ⟨(some 116), (.bin .gtr (.tmp 115) (.const (it 0))), none⟩])
                      (.cond (.tmp 116)
                       .skip
                       (.exit 0)))
                     (.block 1
                      (.seq
                       (.region false [⟨(some 118), (.call 27 [(.tmp 8), (.const (it 32))]), none⟩,
                        ⟨(some 117), (.mv (.tmp 118)), none⟩,
                        ⟨(some 119), (.ext (.tmp 117) 0), none⟩,
                        ⟨(some 120), (.ext (.tmp 117) 1), none⟩,
                        ⟨(some 17), (.mv (.tmp 119)), none⟩,
                        ⟨(some 18), (.mv (.tmp 120)), none⟩])
                       (.region false [⟨(some 121), (.mv (.tmp 16)), none⟩,
                        ⟨(some 122), (.mv (.tmp 17)), none⟩,
                        ⟨(some 123), (.s2a 32 L8 (.tmp 122)), none⟩,
                        ⟨(some 124), (.load (.ar 32 L8) (.tmp 123)), none⟩,
                        ⟨(some 125), (.bslice (.ar 32 L8) 1 (.agg (.ar 32 L8) (List.replicate 32 (.raw (u8 0#8)))) [(0, (.tmp 124))]), none⟩,
                        ⟨(some 126), (.append (.ar 32 L8) 32 (.tmp 121) (.tmp 125)), none⟩,
                        ⟨(some 16), (.mv (.tmp 126)), none⟩]))))))
                  (.seq
                   (.region false [⟨(some 127), (.mv (.tmp 15)), none⟩,
                    ⟨(some 128), (.bslice L8 0 (.raw (u8 0#8)) []), none⟩,
                    ⟨(some 129), (.mv (.tmp 12)), none⟩,
                    ⟨(some 130), (.append L8 1 (.tmp 128) (.tmp 129)), none⟩,
                    ⟨(some 131), (.mv (.tmp 13)), none⟩,
                    ⟨(some 132), (.mv (.tmp 16)), none⟩,
                    ⟨(some 2), (.mv (.tmp 127)), none⟩,
                    ⟨(some 3), (.mv (.tmp 130)), none⟩,
                    ⟨(some 4), (.mv (.tmp 131)), none⟩,
                    ⟨(some 5), (.mv (.tmp 132)), none⟩,
                    ⟨(some 6), (.mv (.const (it 0))), none⟩])
                   .ret))))))))))))))))))
def r_lms_Parts : List ARes := [(.tmp 2), (.tmp 3), (.tmp 4), (.tmp 5), (.tmp 6)]
theorem c_lms_Parts : o2 Go.Proofs.Tryd.f18.body (comp Go.Proofs.Tryd.prog Go.Proofs.Tryd.f18.ntmps) = some a_lms_Parts := by kernel_rfl
theorem s_lms_Parts : cRess Go.Proofs.Tryd.prog Go.Proofs.Tryd.f18.results.toList = some r_lms_Parts := by kernel_rfl
theorem m_lms_Parts (C : Ctx) (hC : CtxOK C Go.Proofs.Tryd.prog) : Meets C.glob Go.Proofs.Tryd.prog 18 (afun C 1 r_lms_Parts a_lms_Parts) :=
  fn_sound hC Go.Proofs.Tryd.func18 c_lms_Parts s_lms_Parts (Nat.le_of_ble_eq_true (by kernel_rfl))

/-- curtilage/lms.num -/
def a_lms_num : ACode :=
 (.seq
  (.region false [⟨(some 2), (.mv (.const (u32 0#32))), none⟩])
  (.seq
   (.region true [⟨(some 3), (.mv (.tmp 0)), none⟩,
    ⟨(some 4), (.iaddrs L8 (.tmp 3) (.const (it 0))), none⟩,
    ⟨(some 5), (.load L8 (.tmp 4)), none⟩,
    ⟨(some 6), (.conv .u32 (.tmp 5)), none⟩,
    ⟨(some 7), (.bin .shl (.tmp 6) (.const (u64 24#64))), none⟩,
    ⟨(some 8), (.mv (.tmp 0)), none⟩,
    ⟨(some 9), (.iaddrs L8 (.tmp 8) (.const (it 1))), none⟩,
    ⟨(some 10), (.load L8 (.tmp 9)), none⟩,
    ⟨(some 11), (.conv .u32 (.tmp 10)), none⟩,
    ⟨(some 12), (.bin .shl (.tmp 11) (.const (u64 16#64))), none⟩,
    ⟨(some 13), (.bin .or (.tmp 7) (.tmp 12)), none⟩,
    ⟨(some 14), (.mv (.tmp 0)), none⟩,
    ⟨(some 15), (.iaddrs L8 (.tmp 14) (.const (it 2))), none⟩,
    ⟨(some 16), (.load L8 (.tmp 15)), none⟩,
    ⟨(some 17), (.conv .u32 (.tmp 16)), none⟩,
    ⟨(some 18), (.bin .shl (.tmp 17) (.const (u64 8#64))), none⟩,
    ⟨(some 19), (.bin .or (.tmp 13) (.tmp 18)), none⟩,
    ⟨(some 20), (.mv (.tmp 0)), none⟩,
    ⟨(some 21), (.iaddrs L8 (.tmp 20) (.const (it 3))), none⟩,
    ⟨(some 22), (.load L8 (.tmp 21)), none⟩,
    ⟨(some 23), (.conv .u32 (.tmp 22)), none⟩,
    ⟨(some 24), (.bin .or (.tmp 19) (.tmp 23)), none⟩,
    ⟨(some 2), (.mv (.tmp 24)), none⟩])
   .ret))
def r_lms_num : List ARes := [(.tmp 2)]
theorem c_lms_num : o2 Go.Proofs.Tryd.f19.body (comp Go.Proofs.Tryd.prog Go.Proofs.Tryd.f19.ntmps) = some a_lms_num := by kernel_rfl
theorem s_lms_num : cRess Go.Proofs.Tryd.prog Go.Proofs.Tryd.f19.results.toList = some r_lms_num := by kernel_rfl
theorem m_lms_num (C : Ctx) (hC : CtxOK C Go.Proofs.Tryd.prog) : Meets C.glob Go.Proofs.Tryd.prog 19 (afun C 1 r_lms_num a_lms_num) :=
  fn_sound hC Go.Proofs.Tryd.func19 c_lms_num s_lms_num (Nat.le_of_ble_eq_true (by kernel_rfl))

/-- curtilage/ots.Claim -/
def a_ots_Claim : ACode :=
 (.seq
  (.region false [⟨(some 3), (.box S4 (.tmp 0)), none⟩,
   ⟨(some 6), (.alloc (.ar 32 L8) (.agg (.ar 32 L8) (List.replicate 32 (.raw (u8 0#8))))), none⟩,
   ⟨(some 7), (.mv (.const (it 0))), none⟩])
  (.seq
   (.region false [⟨(some 17), (.mv (.tmp 1)), none⟩,
    ⟨(some 18), (.call 28 [(.tmp 17)]), none⟩,
    ⟨(some 16), (.mv (.tmp 18)), none⟩,
    ⟨(some 19), (.ext (.tmp 16) 0), none⟩,
    ⟨(some 20), (.ext (.tmp 16) 1), none⟩,
    ⟨(some 21), (.ext (.tmp 16) 2), none⟩,
    ⟨(some 22), (.ext (.tmp 16) 3), none⟩,
    ⟨(some 9), (.alloc (.ar 32 L8) (.agg (.ar 32 L8) (List.replicate 32 (.raw (u8 0#8))))), none⟩,
    ⟨(some 8), (.mv (.tmp 19)), none⟩,
    ⟨none, (.store (.ar 32 L8) (.tmp 9) (.tmp 20)), none⟩,
    ⟨(some 10), (.mv (.tmp 21)), none⟩,
    ⟨(some 11), (.mv (.tmp 22)), none⟩])
   (.seq
    (.seq
     (.region false [⟨(some 23), (.mv (.tmp 11)), none⟩,
      ⟨(some 24), (.bin .neq (.tmp 23) (.const (it 0))), none⟩])
     (.cond (.tmp 24)
      (.seq
       (.region false [⟨(some 25), (.build (.ar 32 L8) (List.replicate 32 (.raw (u8 0#8))) []), none⟩,
        ⟨(some 26), (.mv (.tmp 11)), none⟩,
        ⟨none, (.store (.ar 32 L8) (.tmp 6) (.tmp 25)), none⟩,
        ⟨(some 7), (.mv (.tmp 26)), none⟩])
       .ret)
      .skip))
    (.seq
     (.region false [⟨(some 28), (.mv (.tmp 8)), none⟩,
      ⟨(some 29), (.call 24 [(.tmp 28)]), none⟩,
      ⟨(some 27), (.mv (.tmp 29)), none⟩,
      ⟨(some 30), (.ext (.tmp 27) 0), none⟩,
      ⟨(some 31), (.ext (.tmp 27) 1), none⟩,
      ⟨(some 12), (.alloc S5 (.agg S5 [(.raw (it 0)), (.raw (it 0)), (.raw (it 0))])), none⟩,
      ⟨none, (.store S5 (.tmp 12) (.tmp 30)), none⟩,
      ⟨(some 13), (.mv (.tmp 31)), none⟩])
     (.seq
      (.seq
       (.region false [⟨(some 32), (.mv (.tmp 8)), none⟩,
        ⟨(some 33), (.load S4 (.tmp 3)), none⟩,
        ⟨(some 34), (.load (.ar 32 L8) (.tmp 9)), none⟩,
        ⟨(some 35), (.mv (.tmp 2)), none⟩,
        ⟨(some 36), (.call 30 [(.tmp 33), (.tmp 34), (.tmp 35)]), none⟩,
        ⟨(some 37), (.call 29 [(.tmp 32), (.tmp 36)]), none⟩,
        ⟨(some 38), (.len (.tmp 37)), none⟩,
        ⟨(some 39), (.mv (.const (it 0))), none⟩])
       (.block 0
        (.loop
         (.seq
          (.region false [⟨(some 40), (.bin .lss (.tmp 39) (.tmp 38)), none⟩])
          (.seq
           (.cond (.tmp 40)
            .skip
            (.exit 0))
           (.seq
            (.block 1
             (.seq
              (.region false [⟨(some 41), (.mv (.tmp 39)), none⟩,
               ⟨(some 42), (.iaddrs LI (.tmp 37) (.tmp 39)), none⟩,
               ⟨(some 43), (.load LI (.tmp 42)), none⟩,
               ⟨(some 14), (.mv (.tmp 41)), none⟩,
               ⟨(some 15), (.mv (.tmp 43)), none⟩])
              (.region true [⟨(some 44), (.mv (.tmp 10)), none⟩,
               ⟨(some 45), (.mv (.tmp 14)), none⟩,
               ⟨(some 46), (.load S4 (.tmp 3)), none⟩,
               ⟨(some 47), (.mv (.tmp 14)), none⟩,
               ⟨(some 48), (.mv (.tmp 15)), none⟩,
               ⟨(some 49), (.load S5 (.tmp 12)), none⟩,
               ⟨(some 50), (.call 32 [(.tmp 49)]), none⟩,
               ⟨(some 51), (.mv (.tmp 10)), none⟩,
               ⟨(some 52), (.mv (.tmp 14)), none⟩,
               ⟨(some 53), (.iaddrs (.ar 32 L8) (.tmp 51) (.tmp 52)), none⟩,
               ⟨(some 54), (.load (.ar 32 L8) (.tmp 53)), none⟩,
               ⟨(some 55), (.call 31 [(.tmp 46), (.tmp 47), (.tmp 48), (.tmp 50), (.tmp 54)]), none⟩,
               ⟨(some 56), (.iaddrs (.ar 32 L8) (.tmp 44) (.tmp 45)), none⟩,
               ⟨none, (.store (.ar 32 L8) (.tmp 56) (.tmp 55)), none⟩])))
            (.region false [⟨(some 57), (.bin .add (.tmp 39) (.const (it 1))), none⟩,
             ⟨(some 39), (.mv (.tmp 57)), none⟩])))))))
      (.seq
       (.region false [⟨(some 58), (.load S4 (.tmp 3)), none⟩,
        ⟨(some 59), (.mv (.tmp 10)), none⟩,
        ⟨(some 60), (.call 33 [(.tmp 58), (.tmp 59)]), none⟩,
        ⟨none, (.store (.ar 32 L8) (.tmp 6) (.tmp 60)), none⟩,
        ⟨(some 7), (.mv (.const (it 0))), none⟩])
       .ret))))))
def r_ots_Claim : List ARes := [(.cell 6 (.ar 32 L8)), (.tmp 7)]
theorem c_ots_Claim : o2 Go.Proofs.Tryd.f20.body (comp Go.Proofs.Tryd.prog Go.Proofs.Tryd.f20.ntmps) = some a_ots_Claim := by kernel_rfl
theorem s_ots_Claim : cRess Go.Proofs.Tryd.prog Go.Proofs.Tryd.f20.results.toList = some r_ots_Claim := by kernel_rfl
theorem m_ots_Claim (C : Ctx) (hC : CtxOK C Go.Proofs.Tryd.prog) : Meets C.glob Go.Proofs.Tryd.prog 20 (afun C 3 r_ots_Claim a_ots_Claim) :=
  fn_sound hC Go.Proofs.Tryd.func20 c_ots_Claim s_ots_Claim (Nat.le_of_ble_eq_true (by kernel_rfl))

/-- curtilage/lms.Leaf -/
def a_lms_Leaf : ACode :=
 (.seq
  (.region false [⟨(some 3), (.box (.ar 16 L8) (.tmp 0)), none⟩,
   ⟨(some 5), (.box (.ar 32 L8) (.tmp 2)), none⟩,
   ⟨(some 6), (.alloc (.ar 32 L8) (.agg (.ar 32 L8) (List.replicate 32 (.raw (u8 0#8))))), none⟩])
  (.seq
   (.region false [⟨(some 7), (.load (.ar 16 L8) (.tmp 3)), none⟩,
    ⟨(some 8), (.mv (.tmp 1)), none⟩,
    ⟨(some 9), (.load (.ar 32 L8) (.tmp 5)), none⟩,
    ⟨(some 10), (.bslice (.ar 32 L8) 1 (.agg (.ar 32 L8) (List.replicate 32 (.raw (u8 0#8)))) [(0, (.tmp 9))]), none⟩,
    ⟨(some 11), (.call 34 [(.tmp 7), (.tmp 8), (.const (it 33410)), (.tmp 10)]), none⟩,
    ⟨none, (.store (.ar 32 L8) (.tmp 6) (.tmp 11)), none⟩])
   .ret))
def r_lms_Leaf : List ARes := [(.cell 6 (.ar 32 L8))]
theorem c_lms_Leaf : o2 Go.Proofs.Tryd.f21.body (comp Go.Proofs.Tryd.prog Go.Proofs.Tryd.f21.ntmps) = some a_lms_Leaf := by kernel_rfl
theorem s_lms_Leaf : cRess Go.Proofs.Tryd.prog Go.Proofs.Tryd.f21.results.toList = some r_lms_Leaf := by kernel_rfl
theorem m_lms_Leaf (C : Ctx) (hC : CtxOK C Go.Proofs.Tryd.prog) : Meets C.glob Go.Proofs.Tryd.prog 21 (afun C 3 r_lms_Leaf a_lms_Leaf) :=
  fn_sound hC Go.Proofs.Tryd.func21 c_lms_Leaf s_lms_Leaf (Nat.le_of_ble_eq_true (by kernel_rfl))

/-- curtilage/lms.Node -/
def a_lms_Node : ACode :=
 (.seq
  (.region false [⟨(some 4), (.box (.ar 16 L8) (.tmp 0)), none⟩,
   ⟨(some 6), (.box (.ar 32 L8) (.tmp 2)), none⟩,
   ⟨(some 7), (.box (.ar 32 L8) (.tmp 3)), none⟩,
   ⟨(some 8), (.alloc (.ar 32 L8) (.agg (.ar 32 L8) (List.replicate 32 (.raw (u8 0#8))))), none⟩])
  (.seq
   (.region false [⟨(some 9), (.load (.ar 16 L8) (.tmp 4)), none⟩,
    ⟨(some 10), (.mv (.tmp 1)), none⟩,
    ⟨(some 11), (.load (.ar 32 L8) (.tmp 6)), none⟩,
    ⟨(some 12), (.load (.ar 32 L8) (.tmp 7)), none⟩,
    ⟨(some 13), (.bslice (.ar 32 L8) 2 (.agg (.ar 32 L8) (List.replicate 32 (.raw (u8 0#8)))) [(0, (.tmp 11)), (1, (.tmp 12))]), none⟩,
    ⟨(some 14), (.call 34 [(.tmp 9), (.tmp 10), (.const (it 33667)), (.tmp 13)]), none⟩,
    ⟨none, (.store (.ar 32 L8) (.tmp 8) (.tmp 14)), none⟩])
   .ret))
def r_lms_Node : List ARes := [(.cell 8 (.ar 32 L8))]
theorem c_lms_Node : o2 Go.Proofs.Tryd.f22.body (comp Go.Proofs.Tryd.prog Go.Proofs.Tryd.f22.ntmps) = some a_lms_Node := by kernel_rfl
theorem s_lms_Node : cRess Go.Proofs.Tryd.prog Go.Proofs.Tryd.f22.results.toList = some r_lms_Node := by kernel_rfl
theorem m_lms_Node (C : Ctx) (hC : CtxOK C Go.Proofs.Tryd.prog) : Meets C.glob Go.Proofs.Tryd.prog 22 (afun C 4 r_lms_Node a_lms_Node) :=
  fn_sound hC Go.Proofs.Tryd.func22 c_lms_Node s_lms_Node (Nat.le_of_ble_eq_true (by kernel_rfl))

/-- curtilage/lms.Height -/
def a_lms_Height : ACode :=
 (.seq
  (.region false [⟨(some 2), (.mv (.const (it 0))), none⟩,
   ⟨(some 3), (.mv (.const (.bool false))), none⟩])
  (.seq
   (.block 0
    (.seq
     (.region false [⟨(some 5), (.mv (.tmp 0)), none⟩,
      ⟨(some 6), (.bin .geq (.tmp 5) (.const (u32 5#32))), none⟩,
      ⟨(some 7), (.mv (.tmp 6)), none⟩,
      ⟨(some 8), (.mv (.tmp 0)), some (7, true)⟩,
      ⟨(some 9), (.bin .leq (.tmp 8) (.const (u32 9#32))), some (7, true)⟩,
      ⟨(some 10), (.pick (.tmp 7) (.tmp 9) (.const (.bool false))), none⟩,
      ⟨(some 4), (.mv (.tmp 10)), none⟩])
     (.cond (.tmp 4)
      (.seq
       (.region false [⟨(some 11), (.mv (.tmp 0)), none⟩,
        ⟨(some 12), (.bin .sub (.tmp 11) (.const (u32 4#32))), none⟩,
        ⟨(some 13), (.conv .i64 (.tmp 12)), none⟩,
        ⟨(some 14), (.bin .mul (.const (it 5)) (.tmp 13)), none⟩,
        ⟨(some 2), (.mv (.tmp 14)), none⟩,
        ⟨(some 3), (.mv (.const (.bool true))), none⟩])
       .ret)
      (.seq
       (.region false [⟨(some 16), (.mv (.tmp 0)), none⟩,
        ⟨(some 17), (.bin .gtr (.tmp 16) (.const (u32 3758096384#32))), none⟩,
        ⟨(some 18), (.mv (.tmp 17)), none⟩,
        ⟨(some 19), (.mv (.tmp 0)), some (18, true)⟩,
        ⟨(some 20), (.bin .leq (.tmp 19) (.const (u32 3758096388#32))), some (18, true)⟩,
        ⟨(some 21), (.pick (.tmp 18) (.tmp 20) (.const (.bool false))), none⟩,
        ⟨(some 15), (.mv (.tmp 21)), none⟩])
       (.cond (.tmp 15)
        (.seq
         (.region false [⟨(some 22), (.mv (.tmp 0)), none⟩,
          ⟨(some 23), (.bin .sub (.tmp 22) (.const (u32 3758096384#32))), none⟩,
          ⟨(some 24), (.conv .i64 (.tmp 23)), none⟩,
          ⟨(some 2), (.mv (.tmp 24)), none⟩,
          ⟨(some 3), (.mv (.const (.bool true))), none⟩])
         .ret)
        .skip)))))
   (.seq
    (.region false [⟨(some 2), (.mv (.const (it 0))), none⟩,
     ⟨(some 3), (.mv (.const (.bool false))), none⟩])
    .ret)))
def r_lms_Height : List ARes := [(.tmp 2), (.tmp 3)]
theorem c_lms_Height : o2 Go.Proofs.Tryd.f23.body (comp Go.Proofs.Tryd.prog Go.Proofs.Tryd.f23.ntmps) = some a_lms_Height := by kernel_rfl
theorem s_lms_Height : cRess Go.Proofs.Tryd.prog Go.Proofs.Tryd.f23.results.toList = some r_lms_Height := by kernel_rfl
theorem m_lms_Height (C : Ctx) (hC : CtxOK C Go.Proofs.Tryd.prog) : Meets C.glob Go.Proofs.Tryd.prog 23 (afun C 1 r_lms_Height a_lms_Height) :=
  fn_sound hC Go.Proofs.Tryd.func23 c_lms_Height s_lms_Height (Nat.le_of_ble_eq_true (by kernel_rfl))

/-- curtilage/ots.Params -/
def a_ots_Params : ACode :=
 (.seq
  (.region false [⟨(some 2), (.alloc S5 (.agg S5 [(.raw (it 0)), (.raw (it 0)), (.raw (it 0))])), none⟩,
   ⟨(some 3), (.mv (.const (.bool false))), none⟩])
  (.seq
   (.seq
    (.region false [⟨(some 4), (.mv (.tmp 0)), none⟩,
     ⟨(some 5), (.bin .lss (.tmp 4) (.const (u32 1#32))), none⟩,
     ⟨(some 6), (.mv (.tmp 5)), none⟩,
     ⟨(some 7), (.mv (.tmp 0)), some (6, false)⟩,
     ⟨(some 8), (.bin .gtr (.tmp 7) (.const (u32 4#32))), some (6, false)⟩,
     ⟨(some 9), (.pick (.tmp 6) (.const (.bool true)) (.tmp 8)), none⟩])
    (.cond (.tmp 9)
     (.seq
      (.region false [⟨(some 10), (.build S5 [(.raw (it 0)), (.raw (it 0)), (.raw (it 0))] []), none⟩,
       ⟨none, (.store S5 (.tmp 2) (.tmp 10)), none⟩,
       ⟨(some 3), (.mv (.const (.bool false))), none⟩])
      .ret)
     .skip))
   (.seq
    (.region false [⟨(some 11), (.mv (.tmp 0)), none⟩,
     ⟨(some 12), (.bin .sub (.tmp 11) (.const (u32 1#32))), none⟩,
     ⟨(some 13), (.iaddra 4 S5 (.glob 0) (.tmp 12)), none⟩,
     ⟨(some 14), (.load S5 (.tmp 13)), none⟩,
     ⟨none, (.store S5 (.tmp 2) (.tmp 14)), none⟩,
     ⟨(some 3), (.mv (.const (.bool true))), none⟩])
    .ret)))
def r_ots_Params : List ARes := [(.cell 2 S5), (.tmp 3)]
theorem c_ots_Params : o2 Go.Proofs.Tryd.f24.body (comp Go.Proofs.Tryd.prog Go.Proofs.Tryd.f24.ntmps) = some a_ots_Params := by kernel_rfl
theorem s_ots_Params : cRess Go.Proofs.Tryd.prog Go.Proofs.Tryd.f24.results.toList = some r_ots_Params := by kernel_rfl
theorem m_ots_Params (C : Ctx) (hC : CtxOK C Go.Proofs.Tryd.prog) : Meets C.glob Go.Proofs.Tryd.prog 24 (afun C 1 r_ots_Params a_ots_Params) :=
  fn_sound hC Go.Proofs.Tryd.func24 c_ots_Params s_ots_Params (Nat.le_of_ble_eq_true (by kernel_rfl))

/-- bytes.Equal -/
def a_bytes_Equal : ACode :=
 (.seq
  (.region false [⟨(some 4), (.mv (.const (.bool false))), none⟩])
  (.seq
   (.region false [⟨(some 5), (.mv (.tmp 0)), none⟩,
    ⟨(some 6), (.b2s (.tmp 5)), none⟩,
    ⟨(some 7), (.mv (.tmp 1)), none⟩,
    ⟨(some 8), (.b2s (.tmp 7)), none⟩,
    ⟨(some 9), (.bin .eql (.tmp 6) (.tmp 8)), none⟩,
    ⟨(some 4), (.mv (.tmp 9)), none⟩])
   .ret))
def r_bytes_Equal : List ARes := [(.tmp 4)]
theorem c_bytes_Equal : o2 Go.Proofs.Tryd.f25.body (comp Go.Proofs.Tryd.prog Go.Proofs.Tryd.f25.ntmps) = some a_bytes_Equal := by kernel_rfl
theorem s_bytes_Equal : cRess Go.Proofs.Tryd.prog Go.Proofs.Tryd.f25.results.toList = some r_bytes_Equal := by kernel_rfl
theorem m_bytes_Equal (C : Ctx) (hC : CtxOK C Go.Proofs.Tryd.prog) : Meets C.glob Go.Proofs.Tryd.prog 25 (afun C 2 r_bytes_Equal a_bytes_Equal) :=
  fn_sound hC Go.Proofs.Tryd.func25 c_bytes_Equal s_bytes_Equal (Nat.le_of_ble_eq_true (by kernel_rfl))

/-- curtilage/lms.Parts$1 -/
def a_lms_Parts_1 : ACode :=
 (.seq
  (.region false [⟨(some 2), (.mv (.const (u32 0#32))), none⟩,
   ⟨(some 3), (.mv (.const (.slice none 0 0))), none⟩,
   ⟨(some 4), (.mv (.const (u32 0#32))), none⟩,
   ⟨(some 5), (.mv (.const (.slice none 0 0))), none⟩,
   ⟨(some 6), (.mv (.const (it 0))), none⟩])
  (.seq
   (.region false [⟨(some 7), (.mv (.tmp 0)), none⟩,
    ⟨(some 2), (.mv (.const (u32 0#32))), none⟩,
    ⟨(some 3), (.mv (.const (.slice none 0 0))), none⟩,
    ⟨(some 4), (.mv (.const (u32 0#32))), none⟩,
    ⟨(some 5), (.mv (.const (.slice none 0 0))), none⟩,
    ⟨(some 6), (.mv (.tmp 7)), none⟩])
   .ret))
def r_lms_Parts_1 : List ARes := [(.tmp 2), (.tmp 3), (.tmp 4), (.tmp 5), (.tmp 6)]
theorem c_lms_Parts_1 : o2 Go.Proofs.Tryd.f26.body (comp Go.Proofs.Tryd.prog Go.Proofs.Tryd.f26.ntmps) = some a_lms_Parts_1 := by kernel_rfl
theorem s_lms_Parts_1 : cRess Go.Proofs.Tryd.prog Go.Proofs.Tryd.f26.results.toList = some r_lms_Parts_1 := by kernel_rfl
theorem m_lms_Parts_1 (C : Ctx) (hC : CtxOK C Go.Proofs.Tryd.prog) : Meets C.glob Go.Proofs.Tryd.prog 26 (afun C 1 r_lms_Parts_1 a_lms_Parts_1) :=
  fn_sound hC Go.Proofs.Tryd.func26 c_lms_Parts_1 s_lms_Parts_1 (Nat.le_of_ble_eq_true (by kernel_rfl))

/-- curtilage/lms.take -/
def a_lms_take : ACode :=
 (.seq
  (.region false [⟨(some 4), (.mv (.const (.slice none 0 0))), none⟩,
   ⟨(some 5), (.mv (.const (.bool false))), none⟩])
  (.seq
   (.seq
    (.region false [⟨(some 7), (.mv (.tmp 0)), none⟩,
     ⟨(some 8), (.nilc (.tmp 7)), none⟩,
     ⟨(some 9), (.load .ref (.tmp 8)), none⟩,
     ⟨(some 10), (.len (.tmp 9)), none⟩,
     ⟨(some 11), (.mv (.tmp 1)), none⟩,
     ⟨(some 12), (.bin .lss (.tmp 10) (.tmp 11)), none⟩])
    (.cond (.tmp 12)
     (.seq
      (.region false [⟨(some 4), (.mv (.const (.slice none 0 0))), none⟩,
       ⟨(some 5), (.mv (.const (.bool false))), none⟩])
      .ret)
     .skip))
   (.seq
    (.region false [⟨(some 13), (.mv (.tmp 0)), none⟩,
     ⟨(some 14), (.nilc (.tmp 13)), none⟩,
     ⟨(some 15), (.load .ref (.tmp 14)), none⟩,
     ⟨(some 16), (.mv (.tmp 1)), none⟩,
     ⟨(some 17), (.mv (.tmp 1)), none⟩,
     ⟨(some 18), (.slice L8 (.tmp 15) none (some (.tmp 16)) (some (.tmp 17))), none⟩,
     ⟨(some 6), (.mv (.tmp 18)), none⟩])
    (.seq
     (.region false [⟨(some 19), (.mv (.tmp 0)), none⟩,
      ⟨(some 20), (.mv (.tmp 0)), none⟩,
      ⟨(some 21), (.nilc (.tmp 20)), none⟩,
      ⟨(some 22), (.load .ref (.tmp 21)), none⟩,
      ⟨(some 23), (.mv (.tmp 1)), none⟩,
      ⟨(some 24), (.slice L8 (.tmp 22) (some (.tmp 23)) none none), none⟩,
      ⟨(some 25), (.nilc (.tmp 19)), none⟩,
      ⟨none, (.store .ref (.tmp 25) (.tmp 24)), none⟩])
     (.seq
      (.region false [⟨(some 26), (.mv (.tmp 6)), none⟩,
       ⟨(some 4), (.mv (.tmp 26)), none⟩,
       ⟨(some 5), (.mv (.const (.bool true))), none⟩])
      .ret)))))
def r_lms_take : List ARes := [(.tmp 4), (.tmp 5)]
theorem c_lms_take : o2 Go.Proofs.Tryd.f27.body (comp Go.Proofs.Tryd.prog Go.Proofs.Tryd.f27.ntmps) = some a_lms_take := by kernel_rfl
theorem s_lms_take : cRess Go.Proofs.Tryd.prog Go.Proofs.Tryd.f27.results.toList = some r_lms_take := by kernel_rfl
theorem m_lms_take (C : Ctx) (hC : CtxOK C Go.Proofs.Tryd.prog) : Meets C.glob Go.Proofs.Tryd.prog 27 (afun C 2 r_lms_take a_lms_take) :=
  fn_sound hC Go.Proofs.Tryd.func27 c_lms_take s_lms_take (Nat.le_of_ble_eq_true (by kernel_rfl))

/-- curtilage/ots.Split -/
def a_ots_Split : ACode :=
 (.seq
  (.region false [⟨(some 2), (.mv (.const (u32 0#32))), none⟩,
   ⟨(some 3), (.alloc (.ar 32 L8) (.agg (.ar 32 L8) (List.replicate 32 (.raw (u8 0#8))))), none⟩,
   ⟨(some 4), (.mv (.const (.slice none 0 0))), none⟩,
   ⟨(some 5), (.mv (.const (it 0))), none⟩])
  (.seq
   (.seq
    (.region false [⟨(some 11), (.mv (.tmp 0)), none⟩,
     ⟨(some 12), (.len (.tmp 11)), none⟩,
     ⟨(some 13), (.bin .lss (.tmp 12) (.const (it 4))), none⟩])
    (.cond (.tmp 13)
     (.seq
      (.region false [⟨(some 14), (.build (.ar 32 L8) (List.replicate 32 (.raw (u8 0#8))) []), none⟩,
       ⟨(some 2), (.mv (.const (u32 0#32))), none⟩,
       ⟨none, (.store (.ar 32 L8) (.tmp 3) (.tmp 14)), none⟩,
       ⟨(some 4), (.mv (.const (.slice none 0 0))), none⟩,
       ⟨(some 5), (.mv (.const (it 2))), none⟩])
      .ret)
     .skip))
   (.seq
    (.region true [⟨(some 15), (.mv (.tmp 0)), none⟩,
     ⟨(some 16), (.iaddrs L8 (.tmp 15) (.const (it 0))), none⟩,
     ⟨(some 17), (.load L8 (.tmp 16)), none⟩,
     ⟨(some 18), (.conv .u32 (.tmp 17)), none⟩,
     ⟨(some 19), (.bin .shl (.tmp 18) (.const (u64 24#64))), none⟩,
     ⟨(some 20), (.mv (.tmp 0)), none⟩,
     ⟨(some 21), (.iaddrs L8 (.tmp 20) (.const (it 1))), none⟩,
     ⟨(some 22), (.load L8 (.tmp 21)), none⟩,
     ⟨(some 23), (.conv .u32 (.tmp 22)), none⟩,
     ⟨(some 24), (.bin .shl (.tmp 23) (.const (u64 16#64))), none⟩,
     ⟨(some 25), (.bin .or (.tmp 19) (.tmp 24)), none⟩,
     ⟨(some 26), (.mv (.tmp 0)), none⟩,
     ⟨(some 27), (.iaddrs L8 (.tmp 26) (.const (it 2))), none⟩,
     ⟨(some 28), (.load L8 (.tmp 27)), none⟩,
     ⟨(some 29), (.conv .u32 (.tmp 28)), none⟩,
     ⟨(some 30), (.bin .shl (.tmp 29) (.const (u64 8#64))), none⟩,
     ⟨(some 31), (.bin .or (.tmp 25) (.tmp 30)), none⟩,
     ⟨(some 32), (.mv (.tmp 0)), none⟩,
     ⟨(some 33), (.iaddrs L8 (.tmp 32) (.const (it 3))), none⟩,
     ⟨(some 34), (.load L8 (.tmp 33)), none⟩,
     ⟨(some 35), (.conv .u32 (.tmp 34)), none⟩,
     ⟨(some 36), (.bin .or (.tmp 31) (.tmp 35)), none⟩,
     ⟨(some 6), (.mv (.tmp 36)), none⟩])
    (.seq
     (.region false [⟨(some 38), (.mv (.tmp 6)), none⟩,
      ⟨(some 39), (.call 24 [(.tmp 38)]), none⟩,
      ⟨(some 37), (.mv (.tmp 39)), none⟩,
      ⟨(some 40), (.ext (.tmp 37) 0), none⟩,
      ⟨(some 41), (.ext (.tmp 37) 1), none⟩,
      ⟨(some 7), (.alloc S5 (.agg S5 [(.raw (it 0)), (.raw (it 0)), (.raw (it 0))])), none⟩,
      ⟨none, (.store S5 (.tmp 7) (.tmp 40)), none⟩,
      ⟨(some 8), (.mv (.tmp 41)), none⟩])
     (.seq
      (.block 0
       (.seq
        (.region false [⟨(some 43), (.mv (.tmp 8)), none⟩,
         ⟨(some 44), (.un .not (.tmp 43)), none⟩,
         ⟨(some 42), (.mv (.tmp 44)), none⟩])
        (.cond (.tmp 42)
         (.seq
          (.region false [⟨(some 45), (.build (.ar 32 L8) (List.replicate 32 (.raw (u8 0#8))) []), none⟩,
           ⟨(some 2), (.mv (.const (u32 0#32))), none⟩,
           ⟨none, (.store (.ar 32 L8) (.tmp 3) (.tmp 45)), none⟩,
           ⟨(some 4), (.mv (.const (.slice none 0 0))), none⟩,
           ⟨(some 5), (.mv (.const (it 6))), none⟩])
          .ret)
         (.seq
          (.region false [⟨(some 47), (.mv (.tmp 0)), none⟩,
           ⟨(some 48), (.len (.tmp 47)), none⟩,
           ⟨(some 49), (.faddr S5 (.tmp 7) 1), none⟩,
           ⟨(some 50), (.load LI (.tmp 49)), none⟩,
           ⟨(some 51), (.bin .add (.tmp 50) (.const (it 1))), none⟩,
           ⟨(some 52), (.bin .mul (.const (it 32)) (.tmp 51)), none⟩,
           ⟨(some 53), (.bin .add (.const (it 4)) (.tmp 52)), none⟩,
           ⟨(some 54), (.bin .neq (.tmp 48) (.tmp 53)), none⟩,
           ⟨(some 46), (.mv (.tmp 54)), none⟩])
          (.cond (.tmp 46)
           (.seq
            (.region false [⟨(some 55), (.build (.ar 32 L8) (List.replicate 32 (.raw (u8 0#8))) []), none⟩,
             ⟨(some 2), (.mv (.const (u32 0#32))), none⟩,
             ⟨none, (.store (.ar 32 L8) (.tmp 3) (.tmp 55)), none⟩,
             ⟨(some 4), (.mv (.const (.slice none 0 0))), none⟩,
             ⟨(some 5), (.mv (.const (it 2))), none⟩])
            .ret)
           .skip)))))
      (.seq
       (.region false [⟨(some 9), (.mv (.const (.slice none 0 0))), none⟩])
       (.seq
        (.seq
         (.region false [⟨(some 56), (.mv (.tmp 0)), none⟩,
          ⟨(some 57), (.slice L8 (.tmp 56) (some (.const (it 36))) none none), none⟩,
          ⟨(some 10), (.mv (.tmp 57)), none⟩])
         (.block 1
          (.loop
           (.seq
            (.seq
             (.region false [⟨(some 58), (.mv (.tmp 10)), none⟩,
              ⟨(some 59), (.len (.tmp 58)), none⟩,
              ⟨(some 60), (.bin .gtr (.tmp 59) (.const (it 0))), none⟩])
             (.cond (.tmp 60)
              .skip
              (.exit 1)))
            (.seq
             (.block 2
              (.region false [⟨(some 63), (.mv (.tmp 9)), none⟩,
               ⟨(some 64), (.mv (.tmp 10)), none⟩,
               ⟨(some 65), (.slice L8 (.tmp 64) none (some (.const (it 32))) none), none⟩,
               ⟨(some 66), (.s2a 32 L8 (.tmp 65)), none⟩,
               ⟨(some 67), (.load (.ar 32 L8) (.tmp 66)), none⟩,
               ⟨(some 68), (.bslice (.ar 32 L8) 1 (.agg (.ar 32 L8) (List.replicate 32 (.raw (u8 0#8)))) [(0, (.tmp 67))]), none⟩,
               ⟨(some 69), (.append (.ar 32 L8) 32 (.tmp 63) (.tmp 68)), none⟩,
               ⟨(some 9), (.mv (.tmp 69)), none⟩]))
             (.region false [⟨(some 61), (.mv (.tmp 10)), none⟩,
              ⟨(some 62), (.slice L8 (.tmp 61) (some (.const (it 32))) none none), none⟩,
              ⟨(some 10), (.mv (.tmp 62)), none⟩]))))))
        (.seq
         (.draw [⟨(some 70), (.mv (.tmp 6)), none⟩,
          ⟨(some 71), (.mv (.tmp 0)), none⟩,
          ⟨(some 72), (.slice L8 (.tmp 71) (some (.const (it 4))) (some (.const (it 36))) none), none⟩,
          ⟨(some 73), (.s2a 32 L8 (.tmp 72)), none⟩,
          ⟨(some 74), (.load (.ar 32 L8) (.tmp 73)), none⟩,
          ⟨(some 75), (.mv (.tmp 9)), none⟩,
          ⟨(some 2), (.mv (.tmp 70)), none⟩]
          [⟨(some 75), (.mv (.tmp 9)), none⟩]
          [(⟨none, (.store (.ar 32 L8) (.tmp 3) (.tmp 74)), none⟩, [⟨(some 75), (.mv (.tmp 9)), none⟩]),
          (⟨(some 4), (.mv (.tmp 75)), none⟩, []),
          (⟨(some 5), (.mv (.const (it 0))), none⟩, [])])
         .ret))))))))
def r_ots_Split : List ARes := [(.tmp 2), (.cell 3 (.ar 32 L8)), (.tmp 4), (.tmp 5)]
theorem c_ots_Split : o2 Go.Proofs.Tryd.f28.body (comp Go.Proofs.Tryd.prog Go.Proofs.Tryd.f28.ntmps) = some a_ots_Split := by kernel_rfl
theorem s_ots_Split : cRess Go.Proofs.Tryd.prog Go.Proofs.Tryd.f28.results.toList = some r_ots_Split := by kernel_rfl
theorem m_ots_Split (C : Ctx) (hC : CtxOK C Go.Proofs.Tryd.prog) : Meets C.glob Go.Proofs.Tryd.prog 28 (afun C 1 r_ots_Split a_ots_Split) :=
  fn_sound hC Go.Proofs.Tryd.func28 c_ots_Split s_ots_Split (Nat.le_of_ble_eq_true (by kernel_rfl))

/-- curtilage/ots.Digits -/
def a_ots_Digits : ACode :=
 (.seq
  (.region false [⟨(some 3), (.box (.ar 32 L8) (.tmp 1)), none⟩,
   ⟨(some 4), (.mv (.const (.slice none 0 0))), none⟩])
  (.seq
   (.region false [⟨(some 13), (.mv (.tmp 0)), none⟩,
    ⟨(some 14), (.call 24 [(.tmp 13)]), none⟩,
    ⟨(some 12), (.mv (.tmp 14)), none⟩,
    ⟨(some 15), (.ext (.tmp 12) 0), none⟩,
    ⟨(some 16), (.ext (.tmp 12) 1), none⟩,
    ⟨(some 5), (.alloc S5 (.agg S5 [(.raw (it 0)), (.raw (it 0)), (.raw (it 0))])), none⟩,
    ⟨none, (.store S5 (.tmp 5) (.tmp 15)), none⟩,
    ⟨(some 6), (.mv (.tmp 16)), none⟩])
   (.seq
    (.seq
     (.region false [⟨(some 17), (.mv (.tmp 6)), none⟩,
      ⟨(some 18), (.un .not (.tmp 17)), none⟩])
     (.cond (.tmp 18)
      (.seq
       (.region false [⟨(some 4), (.mv (.const (.slice none 0 0))), none⟩])
       .ret)
      .skip))
    (.seq
     (.region false [⟨(some 7), (.mv (.const (it 0))), none⟩])
     (.seq
      (.seq
       (.region false [⟨(some 19), (.faddr S5 (.tmp 5) 0), none⟩,
        ⟨(some 20), (.load LI (.tmp 19)), none⟩,
        ⟨(some 21), (.bin .quo (.const (it 256)) (.tmp 20)), none⟩,
        ⟨(some 22), (.mv (.const (it 0))), none⟩])
       (.block 0
        (.loop
         (.seq
          (.region false [⟨(some 23), (.bin .lss (.tmp 22) (.tmp 21)), none⟩])
          (.seq
           (.cond (.tmp 23)
            .skip
            (.exit 0))
           (.seq
            (.block 1
             (.seq
              (.region false [⟨(some 24), (.mv (.tmp 22)), none⟩,
               ⟨(some 8), (.mv (.tmp 24)), none⟩])
              (.region true [⟨(some 25), (.mv (.tmp 7)), none⟩,
               ⟨(some 26), (.load S5 (.tmp 5)), none⟩,
               ⟨(some 27), (.call 32 [(.tmp 26)]), none⟩,
               ⟨(some 28), (.slicea 32 L8 (.tmp 3) none none none), none⟩,
               ⟨(some 29), (.mv (.tmp 8)), none⟩,
               ⟨(some 30), (.faddr S5 (.tmp 5) 0), none⟩,
               ⟨(some 31), (.load LI (.tmp 30)), none⟩,
               ⟨(some 32), (.call 35 [(.tmp 28), (.tmp 29), (.tmp 31)]), none⟩,
               ⟨(some 33), (.bin .sub (.tmp 27) (.tmp 32)), none⟩,
               ⟨(some 34), (.bin .add (.tmp 25) (.tmp 33)), none⟩,
               ⟨(some 7), (.mv (.tmp 34)), none⟩])))
            (.region false [⟨(some 35), (.bin .add (.tmp 22) (.const (it 1))), none⟩,
             ⟨(some 22), (.mv (.tmp 35)), none⟩])))))))
      (.seq
       (.region true [⟨(some 36), (.slicea 32 L8 (.tmp 3) none none none), none⟩,
        ⟨(some 37), (.mv (.tmp 7)), none⟩,
        ⟨(some 38), (.faddr S5 (.tmp 5) 2), none⟩,
        ⟨(some 39), (.load LI (.tmp 38)), none⟩,
        ⟨(some 40), (.bin .shl (.tmp 37) (.tmp 39)), none⟩,
        ⟨(some 41), (.call 36 [(.tmp 40)]), none⟩,
        ⟨(some 42), (.append L8 1 (.tmp 36) (.tmp 41)), none⟩,
        ⟨(some 9), (.mv (.tmp 42)), none⟩])
       (.seq
        (.region false [⟨(some 43), (.faddr S5 (.tmp 5) 1), none⟩,
         ⟨(some 44), (.load LI (.tmp 43)), none⟩,
         ⟨(some 45), (.mks LI 8 (.raw (it 0)) (.const (it 0)) (.tmp 44)), none⟩,
         ⟨(some 10), (.mv (.tmp 45)), none⟩])
        (.seq
         (.seq
          (.region false [⟨(some 46), (.faddr S5 (.tmp 5) 1), none⟩,
           ⟨(some 47), (.load LI (.tmp 46)), none⟩,
           ⟨(some 48), (.mv (.const (it 0))), none⟩])
          (.block 2
           (.loop
            (.seq
             (.region false [⟨(some 49), (.bin .lss (.tmp 48) (.tmp 47)), none⟩])
             (.seq
              (.cond (.tmp 49)
               .skip
               (.exit 2))
              (.seq
               (.block 3
                (.seq
                 (.region false [⟨(some 50), (.mv (.tmp 48)), none⟩,
                  ⟨(some 11), (.mv (.tmp 50)), none⟩])
                 (.region false [⟨(some 51), (.mv (.tmp 10)), none⟩,
                  ⟨(some 52), (.mv (.tmp 9)), none⟩,
                  ⟨(some 53), (.mv (.tmp 11)), none⟩,
                  ⟨(some 54), (.faddr S5 (.tmp 5) 0), none⟩,
                  ⟨(some 55), (.load LI (.tmp 54)), none⟩,
                  ⟨(some 56), (.call 35 [(.tmp 52), (.tmp 53), (.tmp 55)]), none⟩,
                  ⟨(some 57), (.bslice LI 1 (.raw (it 0)) [(0, (.tmp 56))]), none⟩,
                  ⟨(some 58), (.append LI 8 (.tmp 51) (.tmp 57)), none⟩,
                  ⟨(some 10), (.mv (.tmp 58)), none⟩])))
               (.region false [⟨(some 59), (.bin .add (.tmp 48) (.const (it 1))), none⟩,
                ⟨(some 48), (.mv (.tmp 59)), none⟩])))))))
         (.seq
          (.region false [⟨(some 60), (.mv (.tmp 10)), none⟩,
           ⟨(some 4), (.mv (.tmp 60)), none⟩])
          .ret)))))))))
def r_ots_Digits : List ARes := [(.tmp 4)]
theorem c_ots_Digits : o2 Go.Proofs.Tryd.f29.body (comp Go.Proofs.Tryd.prog Go.Proofs.Tryd.f29.ntmps) = some a_ots_Digits := by kernel_rfl
theorem s_ots_Digits : cRess Go.Proofs.Tryd.prog Go.Proofs.Tryd.f29.results.toList = some r_ots_Digits := by kernel_rfl
theorem m_ots_Digits (C : Ctx) (hC : CtxOK C Go.Proofs.Tryd.prog) : Meets C.glob Go.Proofs.Tryd.prog 29 (afun C 2 r_ots_Digits a_ots_Digits) :=
  fn_sound hC Go.Proofs.Tryd.func29 c_ots_Digits s_ots_Digits (Nat.le_of_ble_eq_true (by kernel_rfl))

/-- curtilage/ots.Mash -/
def a_ots_Mash : ACode :=
 (.seq
  (.region false [⟨(some 3), (.box S4 (.tmp 0)), none⟩,
   ⟨(some 4), (.box (.ar 32 L8) (.tmp 1)), none⟩,
   ⟨(some 6), (.alloc (.ar 32 L8) (.agg (.ar 32 L8) (List.replicate 32 (.raw (u8 0#8))))), none⟩])
  (.seq
   (.draw1 [⟨(some 7), (.load S4 (.tmp 3)), none⟩,
    ⟨(some 8), (.call 37 [(.tmp 7)]), none⟩,
    ⟨(some 9), (.call 36 [(.const (it 33153))]), none⟩,
    ⟨(some 10), (.call 38 [(.tmp 8), (.tmp 9)]), none⟩,
    ⟨(some 11), (.slicea 32 L8 (.tmp 4) none none none), none⟩,
    ⟨(some 12), (.call 38 [(.tmp 10), (.tmp 11)]), none⟩,
    ⟨(some 13), (.mv (.tmp 2)), none⟩]
    [⟨(some 14), (.call 38 [(.tmp 12), (.tmp 13)]), none⟩,
    ⟨(some 15), (.call 39 [(.tmp 14)]), none⟩,
    ⟨none, (.store (.ar 32 L8) (.tmp 6) (.tmp 15)), none⟩])
   .ret))
def r_ots_Mash : List ARes := [(.cell 6 (.ar 32 L8))]
theorem c_ots_Mash : o2 Go.Proofs.Tryd.f30.body (comp Go.Proofs.Tryd.prog Go.Proofs.Tryd.f30.ntmps) = some a_ots_Mash := by kernel_rfl
theorem s_ots_Mash : cRess Go.Proofs.Tryd.prog Go.Proofs.Tryd.f30.results.toList = some r_ots_Mash := by kernel_rfl
theorem m_ots_Mash (C : Ctx) (hC : CtxOK C Go.Proofs.Tryd.prog) : Meets C.glob Go.Proofs.Tryd.prog 30 (afun C 3 r_ots_Mash a_ots_Mash) :=
  fn_sound hC Go.Proofs.Tryd.func30 c_ots_Mash s_ots_Mash (Nat.le_of_ble_eq_true (by kernel_rfl))

/-- curtilage/ots.Chain -/
def a_ots_Chain : ACode :=
 (.seq
  (.region false [⟨(some 5), (.box S4 (.tmp 0)), none⟩,
   ⟨(some 9), (.box (.ar 32 L8) (.tmp 4)), none⟩,
   ⟨(some 10), (.alloc (.ar 32 L8) (.agg (.ar 32 L8) (List.replicate 32 (.raw (u8 0#8))))), none⟩])
  (.seq
   (.seq
    (.region false [⟨(some 12), (.mv (.tmp 2)), none⟩,
     ⟨(some 13), (.minmax true [(.tmp 12), (.const (it 0))]), none⟩,
     ⟨(some 11), (.mv (.tmp 13)), none⟩])
    (.block 0
     (.loop
      (.seq
       (.seq
        (.region false [⟨(some 14), (.mv (.tmp 11)), none⟩,
         ⟨(some 15), (.mv (.tmp 3)), none⟩,
         ⟨(some 16), (.minmax false [(.tmp 15), (.const (it 256))]), none⟩,
         ⟨(some 17), (.bin .lss (.tmp 14) (.tmp 16)), none⟩])
        (.cond (.tmp 17)
         .skip
         (.exit 0)))
       (.seq
        (.block 1
         (.region false [⟨(some 20), (.load S4 (.tmp 5)), none⟩,
          ⟨(some 21), (.mv (.tmp 1)), none⟩,
          ⟨(some 22), (.mv (.tmp 11)), none⟩,
          ⟨(some 23), (.load (.ar 32 L8) (.tmp 9)), none⟩,
          ⟨(some 24), (.call 40 [(.tmp 20), (.tmp 21), (.tmp 22), (.tmp 23)]), none⟩,
          ⟨none, (.store (.ar 32 L8) (.tmp 9) (.tmp 24)), none⟩]))
        (.region false [⟨(some 18), (.mv (.tmp 11)), none⟩,
         ⟨(some 19), (.bin .add (.tmp 18) (.const (it 1))), none⟩,
         ⟨(some 11), (.mv (.tmp 19)), none⟩]))))))
   (.seq
    (.region false [⟨(some 25), (.load (.ar 32 L8) (.tmp 9)), none⟩,
     ⟨none, (.store (.ar 32 L8) (.tmp 10) (.tmp 25)), none⟩])
    .ret)))
def r_ots_Chain : List ARes := [(.cell 10 (.ar 32 L8))]
theorem c_ots_Chain : o2 Go.Proofs.Tryd.f31.body (comp Go.Proofs.Tryd.prog Go.Proofs.Tryd.f31.ntmps) = some a_ots_Chain := by kernel_rfl
theorem s_ots_Chain : cRess Go.Proofs.Tryd.prog Go.Proofs.Tryd.f31.results.toList = some r_ots_Chain := by kernel_rfl
theorem m_ots_Chain (C : Ctx) (hC : CtxOK C Go.Proofs.Tryd.prog) : Meets C.glob Go.Proofs.Tryd.prog 31 (afun C 5 r_ots_Chain a_ots_Chain) :=
  fn_sound hC Go.Proofs.Tryd.func31 c_ots_Chain s_ots_Chain (Nat.le_of_ble_eq_true (by kernel_rfl))

/-- (curtilage/ots.Param).end -/
def a_ots_Param_end : ACode :=
 (.seq
  (.region false [⟨(some 1), (.box S5 (.tmp 0)), none⟩,
   ⟨(some 2), (.mv (.const (it 0))), none⟩])
  (.seq
   (.region false [⟨(some 3), (.faddr S5 (.tmp 1) 0), none⟩,
    ⟨(some 4), (.load LI (.tmp 3)), none⟩,
    ⟨(some 5), (.bin .shl (.const (it 1)) (.tmp 4)), none⟩,
    ⟨(some 6), (.bin .sub (.tmp 5) (.const (it 1))), none⟩,
    ⟨(some 2), (.mv (.tmp 6)), none⟩])
   .ret))
def r_ots_Param_end : List ARes := [(.tmp 2)]
theorem c_ots_Param_end : o2 Go.Proofs.Tryd.f32.body (comp Go.Proofs.Tryd.prog Go.Proofs.Tryd.f32.ntmps) = some a_ots_Param_end := by kernel_rfl
theorem s_ots_Param_end : cRess Go.Proofs.Tryd.prog Go.Proofs.Tryd.f32.results.toList = some r_ots_Param_end := by kernel_rfl
theorem m_ots_Param_end (C : Ctx) (hC : CtxOK C Go.Proofs.Tryd.prog) : Meets C.glob Go.Proofs.Tryd.prog 32 (afun C 1 r_ots_Param_end a_ots_Param_end) :=
  fn_sound hC Go.Proofs.Tryd.func32 c_ots_Param_end s_ots_Param_end (Nat.le_of_ble_eq_true (by kernel_rfl))

/-- curtilage/ots.Fold -/
def a_ots_Fold : ACode :=
 (.seq
  (.region false [⟨(some 2), (.box S4 (.tmp 0)), none⟩,
   ⟨(some 4), (.alloc (.ar 32 L8) (.agg (.ar 32 L8) (List.replicate 32 (.raw (u8 0#8))))), none⟩])
  (.seq
   (.region false [⟨(some 8), (.load S4 (.tmp 2)), none⟩,
    ⟨(some 9), (.call 37 [(.tmp 8)]), none⟩,
    ⟨(some 10), (.call 36 [(.const (it 32896))]), none⟩,
    ⟨(some 11), (.call 38 [(.tmp 9), (.tmp 10)]), none⟩,
    ⟨(some 5), (.alloc S6 (.agg S6 [(.agg (.ar 8 L32) (List.replicate 8 (.raw (u32 0#32)))), (.agg (.ar 64 L8) (List.replicate 64 (.raw (u8 0#8)))), (.raw (u64 0#64))])), none⟩,
    ⟨none, (.store S6 (.tmp 5) (.tmp 11)), none⟩])
   (.seq
    (.seq
     (.region false [⟨(some 12), (.mv (.tmp 1)), none⟩,
      ⟨(some 13), (.len (.tmp 12)), none⟩,
      ⟨(some 14), (.mv (.const (it 0))), none⟩])
     (.block 0
      (.loop
       (.seq
        (.region false [⟨(some 15), (.bin .lss (.tmp 14) (.tmp 13)), none⟩])
        (.seq
         (.cond (.tmp 15)
          .skip
          (.exit 0))
         (.seq
          (.block 1
           (.seq
            (.region false [⟨(some 16), (.iaddrs (.ar 32 L8) (.tmp 12) (.tmp 14)), none⟩,
             ⟨(some 17), (.load (.ar 32 L8) (.tmp 16)), none⟩,
             ⟨(some 7), (.alloc (.ar 32 L8) (.agg (.ar 32 L8) (List.replicate 32 (.raw (u8 0#8))))), none⟩,
             ⟨none, (.store (.ar 32 L8) (.tmp 7) (.tmp 17)), none⟩])
            (.draw1 [⟨(some 18), (.load S6 (.tmp 5)), none⟩,
             ⟨(some 19), (.slicea 32 L8 (.tmp 7) none none none), none⟩]
             [⟨(some 20), (.call 38 [(.tmp 18), (.tmp 19)]), none⟩,
             ⟨none, (.store S6 (.tmp 5) (.tmp 20)), none⟩])))
          (.region false [⟨(some 21), (.bin .add (.tmp 14) (.const (it 1))), none⟩,
           ⟨(some 14), (.mv (.tmp 21)), none⟩])))))))
    (.seq
     (.region false [⟨(some 22), (.load S6 (.tmp 5)), none⟩,
      ⟨(some 23), (.call 39 [(.tmp 22)]), none⟩,
      ⟨none, (.store (.ar 32 L8) (.tmp 4) (.tmp 23)), none⟩])
     .ret))))
def r_ots_Fold : List ARes := [(.cell 4 (.ar 32 L8))]
theorem c_ots_Fold : o2 Go.Proofs.Tryd.f33.body (comp Go.Proofs.Tryd.prog Go.Proofs.Tryd.f33.ntmps) = some a_ots_Fold := by kernel_rfl
theorem s_ots_Fold : cRess Go.Proofs.Tryd.prog Go.Proofs.Tryd.f33.results.toList = some r_ots_Fold := by kernel_rfl
theorem m_ots_Fold (C : Ctx) (hC : CtxOK C Go.Proofs.Tryd.prog) : Meets C.glob Go.Proofs.Tryd.prog 33 (afun C 2 r_ots_Fold a_ots_Fold) :=
  fn_sound hC Go.Proofs.Tryd.func33 c_ots_Fold s_ots_Fold (Nat.le_of_ble_eq_true (by kernel_rfl))

/-- curtilage/lms.hash -/
def a_lms_hash : ACode :=
 (.seq
  (.region false [⟨(some 4), (.box (.ar 16 L8) (.tmp 0)), none⟩,
   ⟨(some 8), (.alloc (.ar 32 L8) (.agg (.ar 32 L8) (List.replicate 32 (.raw (u8 0#8))))), none⟩])
  (.seq
   (.region true [⟨(some 12), (.call 41 []), none⟩,
    ⟨(some 13), (.slicea 16 L8 (.tmp 4) none none none), none⟩,
    ⟨(some 14), (.call 38 [(.tmp 12), (.tmp 13)]), none⟩,
    ⟨(some 15), (.mv (.tmp 1)), none⟩,
    ⟨(some 16), (.call 42 [(.tmp 15)]), none⟩,
    ⟨(some 17), (.call 38 [(.tmp 14), (.tmp 16)]), none⟩,
    ⟨(some 18), (.mv (.tmp 2)), none⟩,
    ⟨(some 19), (.bin .shr (.tmp 18) (.const (u64 8#64))), none⟩,
    ⟨(some 20), (.conv .u8 (.tmp 19)), none⟩,
    ⟨(some 21), (.mv (.tmp 2)), none⟩,
    ⟨(some 22), (.conv .u8 (.tmp 21)), none⟩,
    ⟨(some 23), (.bslice L8 2 (.raw (u8 0#8)) [(0, (.tmp 20)), (1, (.tmp 22))]), none⟩,
    ⟨(some 24), (.call 38 [(.tmp 17), (.tmp 23)]), none⟩,
    ⟨(some 9), (.alloc S6 (.agg S6 [(.agg (.ar 8 L32) (List.replicate 8 (.raw (u32 0#32)))), (.agg (.ar 64 L8) (List.replicate 64 (.raw (u8 0#8)))), (.raw (u64 0#64))])), none⟩,
    ⟨none, (.store S6 (.tmp 9) (.tmp 24)), none⟩])
   (.seq
    (.seq
     (.region false [⟨(some 25), (.mv (.tmp 3)), none⟩,
      ⟨(some 26), (.len (.tmp 25)), none⟩,
      ⟨(some 27), (.mv (.const (it 0))), none⟩])
     (.block 0
      (.loop
       (.seq
        (.region false [⟨(some 28), (.bin .lss (.tmp 27) (.tmp 26)), none⟩])
        (.seq
         (.cond (.tmp 28)
          .skip
          (.exit 0))
         (.seq
          (.block 1
           (.seq
            (.region false [⟨(some 29), (.iaddrs (.ar 32 L8) (.tmp 25) (.tmp 27)), none⟩,
             ⟨(some 30), (.load (.ar 32 L8) (.tmp 29)), none⟩,
             ⟨(some 11), (.alloc (.ar 32 L8) (.agg (.ar 32 L8) (List.replicate 32 (.raw (u8 0#8))))), none⟩,
             ⟨none, (.store (.ar 32 L8) (.tmp 11) (.tmp 30)), none⟩])
            (.draw1 [⟨(some 31), (.load S6 (.tmp 9)), none⟩,
             ⟨(some 32), (.slicea 32 L8 (.tmp 11) none none none), none⟩]
             [⟨(some 33), (.call 38 [(.tmp 31), (.tmp 32)]), none⟩,
             ⟨none, (.store S6 (.tmp 9) (.tmp 33)), none⟩])))
          (.region false [⟨(some 34), (.bin .add (.tmp 27) (.const (it 1))), none⟩,
           ⟨(some 27), (.mv (.tmp 34)), none⟩])))))))
    (.seq
     (.region false [⟨(some 35), (.load S6 (.tmp 9)), none⟩,
      ⟨(some 36), (.call 39 [(.tmp 35)]), none⟩,
      ⟨none, (.store (.ar 32 L8) (.tmp 8) (.tmp 36)), none⟩])
     .ret))))
def r_lms_hash : List ARes := [(.cell 8 (.ar 32 L8))]
theorem c_lms_hash : o2 Go.Proofs.Tryd.f34.body (comp Go.Proofs.Tryd.prog Go.Proofs.Tryd.f34.ntmps) = some a_lms_hash := by kernel_rfl
theorem s_lms_hash : cRess Go.Proofs.Tryd.prog Go.Proofs.Tryd.f34.results.toList = some r_lms_hash := by kernel_rfl
theorem m_lms_hash (C : Ctx) (hC : CtxOK C Go.Proofs.Tryd.prog) : Meets C.glob Go.Proofs.Tryd.prog 34 (afun C 4 r_lms_hash a_lms_hash) :=
  fn_sound hC Go.Proofs.Tryd.func34 c_lms_hash s_lms_hash (Nat.le_of_ble_eq_true (by kernel_rfl))

/-- curtilage/ots.Coef -/
def a_ots_Coef : ACode :=
 (.seq
  (.region false [⟨(some 6), (.mv (.const (it 0))), none⟩])
  (.seq
   (.seq
    (.region false [⟨(some 9), (.mv (.tmp 2)), none⟩,
     ⟨(some 10), (.bin .neq (.tmp 9) (.const (it 1))), none⟩,
     ⟨(some 11), (.mv (.tmp 10)), none⟩,
     ⟨(some 12), (.mv (.tmp 2)), some (11, true)⟩,
     ⟨(some 13), (.bin .neq (.tmp 12) (.const (it 2))), some (11, true)⟩,
     ⟨(some 14), (.pick (.tmp 11) (.tmp 13) (.const (.bool false))), none⟩,
     ⟨(some 15), (.mv (.tmp 14)), none⟩,
     ⟨(some 16), (.mv (.tmp 2)), some (15, true)⟩,
     ⟨(some 17), (.bin .neq (.tmp 16) (.const (it 4))), some (15, true)⟩,
     ⟨(some 18), (.pick (.tmp 15) (.tmp 17) (.const (.bool false))), none⟩,
     ⟨(some 19), (.mv (.tmp 18)), none⟩,
     ⟨(some 20), (.mv (.tmp 2)), some (19, true)⟩,
     ⟨(some 21), (.bin .neq (.tmp 20) (.const (it 8))), some (19, true)⟩,
     ⟨(some 22), (.pick (.tmp 19) (.tmp 21) (.const (.bool false))), none⟩,
     ⟨(some 23), (.mv (.tmp 22)), none⟩,
     ⟨(some 24), (.mv (.tmp 1)), some (23, false)⟩,
     ⟨(some 25), (.bin .lss (.tmp 24) (.const (it 0))), some (23, false)⟩,
     ⟨(some 26), (.pick (.tmp 23) (.const (.bool true)) (.tmp 25)), none⟩,
     ⟨(some 27), (.mv (.tmp 26)), none⟩,
     ⟨(some 28), (.mv (.tmp 1)), some (27, false)⟩,
     ⟨(some 29), (.mv (.tmp 0)), some (27, false)⟩,
     ⟨(some 30), (.len (.tmp 29)), some (27, false)⟩,
     ⟨(some 31), (.mv (.tmp 2)), some (27, false)⟩,
     ⟨(some 32), (.bin .quo (.const (it 8)) (.tmp 31)), some (27, false)⟩,
     ⟨(some 33), (.bin .mul (.tmp 30) (.tmp 32)), some (27, false)⟩,
     ⟨(some 34), (.bin .geq (.tmp 28) (.tmp 33)), some (27, false)⟩,
     ⟨(some 35), (.pick (.tmp 27) (.const (.bool true)) (.tmp 34)), none⟩])
    (.cond (.tmp 35)
     (.seq
      (.region false [⟨(some 6), (.mv (.const (it 0))), none⟩])
      .ret)
     .skip))
   (.seq
    (.region false [⟨(some 36), (.mv (.tmp 2)), none⟩,
     ⟨(some 37), (.bin .quo (.const (it 8)) (.tmp 36)), none⟩,
     ⟨(some 7), (.mv (.tmp 37)), none⟩])
    (.seq
     (.region false [⟨(some 38), (.mv (.tmp 0)), none⟩,
      ⟨(some 39), (.mv (.tmp 1)), none⟩,
      ⟨(some 40), (.mv (.tmp 7)), none⟩,
      ⟨(some 41), (.bin .quo (.tmp 39) (.tmp 40)), none⟩,
      ⟨(some 42), (.iaddrs L8 (.tmp 38) (.tmp 41)), none⟩,
      ⟨(some 43), (.load L8 (.tmp 42)), none⟩,
      ⟨(some 8), (.mv (.tmp 43)), none⟩])
     (.seq
      (.region true [⟨(some 44), (.mv (.tmp 8)), none⟩,
       ⟨(some 45), (.mv (.tmp 2)), none⟩,
       ⟨(some 46), (.mv (.tmp 1)), none⟩,
       ⟨(some 47), (.mv (.tmp 7)), none⟩,
       ⟨(some 48), (.bin .rem (.tmp 46) (.tmp 47)), none⟩,
       ⟨(some 49), (.bin .mul (.tmp 45) (.tmp 48)), none⟩,
       ⟨(some 50), (.bin .sub (.const (it 8)) (.tmp 49)), none⟩,
       ⟨(some 51), (.mv (.tmp 2)), none⟩,
       ⟨(some 52), (.bin .sub (.tmp 50) (.tmp 51)), none⟩,
       ⟨(some 53), (.bin .shr (.tmp 44) (.tmp 52)), none⟩,
       ⟨(some 54), (.mv (.tmp 2)), none⟩,
       ⟨(some 55), (.bin .shl (.const (u8 1#8)) (.tmp 54)), none⟩,
       ⟨(some 56), (.bin .sub (.tmp 55) (.const (u8 1#8))), none⟩,
       ⟨(some 57), (.bin .and (.tmp 53) (.tmp 56)), none⟩,
       ⟨(some 58), (.conv .i64 (.tmp 57)), none⟩,
       ⟨(some 6), (.mv (.tmp 58)), none⟩])
      .ret)))))
def r_ots_Coef : List ARes := [(.tmp 6)]
theorem c_ots_Coef : o2 Go.Proofs.Tryd.f35.body (comp Go.Proofs.Tryd.prog Go.Proofs.Tryd.f35.ntmps) = some a_ots_Coef := by kernel_rfl
theorem s_ots_Coef : cRess Go.Proofs.Tryd.prog Go.Proofs.Tryd.f35.results.toList = some r_ots_Coef := by kernel_rfl
theorem m_ots_Coef (C : Ctx) (hC : CtxOK C Go.Proofs.Tryd.prog) : Meets C.glob Go.Proofs.Tryd.prog 35 (afun C 3 r_ots_Coef a_ots_Coef) :=
  fn_sound hC Go.Proofs.Tryd.func35 c_ots_Coef s_ots_Coef (Nat.le_of_ble_eq_true (by kernel_rfl))

/-- curtilage/ots.two -/
def a_ots_two : ACode :=
 (.seq
  (.region false [⟨(some 2), (.mv (.const (.slice none 0 0))), none⟩])
  (.seq
   (.region false [⟨(some 3), (.mv (.tmp 0)), none⟩,
    ⟨(some 4), (.bin .shr (.tmp 3) (.const (u64 8#64))), none⟩,
    ⟨(some 5), (.conv .u8 (.tmp 4)), none⟩,
    ⟨(some 6), (.mv (.tmp 0)), none⟩,
    ⟨(some 7), (.conv .u8 (.tmp 6)), none⟩,
    ⟨(some 8), (.bslice L8 2 (.raw (u8 0#8)) [(0, (.tmp 5)), (1, (.tmp 7))]), none⟩,
    ⟨(some 2), (.mv (.tmp 8)), none⟩])
   .ret))
def r_ots_two : List ARes := [(.tmp 2)]
theorem c_ots_two : o2 Go.Proofs.Tryd.f36.body (comp Go.Proofs.Tryd.prog Go.Proofs.Tryd.f36.ntmps) = some a_ots_two := by kernel_rfl
theorem s_ots_two : cRess Go.Proofs.Tryd.prog Go.Proofs.Tryd.f36.results.toList = some r_ots_two := by kernel_rfl
theorem m_ots_two (C : Ctx) (hC : CtxOK C Go.Proofs.Tryd.prog) : Meets C.glob Go.Proofs.Tryd.prog 36 (afun C 1 r_ots_two a_ots_two) :=
  fn_sound hC Go.Proofs.Tryd.func36 c_ots_two s_ots_two (Nat.le_of_ble_eq_true (by kernel_rfl))

/-- curtilage/ots.front -/
def a_ots_front : ACode :=
 (.seq
  (.region false [⟨(some 1), (.box S4 (.tmp 0)), none⟩,
   ⟨(some 2), (.alloc S6 (.agg S6 [(.agg (.ar 8 L32) (List.replicate 8 (.raw (u32 0#32)))), (.agg (.ar 64 L8) (List.replicate 64 (.raw (u8 0#8)))), (.raw (u64 0#64))])), none⟩])
  (.seq
   (.draw1 [⟨(some 3), (.call 41 []), none⟩,
    ⟨(some 4), (.faddr S4 (.tmp 1) 0), none⟩,
    ⟨(some 5), (.slicea 16 L8 (.tmp 4) none none none), none⟩,
    ⟨(some 6), (.call 38 [(.tmp 3), (.tmp 5)]), none⟩,
    ⟨(some 7), (.faddr S4 (.tmp 1) 1), none⟩,
    ⟨(some 8), (.load L32 (.tmp 7)), none⟩]
    [⟨(some 9), (.call 43 [(.tmp 8)]), none⟩,
    ⟨(some 10), (.call 38 [(.tmp 6), (.tmp 9)]), none⟩,
    ⟨none, (.store S6 (.tmp 2) (.tmp 10)), none⟩])
   .ret))
def r_ots_front : List ARes := [(.cell 2 S6)]
theorem c_ots_front : o2 Go.Proofs.Tryd.f37.body (comp Go.Proofs.Tryd.prog Go.Proofs.Tryd.f37.ntmps) = some a_ots_front := by kernel_rfl
theorem s_ots_front : cRess Go.Proofs.Tryd.prog Go.Proofs.Tryd.f37.results.toList = some r_ots_front := by kernel_rfl
theorem m_ots_front (C : Ctx) (hC : CtxOK C Go.Proofs.Tryd.prog) : Meets C.glob Go.Proofs.Tryd.prog 37 (afun C 1 r_ots_front a_ots_front) :=
  fn_sound hC Go.Proofs.Tryd.func37 c_ots_front s_ots_front (Nat.le_of_ble_eq_true (by kernel_rfl))

/-- (curtilage/sha.State).Feed -/
def a_sha_State_Feed : ACode :=
 (.seq
  (.region false [⟨(some 2), (.box S6 (.tmp 0)), none⟩,
   ⟨(some 4), (.alloc S6 (.agg S6 [(.agg (.ar 8 L32) (List.replicate 8 (.raw (u32 0#32)))), (.agg (.ar 64 L8) (List.replicate 64 (.raw (u8 0#8)))), (.raw (u64 0#64))])), none⟩])
  (.seq
   (.block 0
    (.loop
     (.seq
      (.seq
       (.region false [⟨(some 7), (.mv (.tmp 1)), none⟩,
        ⟨(some 8), (.len (.tmp 7)), none⟩,
        ⟨(some 9), (.bin .gtr (.tmp 8) (.const (it 0))), none⟩])
       (.cond (.tmp 9)
        .skip
        (.exit 0)))
      (.block 1
       (.seq
        (.region false [⟨(some 10), (.faddr S6 (.tmp 2) 2), none⟩,
         ⟨(some 11), (.load L64 (.tmp 10)), none⟩,
         ⟨(some 12), (.bin .rem (.tmp 11) (.const (u64 64#64))), none⟩,
         ⟨(some 13), (.conv .i64 (.tmp 12)), none⟩,
         ⟨(some 5), (.mv (.tmp 13)), none⟩])
        (.seq
         (.region false [⟨(some 14), (.faddr S6 (.tmp 2) 1), none⟩,
          ⟨(some 15), (.mv (.tmp 5)), none⟩,
          ⟨(some 16), (.slicea 64 L8 (.tmp 14) (some (.tmp 15)) none none), none⟩,
          ⟨(some 17), (.mv (.tmp 1)), none⟩,
          ⟨(some 18), (.copy L8 (.tmp 16) (.tmp 17)), none⟩,
          ⟨(some 6), (.mv (.tmp 18)), none⟩])
         (.seq
          (.region false [⟨(some 19), (.faddr S6 (.tmp 2) 2), none⟩,
           ⟨(some 20), (.load L64 (.tmp 19)), none⟩,
           ⟨(some 21), (.mv (.tmp 6)), none⟩,
           ⟨(some 22), (.conv .u64 (.tmp 21)), none⟩,
           ⟨(some 23), (.bin .add (.tmp 20) (.tmp 22)), none⟩,
           ⟨(some 24), (.faddr S6 (.tmp 2) 2), none⟩,
           ⟨none, (.store L64 (.tmp 24) (.tmp 23)), none⟩])
          (.seq
           (.region false [⟨(some 25), (.mv (.tmp 1)), none⟩,
            ⟨(some 26), (.mv (.tmp 6)), none⟩,
            ⟨(some 27), (.slice L8 (.tmp 25) (some (.tmp 26)) none none), none⟩,
            ⟨(some 1), (.mv (.tmp 27)), none⟩])
           (.seq
            (.region false [⟨(some 28), (.mv (.tmp 5)), none⟩,
             ⟨(some 29), (.mv (.tmp 6)), none⟩,
             ⟨(some 30), (.bin .add (.tmp 28) (.tmp 29)), none⟩,
             ⟨(some 31), (.bin .eql (.tmp 30) (.const (it 64))), none⟩])
            (.cond (.tmp 31)
             (.region false [⟨(some 32), (.faddr S6 (.tmp 2) 0), none⟩,
              ⟨(some 33), (.load (.ar 8 L32) (.tmp 32)), none⟩,
              ⟨(some 34), (.faddr S6 (.tmp 2) 1), none⟩,
              ⟨(some 35), (.load (.ar 64 L8) (.tmp 34)), none⟩,
              ⟨(some 36), (.call 44 [(.tmp 33), (.tmp 35)]), none⟩,
              ⟨(some 37), (.build (.ar 64 L8) (List.replicate 64 (.raw (u8 0#8))) []), none⟩,
              ⟨(some 38), (.faddr S6 (.tmp 2) 0), none⟩,
              ⟨none, (.store (.ar 8 L32) (.tmp 38) (.tmp 36)), none⟩,
              ⟨(some 39), (.faddr S6 (.tmp 2) 1), none⟩,
              ⟨none, (.store (.ar 64 L8) (.tmp 39) (.tmp 37)), none⟩])
             .skip))))))))))
   (.seq
    (.region false [⟨(some 40), (.load S6 (.tmp 2)), none⟩,
     ⟨none, (.store S6 (.tmp 4) (.tmp 40)), none⟩])
    .ret)))
def r_sha_State_Feed : List ARes := [(.cell 4 S6)]
theorem c_sha_State_Feed : o2 Go.Proofs.Tryd.f38.body (comp Go.Proofs.Tryd.prog Go.Proofs.Tryd.f38.ntmps) = some a_sha_State_Feed := by kernel_rfl
theorem s_sha_State_Feed : cRess Go.Proofs.Tryd.prog Go.Proofs.Tryd.f38.results.toList = some r_sha_State_Feed := by kernel_rfl
theorem m_sha_State_Feed (C : Ctx) (hC : CtxOK C Go.Proofs.Tryd.prog) : Meets C.glob Go.Proofs.Tryd.prog 38 (afun C 2 r_sha_State_Feed a_sha_State_Feed) :=
  fn_sound hC Go.Proofs.Tryd.func38 c_sha_State_Feed s_sha_State_Feed (Nat.le_of_ble_eq_true (by kernel_rfl))

/-- (curtilage/sha.State).Sum -/
def a_sha_State_Sum : ACode :=
 (.seq
  (.region false [⟨(some 1), (.box S6 (.tmp 0)), none⟩,
   ⟨(some 2), (.alloc (.ar 32 L8) (.agg (.ar 32 L8) (List.replicate 32 (.raw (u8 0#8))))), none⟩])
  (.seq
   (.draw1 [⟨(some 3), (.load S6 (.tmp 1)), none⟩,
    ⟨(some 4), (.faddr S6 (.tmp 1) 2), none⟩,
    ⟨(some 5), (.load L64 (.tmp 4)), none⟩,
    ⟨(some 6), (.call 46 [(.tmp 5)]), none⟩]
    [⟨(some 7), (.call 38 [(.tmp 3), (.tmp 6)]), none⟩,
    ⟨(some 8), (.field S6 (.tmp 7) 0), none⟩,
    ⟨(some 9), (.call 45 [(.tmp 8)]), none⟩,
    ⟨none, (.store (.ar 32 L8) (.tmp 2) (.tmp 9)), none⟩])
   .ret))
def r_sha_State_Sum : List ARes := [(.cell 2 (.ar 32 L8))]
theorem c_sha_State_Sum : o2 Go.Proofs.Tryd.f39.body (comp Go.Proofs.Tryd.prog Go.Proofs.Tryd.f39.ntmps) = some a_sha_State_Sum := by kernel_rfl
theorem s_sha_State_Sum : cRess Go.Proofs.Tryd.prog Go.Proofs.Tryd.f39.results.toList = some r_sha_State_Sum := by kernel_rfl
theorem m_sha_State_Sum (C : Ctx) (hC : CtxOK C Go.Proofs.Tryd.prog) : Meets C.glob Go.Proofs.Tryd.prog 39 (afun C 1 r_sha_State_Sum a_sha_State_Sum) :=
  fn_sound hC Go.Proofs.Tryd.func39 c_sha_State_Sum s_sha_State_Sum (Nat.le_of_ble_eq_true (by kernel_rfl))

/-- curtilage/ots.Step -/
def a_ots_Step : ACode :=
 (.seq
  (.region false [⟨(some 4), (.box S4 (.tmp 0)), none⟩,
   ⟨(some 7), (.box (.ar 32 L8) (.tmp 3)), none⟩,
   ⟨(some 8), (.alloc (.ar 32 L8) (.agg (.ar 32 L8) (List.replicate 32 (.raw (u8 0#8))))), none⟩])
  (.seq
   (.draw1 [⟨(some 9), (.load S4 (.tmp 4)), none⟩,
    ⟨(some 10), (.call 37 [(.tmp 9)]), none⟩,
    ⟨(some 11), (.mv (.tmp 1)), none⟩,
    ⟨(some 12), (.call 36 [(.tmp 11)]), none⟩,
    ⟨(some 13), (.call 38 [(.tmp 10), (.tmp 12)]), none⟩,
    ⟨(some 14), (.mv (.tmp 2)), none⟩,
    ⟨(some 15), (.conv .u8 (.tmp 14)), none⟩,
    ⟨(some 16), (.bslice L8 1 (.raw (u8 0#8)) [(0, (.tmp 15))]), none⟩,
    ⟨(some 17), (.call 38 [(.tmp 13), (.tmp 16)]), none⟩,
    ⟨(some 18), (.slicea 32 L8 (.tmp 7) none none none), none⟩]
    [⟨(some 19), (.call 38 [(.tmp 17), (.tmp 18)]), none⟩,
    ⟨(some 20), (.call 39 [(.tmp 19)]), none⟩,
    ⟨none, (.store (.ar 32 L8) (.tmp 8) (.tmp 20)), none⟩])
   .ret))
def r_ots_Step : List ARes := [(.cell 8 (.ar 32 L8))]
theorem c_ots_Step : o2 Go.Proofs.Tryd.f40.body (comp Go.Proofs.Tryd.prog Go.Proofs.Tryd.f40.ntmps) = some a_ots_Step := by kernel_rfl
theorem s_ots_Step : cRess Go.Proofs.Tryd.prog Go.Proofs.Tryd.f40.results.toList = some r_ots_Step := by kernel_rfl
theorem m_ots_Step (C : Ctx) (hC : CtxOK C Go.Proofs.Tryd.prog) : Meets C.glob Go.Proofs.Tryd.prog 40 (afun C 4 r_ots_Step a_ots_Step) :=
  fn_sound hC Go.Proofs.Tryd.func40 c_ots_Step s_ots_Step (Nat.le_of_ble_eq_true (by kernel_rfl))

/-- curtilage/sha.New -/
def a_sha_New : ACode :=
 (.seq
  (.region false [⟨(some 0), (.alloc S6 (.agg S6 [(.agg (.ar 8 L32) (List.replicate 8 (.raw (u32 0#32)))), (.agg (.ar 64 L8) (List.replicate 64 (.raw (u8 0#8)))), (.raw (u64 0#64))])), none⟩])
  (.seq
   (.region false [⟨(some 1), (.load (.ar 8 L32) (.glob 1)), none⟩,
    ⟨(some 2), (.build S6 [(.agg (.ar 8 L32) (List.replicate 8 (.raw (u32 0#32)))), (.agg (.ar 64 L8) (List.replicate 64 (.raw (u8 0#8)))), (.raw (u64 0#64))] [(0, (.tmp 1))]), none⟩,
    ⟨none, (.store S6 (.tmp 0) (.tmp 2)), none⟩])
   .ret))
def r_sha_New : List ARes := [(.cell 0 S6)]
theorem c_sha_New : o2 Go.Proofs.Tryd.f41.body (comp Go.Proofs.Tryd.prog Go.Proofs.Tryd.f41.ntmps) = some a_sha_New := by kernel_rfl
theorem s_sha_New : cRess Go.Proofs.Tryd.prog Go.Proofs.Tryd.f41.results.toList = some r_sha_New := by kernel_rfl
theorem m_sha_New (C : Ctx) (hC : CtxOK C Go.Proofs.Tryd.prog) : Meets C.glob Go.Proofs.Tryd.prog 41 (afun C 0 r_sha_New a_sha_New) :=
  fn_sound hC Go.Proofs.Tryd.func41 c_sha_New s_sha_New (Nat.le_of_ble_eq_true (by kernel_rfl))

/-- curtilage/lms.four -/
def a_lms_four : ACode :=
 (.seq
  (.region false [⟨(some 2), (.mv (.const (.slice none 0 0))), none⟩])
  (.seq
   (.region false [⟨(some 3), (.mv (.tmp 0)), none⟩,
    ⟨(some 4), (.bin .shr (.tmp 3) (.const (u64 24#64))), none⟩,
    ⟨(some 5), (.conv .u8 (.tmp 4)), none⟩,
    ⟨(some 6), (.mv (.tmp 0)), none⟩,
    ⟨(some 7), (.bin .shr (.tmp 6) (.const (u64 16#64))), none⟩,
    ⟨(some 8), (.conv .u8 (.tmp 7)), none⟩,
    ⟨(some 9), (.mv (.tmp 0)), none⟩,
    ⟨(some 10), (.bin .shr (.tmp 9) (.const (u64 8#64))), none⟩,
    ⟨(some 11), (.conv .u8 (.tmp 10)), none⟩,
    ⟨(some 12), (.mv (.tmp 0)), none⟩,
    ⟨(some 13), (.conv .u8 (.tmp 12)), none⟩,
    ⟨(some 14), (.bslice L8 4 (.raw (u8 0#8)) [(0, (.tmp 5)), (1, (.tmp 8)), (2, (.tmp 11)), (3, (.tmp 13))]), none⟩,
    ⟨(some 2), (.mv (.tmp 14)), none⟩])
   .ret))
def r_lms_four : List ARes := [(.tmp 2)]
theorem c_lms_four : o2 Go.Proofs.Tryd.f42.body (comp Go.Proofs.Tryd.prog Go.Proofs.Tryd.f42.ntmps) = some a_lms_four := by kernel_rfl
theorem s_lms_four : cRess Go.Proofs.Tryd.prog Go.Proofs.Tryd.f42.results.toList = some r_lms_four := by kernel_rfl
theorem m_lms_four (C : Ctx) (hC : CtxOK C Go.Proofs.Tryd.prog) : Meets C.glob Go.Proofs.Tryd.prog 42 (afun C 1 r_lms_four a_lms_four) :=
  fn_sound hC Go.Proofs.Tryd.func42 c_lms_four s_lms_four (Nat.le_of_ble_eq_true (by kernel_rfl))

/-- curtilage/ots.four -/
def a_ots_four : ACode :=
 (.seq
  (.region false [⟨(some 2), (.mv (.const (.slice none 0 0))), none⟩])
  (.seq
   (.region false [⟨(some 3), (.mv (.tmp 0)), none⟩,
    ⟨(some 4), (.bin .shr (.tmp 3) (.const (u64 24#64))), none⟩,
    ⟨(some 5), (.conv .u8 (.tmp 4)), none⟩,
    ⟨(some 6), (.mv (.tmp 0)), none⟩,
    ⟨(some 7), (.bin .shr (.tmp 6) (.const (u64 16#64))), none⟩,
    ⟨(some 8), (.conv .u8 (.tmp 7)), none⟩,
    ⟨(some 9), (.mv (.tmp 0)), none⟩,
    ⟨(some 10), (.bin .shr (.tmp 9) (.const (u64 8#64))), none⟩,
    ⟨(some 11), (.conv .u8 (.tmp 10)), none⟩,
    ⟨(some 12), (.mv (.tmp 0)), none⟩,
    ⟨(some 13), (.conv .u8 (.tmp 12)), none⟩,
    ⟨(some 14), (.bslice L8 4 (.raw (u8 0#8)) [(0, (.tmp 5)), (1, (.tmp 8)), (2, (.tmp 11)), (3, (.tmp 13))]), none⟩,
    ⟨(some 2), (.mv (.tmp 14)), none⟩])
   .ret))
def r_ots_four : List ARes := [(.tmp 2)]
theorem c_ots_four : o2 Go.Proofs.Tryd.f43.body (comp Go.Proofs.Tryd.prog Go.Proofs.Tryd.f43.ntmps) = some a_ots_four := by kernel_rfl
theorem s_ots_four : cRess Go.Proofs.Tryd.prog Go.Proofs.Tryd.f43.results.toList = some r_ots_four := by kernel_rfl
theorem m_ots_four (C : Ctx) (hC : CtxOK C Go.Proofs.Tryd.prog) : Meets C.glob Go.Proofs.Tryd.prog 43 (afun C 1 r_ots_four a_ots_four) :=
  fn_sound hC Go.Proofs.Tryd.func43 c_ots_four s_ots_four (Nat.le_of_ble_eq_true (by kernel_rfl))

/-- curtilage/sha.Press -/
def a_sha_Press : ACode :=
 (.seq
  (.region false [⟨(some 2), (.box (.ar 8 L32) (.tmp 0)), none⟩,
   ⟨(some 3), (.box (.ar 64 L8) (.tmp 1)), none⟩,
   ⟨(some 4), (.alloc (.ar 8 L32) (.agg (.ar 8 L32) (List.replicate 8 (.raw (u32 0#32))))), none⟩])
  (.seq
   (.region false [⟨(some 14), (.load (.ar 8 L32) (.tmp 2)), none⟩,
    ⟨(some 5), (.alloc (.ar 8 L32) (.agg (.ar 8 L32) (List.replicate 8 (.raw (u32 0#32))))), none⟩,
    ⟨none, (.store (.ar 8 L32) (.tmp 5) (.tmp 14)), none⟩])
   (.seq
    (.seq
     (.region false [⟨(some 15), (.load (.ar 64 L8) (.tmp 3)), none⟩,
      ⟨(some 16), (.call 47 [(.tmp 15)]), none⟩,
      ⟨(some 17), (.mv (.const (it 0))), none⟩])
     (.block 0
      (.loop
       (.seq
        (.region false [⟨(some 18), (.bin .lss (.tmp 17) (.const (it 64))), none⟩])
        (.seq
         (.cond (.tmp 18)
          .skip
          (.exit 0))
         (.seq
          (.block 1
           (.seq
            (.region false [⟨(some 19), (.mv (.tmp 17)), none⟩,
             ⟨(some 20), (.index 64 L32 (.tmp 16) (.tmp 17)), none⟩,
             ⟨(some 6), (.mv (.tmp 19)), none⟩,
             ⟨(some 7), (.mv (.tmp 20)), none⟩])
            (.seq
             (.region true [⟨(some 21), (.iaddra 8 L32 (.tmp 5) (.const (it 4))), none⟩,
              ⟨(some 22), (.load L32 (.tmp 21)), none⟩,
              ⟨(some 23), (.call 48 [(.tmp 22), (.const (it (-6)))]), none⟩,
              ⟨(some 24), (.iaddra 8 L32 (.tmp 5) (.const (it 4))), none⟩,
              ⟨(some 25), (.load L32 (.tmp 24)), none⟩,
              ⟨(some 26), (.call 48 [(.tmp 25), (.const (it (-11)))]), none⟩,
              ⟨(some 27), (.bin .xor (.tmp 23) (.tmp 26)), none⟩,
              ⟨(some 28), (.iaddra 8 L32 (.tmp 5) (.const (it 4))), none⟩,
              ⟨(some 29), (.load L32 (.tmp 28)), none⟩,
              ⟨(some 30), (.call 48 [(.tmp 29), (.const (it (-25)))]), none⟩,
              ⟨(some 31), (.bin .xor (.tmp 27) (.tmp 30)), none⟩,
              ⟨(some 8), (.mv (.tmp 31)), none⟩])
             (.seq
              (.region false [⟨(some 32), (.iaddra 8 L32 (.tmp 5) (.const (it 4))), none⟩,
               ⟨(some 33), (.load L32 (.tmp 32)), none⟩,
               ⟨(some 34), (.iaddra 8 L32 (.tmp 5) (.const (it 5))), none⟩,
               ⟨(some 35), (.load L32 (.tmp 34)), none⟩,
               ⟨(some 36), (.bin .and (.tmp 33) (.tmp 35)), none⟩,
               ⟨(some 37), (.iaddra 8 L32 (.tmp 5) (.const (it 4))), none⟩,
               ⟨(some 38), (.load L32 (.tmp 37)), none⟩,
               ⟨(some 39), (.un .xor (.tmp 38)), none⟩,
               ⟨(some 40), (.iaddra 8 L32 (.tmp 5) (.const (it 6))), none⟩,
               ⟨(some 41), (.load L32 (.tmp 40)), none⟩,
               ⟨(some 42), (.bin .and (.tmp 39) (.tmp 41)), none⟩,
               ⟨(some 43), (.bin .xor (.tmp 36) (.tmp 42)), none⟩,
               ⟨(some 9), (.mv (.tmp 43)), none⟩])
              (.seq
               (.region true [⟨(some 44), (.iaddra 8 L32 (.tmp 5) (.const (it 7))), none⟩,
                ⟨(some 45), (.load L32 (.tmp 44)), none⟩,
                ⟨(some 46), (.mv (.tmp 8)), none⟩,
                ⟨(some 47), (.bin .add (.tmp 45) (.tmp 46)), none⟩,
                ⟨(some 48), (.mv (.tmp 9)), none⟩,
                ⟨(some 49), (.bin .add (.tmp 47) (.tmp 48)), none⟩,
                ⟨(some 50), (.mv (.tmp 6)), none⟩,
                ⟨(some 51), (.iaddra 64 L32 (.glob 2) (.tmp 50)), none⟩,
                ⟨(some 52), (.load L32 (.tmp 51)), none⟩,
                ⟨(some 53), (.bin .add (.tmp 49) (.tmp 52)), none⟩,
                ⟨(some 54), (.mv (.tmp 7)), none⟩,
                ⟨(some 55), (.bin .add (.tmp 53) (.tmp 54)), none⟩,
                ⟨(some 10), (.mv (.tmp 55)), none⟩])
               (.seq
                (.region true [⟨(some 56), (.iaddra 8 L32 (.tmp 5) (.const (it 0))), none⟩,
                 ⟨(some 57), (.load L32 (.tmp 56)), none⟩,
                 ⟨(some 58), (.call 48 [(.tmp 57), (.const (it (-2)))]), none⟩,
                 ⟨(some 59), (.iaddra 8 L32 (.tmp 5) (.const (it 0))), none⟩,
                 ⟨(some 60), (.load L32 (.tmp 59)), none⟩,
                 ⟨(some 61), (.call 48 [(.tmp 60), (.const (it (-13)))]), none⟩,
                 ⟨(some 62), (.bin .xor (.tmp 58) (.tmp 61)), none⟩,
                 ⟨(some 63), (.iaddra 8 L32 (.tmp 5) (.const (it 0))), none⟩,
                 ⟨(some 64), (.load L32 (.tmp 63)), none⟩,
                 ⟨(some 65), (.call 48 [(.tmp 64), (.const (it (-22)))]), none⟩,
                 ⟨(some 66), (.bin .xor (.tmp 62) (.tmp 65)), none⟩,
                 ⟨(some 11), (.mv (.tmp 66)), none⟩])
                (.seq
                 (.region false [⟨(some 67), (.iaddra 8 L32 (.tmp 5) (.const (it 0))), none⟩,
                  ⟨(some 68), (.load L32 (.tmp 67)), none⟩,
                  ⟨(some 69), (.iaddra 8 L32 (.tmp 5) (.const (it 1))), none⟩,
                  ⟨(some 70), (.load L32 (.tmp 69)), none⟩,
                  ⟨(some 71), (.bin .and (.tmp 68) (.tmp 70)), none⟩,
                  ⟨(some 72), (.iaddra 8 L32 (.tmp 5) (.const (it 0))), none⟩,
                  ⟨(some 73), (.load L32 (.tmp 72)), none⟩,
                  ⟨(some 74), (.iaddra 8 L32 (.tmp 5) (.const (it 2))), none⟩,
                  ⟨(some 75), (.load L32 (.tmp 74)), none⟩,
                  ⟨(some 76), (.bin .and (.tmp 73) (.tmp 75)), none⟩,
                  ⟨(some 77), (.bin .xor (.tmp 71) (.tmp 76)), none⟩,
                  ⟨(some 78), (.iaddra 8 L32 (.tmp 5) (.const (it 1))), none⟩,
                  ⟨(some 79), (.load L32 (.tmp 78)), none⟩,
                  ⟨(some 80), (.iaddra 8 L32 (.tmp 5) (.const (it 2))), none⟩,
                  ⟨(some 81), (.load L32 (.tmp 80)), none⟩,
                  ⟨(some 82), (.bin .and (.tmp 79) (.tmp 81)), none⟩,
                  ⟨(some 83), (.bin .xor (.tmp 77) (.tmp 82)), none⟩,
                  ⟨(some 12), (.mv (.tmp 83)), none⟩])
                 (.region false [⟨(some 84), (.mv (.tmp 10)), none⟩,
                  ⟨(some 85), (.mv (.tmp 11)), none⟩,
                  ⟨(some 86), (.bin .add (.tmp 84) (.tmp 85)), none⟩,
                  ⟨(some 87), (.mv (.tmp 12)), none⟩,
                  ⟨(some 88), (.bin .add (.tmp 86) (.tmp 87)), none⟩,
                  ⟨(some 89), (.iaddra 8 L32 (.tmp 5) (.const (it 0))), none⟩,
                  ⟨(some 90), (.load L32 (.tmp 89)), none⟩,
                  ⟨(some 91), (.iaddra 8 L32 (.tmp 5) (.const (it 1))), none⟩,
                  ⟨(some 92), (.load L32 (.tmp 91)), none⟩,
                  ⟨(some 93), (.iaddra 8 L32 (.tmp 5) (.const (it 2))), none⟩,
                  ⟨(some 94), (.load L32 (.tmp 93)), none⟩,
                  ⟨(some 95), (.iaddra 8 L32 (.tmp 5) (.const (it 3))), none⟩,
                  ⟨(some 96), (.load L32 (.tmp 95)), none⟩,
                  ⟨(some 97), (.mv (.tmp 10)), none⟩,
                  ⟨(some 98), (.bin .add (.tmp 96) (.tmp 97)), none⟩,
                  ⟨(some 99), (.iaddra 8 L32 (.tmp 5) (.const (it 4))), none⟩,
                  ⟨(some 100), (.load L32 (.tmp 99)), none⟩,
                  ⟨(some 101), (.iaddra 8 L32 (.tmp 5) (.const (it 5))), none⟩,
                  ⟨(some 102), (.load L32 (.tmp 101)), none⟩,
                  ⟨(some 103), (.iaddra 8 L32 (.tmp 5) (.const (it 6))), none⟩,
                  ⟨(some 104), (.load L32 (.tmp 103)), none⟩,
                  ⟨(some 105), (.build (.ar 8 L32) (List.replicate 8 (.raw (u32 0#32))) [(0, (.tmp 88)), (1, (.tmp 90)), (2, (.tmp 92)), (3, (.tmp 94)), (4, (.tmp 98)), (5, (.tmp 100)), (6, (.tmp 102)), (7, (.tmp 104))]), none⟩,
                  ⟨none, (.store (.ar 8 L32) (.tmp 5) (.tmp 105)), none⟩]))))))))
          (.region false [⟨(some 106), (.bin .add (.tmp 17) (.const (it 1))), none⟩,
           ⟨(some 17), (.mv (.tmp 106)), none⟩])))))))
    (.seq
     (.seq
      (.region false [⟨(some 107), (.mv (.const (it 0))), none⟩])
      (.block 2
       (.loop
        (.seq
         (.region false [⟨(some 108), (.bin .lss (.tmp 107) (.const (it 8))), none⟩])
         (.seq
          (.cond (.tmp 108)
           .skip
           (.exit 2))
          (.seq
           (.block 3
            (.seq
             (.region false [⟨(some 109), (.mv (.tmp 107)), none⟩,
              ⟨(some 13), (.mv (.tmp 109)), none⟩])
             (.region true [⟨(some 110), (.mv (.tmp 13)), none⟩,
              ⟨(some 111), (.iaddra 8 L32 (.tmp 2) (.tmp 110)), none⟩,
              ⟨(some 112), (.load L32 (.tmp 111)), none⟩,
              ⟨(some 113), (.mv (.tmp 13)), none⟩,
              ⟨(some 114), (.iaddra 8 L32 (.tmp 5) (.tmp 113)), none⟩,
              ⟨(some 115), (.load L32 (.tmp 114)), none⟩,
              ⟨(some 116), (.bin .add (.tmp 112) (.tmp 115)), none⟩,
              ⟨(some 117), (.iaddra 8 L32 (.tmp 2) (.tmp 110)), none⟩,
              ⟨none, (.store L32 (.tmp 117) (.tmp 116)), none⟩])))
           (.region false [⟨(some 118), (.bin .add (.tmp 107) (.const (it 1))), none⟩,
            ⟨(some 107), (.mv (.tmp 118)), none⟩])))))))
     (.seq
      (.region false [⟨(some 119), (.load (.ar 8 L32) (.tmp 2)), none⟩,
       ⟨none, (.store (.ar 8 L32) (.tmp 4) (.tmp 119)), none⟩])
      .ret)))))
def r_sha_Press : List ARes := [(.cell 4 (.ar 8 L32))]
theorem c_sha_Press : o2 Go.Proofs.Tryd.f44.body (comp Go.Proofs.Tryd.prog Go.Proofs.Tryd.f44.ntmps) = some a_sha_Press := by kernel_rfl
theorem s_sha_Press : cRess Go.Proofs.Tryd.prog Go.Proofs.Tryd.f44.results.toList = some r_sha_Press := by kernel_rfl
theorem m_sha_Press (C : Ctx) (hC : CtxOK C Go.Proofs.Tryd.prog) : Meets C.glob Go.Proofs.Tryd.prog 44 (afun C 2 r_sha_Press a_sha_Press) :=
  fn_sound hC Go.Proofs.Tryd.func44 c_sha_Press s_sha_Press (Nat.le_of_ble_eq_true (by kernel_rfl))

/-- curtilage/sha.Digest -/
def a_sha_Digest : ACode :=
 (.seq
  (.region false [⟨(some 1), (.box (.ar 8 L32) (.tmp 0)), none⟩,
   ⟨(some 2), (.alloc (.ar 32 L8) (.agg (.ar 32 L8) (List.replicate 32 (.raw (u8 0#8))))), none⟩])
  (.seq
   (.region false [⟨(some 3), (.alloc (.ar 32 L8) (.agg (.ar 32 L8) (List.replicate 32 (.raw (u8 0#8))))), none⟩])
   (.seq
    (.seq
     (.region false [⟨(some 6), (.load (.ar 8 L32) (.tmp 1)), none⟩,
      ⟨(some 7), (.mv (.const (it 0))), none⟩])
     (.block 0
      (.loop
       (.seq
        (.region false [⟨(some 8), (.bin .lss (.tmp 7) (.const (it 8))), none⟩])
        (.seq
         (.cond (.tmp 8)
          .skip
          (.exit 0))
         (.seq
          (.block 1
           (.seq
            (.region false [⟨(some 9), (.mv (.tmp 7)), none⟩,
             ⟨(some 10), (.index 8 L32 (.tmp 6) (.tmp 7)), none⟩,
             ⟨(some 4), (.mv (.tmp 9)), none⟩,
             ⟨(some 5), (.mv (.tmp 10)), none⟩])
            (.region false [⟨(some 11), (.mv (.tmp 4)), none⟩,
             ⟨(some 12), (.bin .mul (.const (it 4)) (.tmp 11)), none⟩,
             ⟨(some 13), (.slicea 32 L8 (.tmp 3) (some (.tmp 12)) none none), none⟩,
             ⟨(some 14), (.mv (.tmp 5)), none⟩,
             ⟨(some 15), (.bin .shr (.tmp 14) (.const (u64 24#64))), none⟩,
             ⟨(some 16), (.conv .u8 (.tmp 15)), none⟩,
             ⟨(some 17), (.mv (.tmp 5)), none⟩,
             ⟨(some 18), (.bin .shr (.tmp 17) (.const (u64 16#64))), none⟩,
             ⟨(some 19), (.conv .u8 (.tmp 18)), none⟩,
             ⟨(some 20), (.mv (.tmp 5)), none⟩,
             ⟨(some 21), (.bin .shr (.tmp 20) (.const (u64 8#64))), none⟩,
             ⟨(some 22), (.conv .u8 (.tmp 21)), none⟩,
             ⟨(some 23), (.mv (.tmp 5)), none⟩,
             ⟨(some 24), (.conv .u8 (.tmp 23)), none⟩,
             ⟨(some 25), (.bslice L8 4 (.raw (u8 0#8)) [(0, (.tmp 16)), (1, (.tmp 19)), (2, (.tmp 22)), (3, (.tmp 24))]), none⟩,
             ⟨(some 26), (.copy L8 (.tmp 13) (.tmp 25)), none⟩])))
          (.region false [⟨(some 27), (.bin .add (.tmp 7) (.const (it 1))), none⟩,
           ⟨(some 7), (.mv (.tmp 27)), none⟩])))))))
    (.seq
     (.region false [⟨(some 28), (.load (.ar 32 L8) (.tmp 3)), none⟩,
      ⟨none, (.store (.ar 32 L8) (.tmp 2) (.tmp 28)), none⟩])
     .ret))))
def r_sha_Digest : List ARes := [(.cell 2 (.ar 32 L8))]
theorem c_sha_Digest : o2 Go.Proofs.Tryd.f45.body (comp Go.Proofs.Tryd.prog Go.Proofs.Tryd.f45.ntmps) = some a_sha_Digest := by kernel_rfl
theorem s_sha_Digest : cRess Go.Proofs.Tryd.prog Go.Proofs.Tryd.f45.results.toList = some r_sha_Digest := by kernel_rfl
theorem m_sha_Digest (C : Ctx) (hC : CtxOK C Go.Proofs.Tryd.prog) : Meets C.glob Go.Proofs.Tryd.prog 45 (afun C 1 r_sha_Digest a_sha_Digest) :=
  fn_sound hC Go.Proofs.Tryd.func45 c_sha_Digest s_sha_Digest (Nat.le_of_ble_eq_true (by kernel_rfl))

/-- curtilage/sha.Pad -/
def a_sha_Pad : ACode :=
 (.seq
  (.region false [⟨(some 2), (.mv (.const (.slice none 0 0))), none⟩])
  (.seq
   (.region false [⟨(some 5), (.bslice L8 1 (.raw (u8 0#8)) [(0, (.const (u8 128#8)))]), none⟩,
    ⟨(some 3), (.mv (.tmp 5)), none⟩])
   (.seq
    (.region false [⟨(some 6), (.mv (.tmp 3)), none⟩,
     ⟨(some 7), (.mv (.tmp 0)), none⟩,
     ⟨(some 8), (.bin .rem (.tmp 7) (.const (u64 64#64))), none⟩,
     ⟨(some 9), (.bin .sub (.const (u64 119#64)) (.tmp 8)), none⟩,
     ⟨(some 10), (.bin .rem (.tmp 9) (.const (u64 64#64))), none⟩,
     ⟨(some 11), (.appendz L8 1 (.raw (u8 0#8)) (.tmp 6) (.tmp 10)), none⟩,
     ⟨(some 3), (.mv (.tmp 11)), none⟩])
    (.seq
     (.seq
      (.region false [⟨(some 4), (.mv (.const (it 56))), none⟩])
      (.block 0
       (.loop
        (.seq
         (.seq
          (.region false [⟨(some 12), (.mv (.tmp 4)), none⟩,
           ⟨(some 13), (.bin .geq (.tmp 12) (.const (it 0))), none⟩])
          (.cond (.tmp 13)
           .skip
           (.exit 0)))
         (.seq
          (.block 1
           (.region false [⟨(some 16), (.mv (.tmp 3)), none⟩,
            ⟨(some 17), (.mv (.tmp 0)), none⟩,
            ⟨(some 18), (.bin .shl (.tmp 17) (.const (u64 3#64))), none⟩,
            ⟨(some 19), (.mv (.tmp 4)), none⟩,
            ⟨(some 20), (.bin .shr (.tmp 18) (.tmp 19)), none⟩,
            ⟨(some 21), (.conv .u8 (.tmp 20)), none⟩,
            ⟨(some 22), (.bslice L8 1 (.raw (u8 0#8)) [(0, (.tmp 21))]), none⟩,
            ⟨(some 23), (.append L8 1 (.tmp 16) (.tmp 22)), none⟩,
            ⟨(some 3), (.mv (.tmp 23)), none⟩]))
          (.region false [⟨(some 14), (.mv (.tmp 4)), none⟩,
           ⟨(some 15), (.bin .sub (.tmp 14) (.const (it 8))), none⟩,
           ⟨(some 4), (.mv (.tmp 15)), none⟩]))))))
     (.seq
      (.region false [⟨(some 24), (.mv (.tmp 3)), none⟩,
       ⟨(some 2), (.mv (.tmp 24)), none⟩])
      .ret)))))
def r_sha_Pad : List ARes := [(.tmp 2)]
theorem c_sha_Pad : o2 Go.Proofs.Tryd.f46.body (comp Go.Proofs.Tryd.prog Go.Proofs.Tryd.f46.ntmps) = some a_sha_Pad := by kernel_rfl
theorem s_sha_Pad : cRess Go.Proofs.Tryd.prog Go.Proofs.Tryd.f46.results.toList = some r_sha_Pad := by kernel_rfl
theorem m_sha_Pad (C : Ctx) (hC : CtxOK C Go.Proofs.Tryd.prog) : Meets C.glob Go.Proofs.Tryd.prog 46 (afun C 1 r_sha_Pad a_sha_Pad) :=
  fn_sound hC Go.Proofs.Tryd.func46 c_sha_Pad s_sha_Pad (Nat.le_of_ble_eq_true (by kernel_rfl))

/-- curtilage/sha.spread -/
def a_sha_spread : ACode :=
 (.seq
  (.region false [⟨(some 1), (.box (.ar 64 L8) (.tmp 0)), none⟩,
   ⟨(some 2), (.alloc (.ar 64 L32) (.agg (.ar 64 L32) (List.replicate 64 (.raw (u32 0#32))))), none⟩])
  (.seq
   (.region false [⟨(some 3), (.alloc (.ar 64 L32) (.agg (.ar 64 L32) (List.replicate 64 (.raw (u32 0#32))))), none⟩])
   (.seq
    (.seq
     (.region false [⟨(some 10), (.mv (.const (it 0))), none⟩])
     (.block 0
      (.loop
       (.seq
        (.region false [⟨(some 11), (.bin .lss (.tmp 10) (.const (it 16))), none⟩])
        (.seq
         (.cond (.tmp 11)
          .skip
          (.exit 0))
         (.seq
          (.block 1
           (.seq
            (.region false [⟨(some 12), (.mv (.tmp 10)), none⟩,
             ⟨(some 4), (.mv (.tmp 12)), none⟩])
            (.region false [⟨(some 13), (.mv (.tmp 4)), none⟩,
             ⟨(some 14), (.mv (.tmp 4)), none⟩,
             ⟨(some 15), (.bin .mul (.const (it 4)) (.tmp 14)), none⟩,
             ⟨(some 16), (.mv (.tmp 4)), none⟩,
             ⟨(some 17), (.bin .mul (.const (it 4)) (.tmp 16)), none⟩,
             ⟨(some 18), (.bin .add (.tmp 17) (.const (it 4))), none⟩,
             ⟨(some 19), (.slicea 64 L8 (.tmp 1) (some (.tmp 15)) (some (.tmp 18)) none), none⟩,
             ⟨(some 20), (.call 49 [(.tmp 19)]), none⟩,
             ⟨(some 21), (.iaddra 64 L32 (.tmp 3) (.tmp 13)), none⟩,
             ⟨none, (.store L32 (.tmp 21) (.tmp 20)), none⟩])))
          (.region false [⟨(some 22), (.bin .add (.tmp 10) (.const (it 1))), none⟩,
           ⟨(some 10), (.mv (.tmp 22)), none⟩])))))))
    (.seq
     (.seq
      (.region false [⟨(some 5), (.mv (.const (it 16))), none⟩])
      (.block 2
       (.loop
        (.seq
         (.seq
          (.region false [⟨(some 23), (.mv (.tmp 5)), none⟩,
           ⟨(some 24), (.bin .lss (.tmp 23) (.const (it 64))), none⟩])
          (.cond (.tmp 24)
           .skip
           (.exit 2)))
         (.seq
          (.block 3
           (.seq
            (.region true [⟨(some 27), (.mv (.tmp 5)), none⟩,
             ⟨(some 28), (.bin .sub (.tmp 27) (.const (it 15))), none⟩,
             ⟨(some 29), (.iaddra 64 L32 (.tmp 3) (.tmp 28)), none⟩,
             ⟨(some 30), (.load L32 (.tmp 29)), none⟩,
             ⟨(some 31), (.mv (.tmp 5)), none⟩,
             ⟨(some 32), (.bin .sub (.tmp 31) (.const (it 2))), none⟩,
             ⟨(some 33), (.iaddra 64 L32 (.tmp 3) (.tmp 32)), none⟩,
             ⟨(some 34), (.load L32 (.tmp 33)), none⟩,
             ⟨(some 6), (.mv (.tmp 30)), none⟩,
             ⟨(some 7), (.mv (.tmp 34)), none⟩])
            (.seq
             (.region false [⟨(some 35), (.mv (.tmp 6)), none⟩,
              ⟨(some 36), (.call 48 [(.tmp 35), (.const (it (-7)))]), none⟩,
              ⟨(some 37), (.mv (.tmp 6)), none⟩,
              ⟨(some 38), (.call 48 [(.tmp 37), (.const (it (-18)))]), none⟩,
              ⟨(some 39), (.bin .xor (.tmp 36) (.tmp 38)), none⟩,
              ⟨(some 40), (.mv (.tmp 6)), none⟩,
              ⟨(some 41), (.bin .shr (.tmp 40) (.const (u64 3#64))), none⟩,
              ⟨(some 42), (.bin .xor (.tmp 39) (.tmp 41)), none⟩,
              ⟨(some 8), (.mv (.tmp 42)), none⟩])
             (.seq
              (.region false [⟨(some 43), (.mv (.tmp 7)), none⟩,
               ⟨(some 44), (.call 48 [(.tmp 43), (.const (it (-17)))]), none⟩,
               ⟨(some 45), (.mv (.tmp 7)), none⟩,
               ⟨(some 46), (.call 48 [(.tmp 45), (.const (it (-19)))]), none⟩,
               ⟨(some 47), (.bin .xor (.tmp 44) (.tmp 46)), none⟩,
               ⟨(some 48), (.mv (.tmp 7)), none⟩,
               ⟨(some 49), (.bin .shr (.tmp 48) (.const (u64 10#64))), none⟩,
               ⟨(some 50), (.bin .xor (.tmp 47) (.tmp 49)), none⟩,
               ⟨(some 9), (.mv (.tmp 50)), none⟩])
              (.region true [⟨(some 51), (.mv (.tmp 5)), none⟩,
               ⟨(some 52), (.mv (.tmp 5)), none⟩,
               ⟨(some 53), (.bin .sub (.tmp 52) (.const (it 16))), none⟩,
               ⟨(some 54), (.iaddra 64 L32 (.tmp 3) (.tmp 53)), none⟩,
               ⟨(some 55), (.load L32 (.tmp 54)), none⟩,
               ⟨(some 56), (.mv (.tmp 8)), none⟩,
               ⟨(some 57), (.bin .add (.tmp 55) (.tmp 56)), none⟩,
               ⟨(some 58), (.mv (.tmp 5)), none⟩,
               ⟨(some 59), (.bin .sub (.tmp 58) (.const (it 7))), none⟩,
               ⟨(some 60), (.iaddra 64 L32 (.tmp 3) (.tmp 59)), none⟩,
               ⟨(some 61), (.load L32 (.tmp 60)), none⟩,
               ⟨(some 62), (.bin .add (.tmp 57) (.tmp 61)), none⟩,
               ⟨(some 63), (.mv (.tmp 9)), none⟩,
               ⟨(some 64), (.bin .add (.tmp 62) (.tmp 63)), none⟩,
               ⟨(some 65), (.iaddra 64 L32 (.tmp 3) (.tmp 51)), none⟩,
               ⟨none, (.store L32 (.tmp 65) (.tmp 64)), none⟩])))))
          (.region false [⟨(some 25), (.mv (.tmp 5)), none⟩,
           ⟨(some 26), (.bin .add (.tmp 25) (.const (it 1))), none⟩,
           ⟨(some 5), (.mv (.tmp 26)), none⟩]))))))
     (.seq
      (.region false [⟨(some 66), (.load (.ar 64 L32) (.tmp 3)), none⟩,
       ⟨none, (.store (.ar 64 L32) (.tmp 2) (.tmp 66)), none⟩])
      .ret)))))
def r_sha_spread : List ARes := [(.cell 2 (.ar 64 L32))]
theorem c_sha_spread : o2 Go.Proofs.Tryd.f47.body (comp Go.Proofs.Tryd.prog Go.Proofs.Tryd.f47.ntmps) = some a_sha_spread := by kernel_rfl
theorem s_sha_spread : cRess Go.Proofs.Tryd.prog Go.Proofs.Tryd.f47.results.toList = some r_sha_spread := by kernel_rfl
theorem m_sha_spread (C : Ctx) (hC : CtxOK C Go.Proofs.Tryd.prog) : Meets C.glob Go.Proofs.Tryd.prog 47 (afun C 1 r_sha_spread a_sha_spread) :=
  fn_sound hC Go.Proofs.Tryd.func47 c_sha_spread s_sha_spread (Nat.le_of_ble_eq_true (by kernel_rfl))

/-- math/bits.RotateLeft32 -/
def a_math_bits_RotateLeft32 : ACode :=
 (.seq
  (.region false [⟨(some 4), (.mv (.const (u32 0#32))), none⟩])
  (.seq
   (.region false [⟨(some 6), (.mv (.tmp 1)), none⟩,
    ⟨(some 7), (.conv .u64 (.tmp 6)), none⟩,
    ⟨(some 8), (.bin .and (.tmp 7) (.const (u64 31#64))), none⟩,
    ⟨(some 5), (.mv (.tmp 8)), none⟩])
   (.seq
    (.region false [⟨(some 9), (.mv (.tmp 0)), none⟩,
     ⟨(some 10), (.mv (.tmp 5)), none⟩,
     ⟨(some 11), (.bin .shl (.tmp 9) (.tmp 10)), none⟩,
     ⟨(some 12), (.mv (.tmp 0)), none⟩,
     ⟨(some 13), (.mv (.tmp 5)), none⟩,
     ⟨(some 14), (.bin .sub (.const (u64 32#64)) (.tmp 13)), none⟩,
     ⟨(some 15), (.bin .shr (.tmp 12) (.tmp 14)), none⟩,
     ⟨(some 16), (.bin .or (.tmp 11) (.tmp 15)), none⟩,
     ⟨(some 4), (.mv (.tmp 16)), none⟩])
    .ret)))
def r_math_bits_RotateLeft32 : List ARes := [(.tmp 4)]
theorem c_math_bits_RotateLeft32 : o2 Go.Proofs.Tryd.f48.body (comp Go.Proofs.Tryd.prog Go.Proofs.Tryd.f48.ntmps) = some a_math_bits_RotateLeft32 := by kernel_rfl
theorem s_math_bits_RotateLeft32 : cRess Go.Proofs.Tryd.prog Go.Proofs.Tryd.f48.results.toList = some r_math_bits_RotateLeft32 := by kernel_rfl
theorem m_math_bits_RotateLeft32 (C : Ctx) (hC : CtxOK C Go.Proofs.Tryd.prog) : Meets C.glob Go.Proofs.Tryd.prog 48 (afun C 2 r_math_bits_RotateLeft32 a_math_bits_RotateLeft32) :=
  fn_sound hC Go.Proofs.Tryd.func48 c_math_bits_RotateLeft32 s_math_bits_RotateLeft32 (Nat.le_of_ble_eq_true (by kernel_rfl))

/-- curtilage/sha.word -/
def a_sha_word : ACode :=
 (.seq
  (.region false [⟨(some 2), (.mv (.const (u32 0#32))), none⟩])
  (.seq
   (.region true [⟨(some 3), (.mv (.tmp 0)), none⟩,
    ⟨(some 4), (.iaddrs L8 (.tmp 3) (.const (it 0))), none⟩,
    ⟨(some 5), (.load L8 (.tmp 4)), none⟩,
    ⟨(some 6), (.conv .u32 (.tmp 5)), none⟩,
    ⟨(some 7), (.bin .shl (.tmp 6) (.const (u64 24#64))), none⟩,
    ⟨(some 8), (.mv (.tmp 0)), none⟩,
    ⟨(some 9), (.iaddrs L8 (.tmp 8) (.const (it 1))), none⟩,
    ⟨(some 10), (.load L8 (.tmp 9)), none⟩,
    ⟨(some 11), (.conv .u32 (.tmp 10)), none⟩,
    ⟨(some 12), (.bin .shl (.tmp 11) (.const (u64 16#64))), none⟩,
    ⟨(some 13), (.bin .or (.tmp 7) (.tmp 12)), none⟩,
    ⟨(some 14), (.mv (.tmp 0)), none⟩,
    ⟨(some 15), (.iaddrs L8 (.tmp 14) (.const (it 2))), none⟩,
    ⟨(some 16), (.load L8 (.tmp 15)), none⟩,
    ⟨(some 17), (.conv .u32 (.tmp 16)), none⟩,
    ⟨(some 18), (.bin .shl (.tmp 17) (.const (u64 8#64))), none⟩,
    ⟨(some 19), (.bin .or (.tmp 13) (.tmp 18)), none⟩,
    ⟨(some 20), (.mv (.tmp 0)), none⟩,
    ⟨(some 21), (.iaddrs L8 (.tmp 20) (.const (it 3))), none⟩,
    ⟨(some 22), (.load L8 (.tmp 21)), none⟩,
    ⟨(some 23), (.conv .u32 (.tmp 22)), none⟩,
    ⟨(some 24), (.bin .or (.tmp 19) (.tmp 23)), none⟩,
    ⟨(some 2), (.mv (.tmp 24)), none⟩])
   .ret))
def r_sha_word : List ARes := [(.tmp 2)]
theorem c_sha_word : o2 Go.Proofs.Tryd.f49.body (comp Go.Proofs.Tryd.prog Go.Proofs.Tryd.f49.ntmps) = some a_sha_word := by kernel_rfl
theorem s_sha_word : cRess Go.Proofs.Tryd.prog Go.Proofs.Tryd.f49.results.toList = some r_sha_word := by kernel_rfl
theorem m_sha_word (C : Ctx) (hC : CtxOK C Go.Proofs.Tryd.prog) : Meets C.glob Go.Proofs.Tryd.prog 49 (afun C 1 r_sha_word a_sha_word) :=
  fn_sound hC Go.Proofs.Tryd.func49 c_sha_word s_sha_word (Nat.le_of_ble_eq_true (by kernel_rfl))

/-- gosem.cut.vars -/
def a_gosem_cut_vars : ACode :=
 (.seq
  (.region false [⟨(some 0), (.build (.ar 8 L32) (List.replicate 8 (.raw (u32 0#32))) [(0, (.const (u32 1779033703#32))), (1, (.const (u32 3144134277#32))), (2, (.const (u32 1013904242#32))), (3, (.const (u32 2773480762#32))), (4, (.const (u32 1359893119#32))), (5, (.const (u32 2600822924#32))), (6, (.const (u32 528734635#32))), (7, (.const (u32 1541459225#32)))]), none⟩,
   ⟨none, (.store (.ar 8 L32) (.glob 1) (.tmp 0)), none⟩])
  (.seq
   (.region false [⟨(some 1), (.build (.ar 64 L32) (List.replicate 64 (.raw (u32 0#32))) [(0, (.const (u32 1116352408#32))), (1, (.const (u32 1899447441#32))), (2, (.const (u32 3049323471#32))), (3, (.const (u32 3921009573#32))), (4, (.const (u32 961987163#32))), (5, (.const (u32 1508970993#32))), (6, (.const (u32 2453635748#32))), (7, (.const (u32 2870763221#32))), (8, (.const (u32 3624381080#32))), (9, (.const (u32 310598401#32))), (10, (.const (u32 607225278#32))), (11, (.const (u32 1426881987#32))), (12, (.const (u32 1925078388#32))), (13, (.const (u32 2162078206#32))), (14, (.const (u32 2614888103#32))), (15, (.const (u32 3248222580#32))), (16, (.const (u32 3835390401#32))), (17, (.const (u32 4022224774#32))), (18, (.const (u32 264347078#32))), (19, (.const (u32 604807628#32))), (20, (.const (u32 770255983#32))), (21, (.const (u32 1249150122#32))), (22, (.const (u32 1555081692#32))), (23, (.const (u32 1996064986#32))), (24, (.const (u32 2554220882#32))), (25, (.const (u32 2821834349#32))), (26, (.const (u32 2952996808#32))), (27, (.const (u32 3210313671#32))), (28, (.const (u32 3336571891#32))), (29, (.const (u32 3584528711#32))), (30, (.const (u32 113926993#32))), (31, (.const (u32 338241895#32))), (32, (.const (u32 666307205#32))), (33, (.const (u32 773529912#32))), (34, (.const (u32 1294757372#32))), (35, (.const (u32 1396182291#32))), (36, (.const (u32 1695183700#32))), (37, (.const (u32 1986661051#32))), (38, (.const (u32 2177026350#32))), (39, (.const (u32 2456956037#32))), (40, (.const (u32 2730485921#32))), (41, (.const (u32 2820302411#32))), (42, (.const (u32 3259730800#32))), (43, (.const (u32 3345764771#32))), (44, (.const (u32 3516065817#32))), (45, (.const (u32 3600352804#32))), (46, (.const (u32 4094571909#32))), (47, (.const (u32 275423344#32))), (48, (.const (u32 430227734#32))), (49, (.const (u32 506948616#32))), (50, (.const (u32 659060556#32))), (51, (.const (u32 883997877#32))), (52, (.const (u32 958139571#32))), (53, (.const (u32 1322822218#32))), (54, (.const (u32 1537002063#32))), (55, (.const (u32 1747873779#32))), (56, (.const (u32 1955562222#32))), (57, (.const (u32 2024104815#32))), (58, (.const (u32 2227730452#32))), (59, (.const (u32 2361852424#32))), (60, (.const (u32 2428436474#32))), (61, (.const (u32 2756734187#32))), (62, (.const (u32 3204031479#32))), (63, (.const (u32 3329325298#32)))]), none⟩,
    ⟨none, (.store (.ar 64 L32) (.glob 2) (.tmp 1)), none⟩])
   (.region false [⟨(some 2), (.build S5 [(.raw (it 0)), (.raw (it 0)), (.raw (it 0))] [(0, (.const (it 1))), (1, (.const (it 265))), (2, (.const (it 7)))]), none⟩,
    ⟨(some 3), (.build S5 [(.raw (it 0)), (.raw (it 0)), (.raw (it 0))] [(0, (.const (it 2))), (1, (.const (it 133))), (2, (.const (it 6)))]), none⟩,
    ⟨(some 4), (.build S5 [(.raw (it 0)), (.raw (it 0)), (.raw (it 0))] [(0, (.const (it 4))), (1, (.const (it 67))), (2, (.const (it 4)))]), none⟩,
    ⟨(some 5), (.build S5 [(.raw (it 0)), (.raw (it 0)), (.raw (it 0))] [(0, (.const (it 8))), (1, (.const (it 34))), (2, (.const (it 0)))]), none⟩,
    ⟨(some 6), (.build (.ar 4 S5) (List.replicate 4 (.agg S5 [(.raw (it 0)), (.raw (it 0)), (.raw (it 0))])) [(0, (.tmp 2)), (1, (.tmp 3)), (2, (.tmp 4)), (3, (.tmp 5))]), none⟩,
    ⟨none, (.store (.ar 4 S5) (.glob 0) (.tmp 6)), none⟩])))
def r_gosem_cut_vars : List ARes := []
theorem c_gosem_cut_vars : o2 Go.Proofs.Tryd.f72.body (comp Go.Proofs.Tryd.prog Go.Proofs.Tryd.f72.ntmps) = some a_gosem_cut_vars := by kernel_rfl
theorem s_gosem_cut_vars : cRess Go.Proofs.Tryd.prog Go.Proofs.Tryd.f72.results.toList = some r_gosem_cut_vars := by kernel_rfl
theorem m_gosem_cut_vars (C : Ctx) (hC : CtxOK C Go.Proofs.Tryd.prog) : Meets C.glob Go.Proofs.Tryd.prog 72 (afun C 0 r_gosem_cut_vars a_gosem_cut_vars) :=
  fn_sound hC Go.Proofs.Tryd.func72 c_gosem_cut_vars s_gosem_cut_vars (Nat.le_of_ble_eq_true (by kernel_rfl))

end Go.Am.F
