/- The functions as the abstract machine has them: printed. -/
import Derived.Test.YthnodpihpkcaeaaDoorProg
import Derived.Test.YthnodpihpkcaeaaDoorAm24
namespace Go.Am.F
set_option linter.unusedVariables false
set_option linter.unusedSimpArgs false
abbrev S1 : Sh := .cons (.ar 4 (.ar 32 L8)) .nil
abbrev S2 : Sh := .cons LI (.cons .ref .nil)
abbrev S3 : Sh := .cons LI (.cons (.ar 32 L8) .nil)
abbrev S4 : Sh := .cons (.ar 8 S3) (.cons LB (.cons LB .nil))
abbrev S5 : Sh := .cons (.ar 8 L32) (.cons (.ar 64 L8) (.cons L64 .nil))
abbrev S6 : Sh := .cons S5 (.cons S5 .nil)
/-- gosem.cut.init -/
def a_gosem_cut_init : ACode :=
 (.region false [⟨(some 0), .fail, none⟩])
def r_gosem_cut_init : List ARes := []
theorem c_gosem_cut_init : o2 Go.Proofs.Tryd.f2.body (comp Go.Proofs.Tryd.prog Go.Proofs.Tryd.f2.ntmps) = some a_gosem_cut_init := by kernel_rfl
theorem s_gosem_cut_init : cRess Go.Proofs.Tryd.prog Go.Proofs.Tryd.f2.results.toList = some r_gosem_cut_init := by kernel_rfl
theorem m_gosem_cut_init (C : Ctx) (hC : CtxOK C Go.Proofs.Tryd.prog) : Meets C.glob Go.Proofs.Tryd.prog 2 (afun C 0 r_gosem_cut_init a_gosem_cut_init) :=
  fn_sound hC Go.Proofs.Tryd.func2 c_gosem_cut_init s_gosem_cut_init (Nat.le_of_ble_eq_true (by kernel_rfl))

/-- curtilage/curtilagelaw16.MeasQuotes -/
def a_law16_MeasQuotes : ACode :=
 (.seq
  (.region false [⟨(some 6), (.box (.ar 32 L8) (.tmp 0)), none⟩,
   ⟨(some 12), (.mv (.const (.bool false))), none⟩])
  (.seq
   (.seq
    (.region false [⟨(some 26), (.call 4 []), none⟩,
     ⟨(some 27), (.un .not (.tmp 26)), none⟩])
    (.cond (.tmp 27)
     (.seq
      (.region false [⟨(some 12), (.mv (.const (.bool false))), none⟩])
      .ret)
     .skip))
   (.seq
    (.region false [⟨(some 28), (.call 5 []), none⟩,
     ⟨(some 13), (.alloc S1 (.agg S1 [(.agg (.ar 4 (.ar 32 L8)) (List.replicate 4 (.agg (.ar 32 L8) (List.replicate 32 (.raw (u8 0#8))))))])), none⟩,
     ⟨none, (.store S1 (.tmp 13) (.tmp 28)), none⟩])
    (.seq
     (.seq
      (.region false [⟨(some 29), (.mv (.tmp 1)), none⟩,
       ⟨(some 30), (.len (.tmp 29)), none⟩,
       ⟨(some 31), (.mv (.const (it 0))), none⟩])
      (.block 0
       (.loop
        (.seq
         (.region false [⟨(some 32), (.bin .lss (.tmp 31) (.tmp 30)), none⟩])
         (.seq
          (.cond (.tmp 32)
           .skip
           (.exit 0))
          (.seq
           (.block 1
            (.seq
             (.region false [⟨(some 33), (.mv (.tmp 31)), none⟩,
              ⟨(some 34), (.iaddrs S2 (.tmp 29) (.tmp 31)), none⟩,
              ⟨(some 35), (.load S2 (.tmp 34)), none⟩,
              ⟨(some 15), (.alloc S2 (.agg S2 [(.raw (it 0)), (.raw (.slice none 0 0))])), none⟩,
              ⟨(some 14), (.mv (.tmp 33)), none⟩,
              ⟨none, (.store S2 (.tmp 15) (.tmp 35)), none⟩])
             (.seq
              (.region false [⟨(some 36), (.mv (.tmp 14)), none⟩,
               ⟨(some 37), (.bin .lss (.tmp 36) (.const (it 6))), none⟩])
              (.cond (.tmp 37)
               (.draw [⟨(some 39), (.load S1 (.tmp 13)), none⟩,
                ⟨(some 40), (.faddr S2 (.tmp 15) 0), none⟩,
                ⟨(some 41), (.load LI (.tmp 40)), none⟩,
                ⟨(some 42), (.faddr S2 (.tmp 15) 1), none⟩,
                ⟨(some 43), (.load .ref (.tmp 42)), none⟩,
                ⟨(some 44), (.call 7 [(.tmp 43), (.const (it 40))]), none⟩,
                ⟨(some 45), (.bslice .ref 1 (.raw (.slice none 0 0)) [(0, (.tmp 44))]), none⟩,
                ⟨(some 46), (.call 6 [(.tmp 39), (.tmp 41), (.tmp 45)]), none⟩,
                ⟨(some 38), (.mv (.tmp 46)), none⟩,
                ⟨(some 47), (.ext (.tmp 38) 0), none⟩,
                ⟨(some 48), (.ext (.tmp 38) 1), none⟩]
                [⟨(some 48), (.ext (.tmp 38) 1), none⟩]
                [(⟨none, (.store S1 (.tmp 13) (.tmp 47)), none⟩, [⟨(some 48), (.ext (.tmp 38) 1), none⟩])])
               .skip))))
           (.region false [⟨(some 49), (.bin .add (.tmp 31) (.const (it 1))), none⟩,
            ⟨(some 31), (.mv (.tmp 49)), none⟩])))))))
     (.seq
      (.region false [⟨(some 50), (.mv (.tmp 2)), none⟩,
       ⟨(some 51), (.call 7 [(.tmp 50), (.const (it 40))]), none⟩,
       ⟨(some 52), (.mv (.tmp 3)), none⟩,
       ⟨(some 53), (.call 7 [(.tmp 52), (.const (it 40))]), none⟩,
       ⟨(some 2), (.mv (.tmp 51)), none⟩,
       ⟨(some 3), (.mv (.tmp 53)), none⟩])
      (.seq
       (.region false [⟨(some 54), (.call 8 []), none⟩,
        ⟨(some 16), (.mv (.tmp 54)), none⟩])
       (.seq
        (.region false [⟨(some 55), (.mv (.tmp 16)), none⟩,
         ⟨(some 56), (.load (.ar 32 L8) (.tmp 6)), none⟩,
         ⟨(some 57), (.call 9 [(.tmp 55), (.const (it 2)), (.const (it 2)), (.tmp 56)]), none⟩])
        (.seq
         (.region false [⟨(some 59), (.load S1 (.tmp 13)), none⟩,
          ⟨(some 60), (.mv (.tmp 16)), none⟩,
          ⟨(some 61), (.mv (.tmp 2)), none⟩,
          ⟨(some 62), (.call 10 [(.tmp 59), (.tmp 60), (.const (it 2)), (.tmp 61)]), none⟩,
          ⟨(some 58), (.mv (.tmp 62)), none⟩,
          ⟨(some 63), (.ext (.tmp 58) 0), none⟩,
          ⟨(some 64), (.ext (.tmp 58) 1), none⟩,
          ⟨(some 17), (.alloc (.ar 32 L8) (.agg (.ar 32 L8) (List.replicate 32 (.raw (u8 0#8))))), none⟩,
          ⟨none, (.store (.ar 32 L8) (.tmp 17) (.tmp 63)), none⟩,
          ⟨(some 18), (.mv (.tmp 64)), none⟩])
         (.seq
          (.region false [⟨(some 66), (.load S1 (.tmp 13)), none⟩,
           ⟨(some 67), (.mv (.tmp 16)), none⟩,
           ⟨(some 68), (.mv (.tmp 2)), none⟩,
           ⟨(some 69), (.call 10 [(.tmp 66), (.tmp 67), (.const (it 1)), (.tmp 68)]), none⟩,
           ⟨(some 65), (.mv (.tmp 69)), none⟩,
           ⟨(some 70), (.ext (.tmp 65) 0), none⟩,
           ⟨(some 71), (.ext (.tmp 65) 1), none⟩,
           ⟨(some 19), (.alloc (.ar 32 L8) (.agg (.ar 32 L8) (List.replicate 32 (.raw (u8 0#8))))), none⟩,
           ⟨none, (.store (.ar 32 L8) (.tmp 19) (.tmp 70)), none⟩,
           ⟨(some 20), (.mv (.tmp 71)), none⟩])
          (.seq
           (.region false [⟨(some 73), (.load S1 (.tmp 13)), none⟩,
            ⟨(some 74), (.mv (.tmp 2)), none⟩,
            ⟨(some 75), (.call 10 [(.tmp 73), (.const (.pointer none)), (.const (it 2)), (.tmp 74)]), none⟩,
            ⟨(some 72), (.mv (.tmp 75)), none⟩,
            ⟨(some 76), (.ext (.tmp 72) 0), none⟩,
            ⟨(some 77), (.ext (.tmp 72) 1), none⟩,
            ⟨(some 21), (.alloc (.ar 32 L8) (.agg (.ar 32 L8) (List.replicate 32 (.raw (u8 0#8))))), none⟩,
            ⟨none, (.store (.ar 32 L8) (.tmp 21) (.tmp 76)), none⟩,
            ⟨(some 22), (.mv (.tmp 77)), none⟩])
           (.seq
            (.region false [⟨(some 78), (.load S1 (.tmp 13)), none⟩,
             ⟨(some 79), (.call 11 [(.tmp 78)]), none⟩,
             ⟨(some 23), (.alloc (.ar 4 (.ar 32 L8)) (.agg (.ar 4 (.ar 32 L8)) (List.replicate 4 (.agg (.ar 32 L8) (List.replicate 32 (.raw (u8 0#8))))))), none⟩,
             ⟨none, (.store (.ar 4 (.ar 32 L8)) (.tmp 23) (.tmp 79)), none⟩])
            (.seq
             (.region true [⟨(some 80), (.slicea 32 L8 (.tmp 6) none none none), none⟩,
              ⟨(some 81), (.bslice L8 4 (.raw (u8 0#8)) [(0, (.const (u8 81#8))), (1, (.const (u8 85#8))), (2, (.const (u8 79#8))), (3, (.const (u8 84#8)))]), none⟩,
              ⟨(some 82), (.frzb L8 (.tmp 81)), none⟩,
              ⟨(some 83), (.mv (.tmp 2)), none⟩,
              ⟨(some 84), (.len (.tmp 83)), none⟩,
              ⟨(some 85), (.conv .u64 (.tmp 84)), none⟩,
              ⟨(some 86), (.call 14 [(.tmp 85), (.const (it 4))]), none⟩,
              ⟨(some 87), (.mv (.tmp 2)), none⟩,
              ⟨(some 88), (.iaddra 4 (.ar 32 L8) (.tmp 23) (.const (it 0))), none⟩,
              ⟨(some 89), (.slicea 32 L8 (.tmp 88) none none none), none⟩,
              ⟨(some 90), (.iaddra 4 (.ar 32 L8) (.tmp 23) (.const (it 1))), none⟩,
              ⟨(some 91), (.slicea 32 L8 (.tmp 90) none none none), none⟩,
              ⟨(some 92), (.iaddra 4 (.ar 32 L8) (.tmp 23) (.const (it 2))), none⟩,
              ⟨(some 93), (.slicea 32 L8 (.tmp 92) none none none), none⟩,
              ⟨(some 94), (.iaddra 4 (.ar 32 L8) (.tmp 23) (.const (it 3))), none⟩,
              ⟨(some 95), (.slicea 32 L8 (.tmp 94) none none none), none⟩,
              ⟨(some 96), (.bslice .ref 7 (.raw (.slice none 0 0)) [(0, (.tmp 82)), (1, (.tmp 86)), (2, (.tmp 87)), (3, (.tmp 89)), (4, (.tmp 91)), (5, (.tmp 93)), (6, (.tmp 95))]), none⟩,
              ⟨(some 97), (.call 13 [(.tmp 96)]), none⟩,
              ⟨(some 98), (.call 12 [(.tmp 80), (.tmp 97)]), none⟩,
              ⟨(some 24), (.alloc (.ar 32 L8) (.agg (.ar 32 L8) (List.replicate 32 (.raw (u8 0#8))))), none⟩,
              ⟨none, (.store (.ar 32 L8) (.tmp 24) (.tmp 98)), none⟩])
             (.seq
              (.region false [⟨(some 99), (.load (.ar 4 (.ar 32 L8)) (.tmp 23)), none⟩,
               ⟨(some 25), (.alloc (.ar 4 (.ar 32 L8)) (.agg (.ar 4 (.ar 32 L8)) (List.replicate 4 (.agg (.ar 32 L8) (List.replicate 32 (.raw (u8 0#8))))))), none⟩,
               ⟨none, (.store (.ar 4 (.ar 32 L8)) (.tmp 25) (.tmp 99)), none⟩])
              (.seq
               (.region true [⟨(some 100), (.mv (.tmp 4)), none⟩,
                ⟨(some 101), (.bin .rem (.tmp 100) (.const (u8 4#8))), none⟩,
                ⟨(some 102), (.mv (.tmp 4)), none⟩,
                ⟨(some 103), (.bin .quo (.tmp 102) (.const (u8 4#8))), none⟩,
                ⟨(some 104), (.bin .rem (.tmp 103) (.const (u8 32#8))), none⟩,
                ⟨(some 105), (.iaddra 4 (.ar 32 L8) (.tmp 25) (.tmp 101)), none⟩,
                ⟨(some 106), (.iaddra 32 L8 (.tmp 105) (.tmp 104)), none⟩,
                ⟨(some 107), (.load L8 (.tmp 106)), none⟩,
                ⟨(some 108), (.mv (.tmp 5)), none⟩,
                ⟨(some 109), (.bin .xor (.tmp 107) (.tmp 108)), none⟩,
                ⟨(some 110), (.iaddra 4 (.ar 32 L8) (.tmp 25) (.tmp 101)), none⟩,
                ⟨(some 111), (.iaddra 32 L8 (.tmp 110) (.tmp 104)), none⟩,
                ⟨none, (.store L8 (.tmp 111) (.tmp 109)), none⟩])
               (.seq
                (.region true [⟨(some 112), (.mv (.tmp 18)), none⟩,
                 ⟨(some 113), (.bin .eql (.tmp 112) (.const (it 0))), none⟩,
                 ⟨(some 114), (.mv (.tmp 113)), none⟩,
                 ⟨(some 115), (.load (.ar 32 L8) (.tmp 17)), some (114, true)⟩,
                 ⟨(some 116), (.load (.ar 32 L8) (.tmp 24)), some (114, true)⟩,
                 ⟨(some 117), (.eqa (.ar 32 L8) false (.tmp 115) (.tmp 116)), some (114, true)⟩,
                 ⟨(some 118), (.pick (.tmp 114) (.tmp 117) (.const (.bool false))), none⟩,
                 ⟨(some 119), (.mv (.tmp 118)), none⟩,
                 ⟨(some 120), (.mv (.tmp 20)), some (119, true)⟩,
                 ⟨(some 121), (.bin .eql (.tmp 120) (.const (it 3))), some (119, true)⟩,
                 ⟨(some 122), (.pick (.tmp 119) (.tmp 121) (.const (.bool false))), none⟩,
                 ⟨(some 123), (.mv (.tmp 122)), none⟩,
                 ⟨(some 124), (.mv (.tmp 22)), some (123, true)⟩,
                 ⟨(some 125), (.bin .eql (.tmp 124) (.const (it 3))), some (123, true)⟩,
                 ⟨(some 126), (.pick (.tmp 123) (.tmp 125) (.const (.bool false))), none⟩,
                 ⟨(some 127), (.mv (.tmp 126)), none⟩,
                 ⟨(some 128), (.slicea 32 L8 (.tmp 6) none none none), some (127, true)⟩,
                 ⟨(some 129), (.mv (.tmp 2)), some (127, true)⟩,
                 ⟨(some 130), (.load (.ar 4 (.ar 32 L8)) (.tmp 23)), some (127, true)⟩,
                 ⟨(some 131), (.load (.ar 32 L8) (.tmp 17)), some (127, true)⟩,
                 ⟨(some 132), (.call 15 [(.tmp 128), (.tmp 129), (.tmp 130), (.tmp 131)]), some (127, true)⟩,
                 ⟨(some 133), (.pick (.tmp 127) (.tmp 132) (.const (.bool false))), none⟩,
                 ⟨(some 134), (.mv (.tmp 133)), none⟩,
                 ⟨(some 135), (.slicea 32 L8 (.tmp 6) none none none), some (134, true)⟩,
                 ⟨(some 136), (.mv (.tmp 2)), some (134, true)⟩,
                 ⟨(some 137), (.load (.ar 4 (.ar 32 L8)) (.tmp 25)), some (134, true)⟩,
                 ⟨(some 138), (.load (.ar 32 L8) (.tmp 17)), some (134, true)⟩,
                 ⟨(some 139), (.call 15 [(.tmp 135), (.tmp 136), (.tmp 137), (.tmp 138)]), some (134, true)⟩,
                 ⟨(some 140), (.mv (.tmp 5)), some (134, true)⟩,
                 ⟨(some 141), (.bin .eql (.tmp 140) (.const (u8 0#8))), some (134, true)⟩,
                 ⟨(some 142), (.mv (.tmp 141)), some (134, true)⟩,
                 ⟨(some 143), (.load (.ar 32 L8) (.tmp 6)), some (142, false)⟩,
                 ⟨(some 144), (.mv (.tmp 2)), some (142, false)⟩,
                 ⟨(some 145), (.load (.ar 4 (.ar 32 L8)) (.tmp 25)), some (142, false)⟩,
                 ⟨(some 146), (.call 16 [(.tmp 143), (.tmp 144), (.tmp 145)]), some (142, false)⟩,
                 ⟨(some 147), (.load (.ar 32 L8) (.tmp 17)), some (142, false)⟩,
                 ⟨(some 148), (.eqa (.ar 32 L8) false (.tmp 146) (.tmp 147)), some (142, false)⟩,
                 ⟨(some 149), (.pick (.tmp 142) (.const (.bool true)) (.tmp 148)), some (134, true)⟩,
                 ⟨(some 150), (.beq false (.tmp 139) (.tmp 149)), some (134, true)⟩,
                 ⟨(some 151), (.pick (.tmp 134) (.tmp 150) (.const (.bool false))), none⟩,
                 ⟨(some 152), (.mv (.tmp 151)), none⟩,
                 ⟨(some 153), (.slicea 32 L8 (.tmp 6) none none none), some (152, true)⟩,
                 ⟨(some 154), (.mv (.tmp 3)), some (152, true)⟩,
                 ⟨(some 155), (.load (.ar 4 (.ar 32 L8)) (.tmp 23)), some (152, true)⟩,
                 ⟨(some 156), (.load (.ar 32 L8) (.tmp 17)), some (152, true)⟩,
                 ⟨(some 157), (.call 15 [(.tmp 153), (.tmp 154), (.tmp 155), (.tmp 156)]), some (152, true)⟩,
                 ⟨(some 158), (.mv (.tmp 2)), some (152, true)⟩,
                 ⟨(some 159), (.mv (.tmp 3)), some (152, true)⟩,
                 ⟨(some 160), (.call 17 [(.tmp 158), (.tmp 159)]), some (152, true)⟩,
                 ⟨(some 161), (.mv (.tmp 160)), some (152, true)⟩,
                 ⟨(some 162), (.load (.ar 32 L8) (.tmp 6)), some (161, false)⟩,
                 ⟨(some 163), (.mv (.tmp 3)), some (161, false)⟩,
                 ⟨(some 164), (.load (.ar 4 (.ar 32 L8)) (.tmp 23)), some (161, false)⟩,
                 ⟨(some 165), (.call 16 [(.tmp 162), (.tmp 163), (.tmp 164)]), some (161, false)⟩,
                 ⟨(some 166), (.load (.ar 32 L8) (.tmp 17)), some (161, false)⟩,
                 ⟨(some 167), (.eqa (.ar 32 L8) false (.tmp 165) (.tmp 166)), some (161, false)⟩,
                 ⟨(some 168), (.pick (.tmp 161) (.const (.bool true)) (.tmp 167)), some (152, true)⟩,
                 ⟨(some 169), (.beq false (.tmp 157) (.tmp 168)), some (152, true)⟩,
                 ⟨(some 170), (.pick (.tmp 152) (.tmp 169) (.const (.bool false))), none⟩,
                 ⟨(some 12), (.mv (.tmp 170)), none⟩])
                .ret)))))))))))))))
def r_law16_MeasQuotes : List ARes := [(.tmp 12)]
theorem c_law16_MeasQuotes : o2 Go.Proofs.Tryd.f3.body (comp Go.Proofs.Tryd.prog Go.Proofs.Tryd.f3.ntmps) = some a_law16_MeasQuotes := by kernel_rfl
theorem s_law16_MeasQuotes : cRess Go.Proofs.Tryd.prog Go.Proofs.Tryd.f3.results.toList = some r_law16_MeasQuotes := by kernel_rfl
theorem m_law16_MeasQuotes (C : Ctx) (hC : CtxOK C Go.Proofs.Tryd.prog) : Meets C.glob Go.Proofs.Tryd.prog 3 (afun C 6 r_law16_MeasQuotes a_law16_MeasQuotes) :=
  fn_sound hC Go.Proofs.Tryd.func3 c_law16_MeasQuotes s_law16_MeasQuotes (Nat.le_of_ble_eq_true (by kernel_rfl))

/-- curtilage/curtilagelaw16.awake -/
def a_law16_awake : ACode :=
 (.seq
  (.region false [⟨(some 0), (.mv (.const (.bool false))), none⟩])
  (.seq
   (.region false [⟨(some 6), (.call 5 []), none⟩,
    ⟨(some 7), (.bslice L8 1 (.raw (u8 0#8)) [(0, (.const (u8 97#8)))]), none⟩,
    ⟨(some 8), (.frzb L8 (.tmp 7)), none⟩,
    ⟨(some 9), (.bslice .ref 1 (.raw (.slice none 0 0)) [(0, (.tmp 8))]), none⟩,
    ⟨(some 10), (.call 6 [(.tmp 6), (.const (it 0)), (.tmp 9)]), none⟩,
    ⟨(some 5), (.mv (.tmp 10)), none⟩,
    ⟨(some 11), (.ext (.tmp 5) 0), none⟩,
    ⟨(some 12), (.ext (.tmp 5) 1), none⟩,
    ⟨(some 1), (.alloc S1 (.agg S1 [(.agg (.ar 4 (.ar 32 L8)) (List.replicate 4 (.agg (.ar 32 L8) (List.replicate 32 (.raw (u8 0#8))))))])), none⟩,
    ⟨none, (.store S1 (.tmp 1) (.tmp 11)), none⟩,
    ⟨(some 2), (.mv (.tmp 12)), none⟩])
   (.seq
    (.region false [⟨(some 14), (.load S1 (.tmp 1)), none⟩,
     ⟨(some 15), (.call 18 [(.tmp 14), (.const (it 0))]), none⟩,
     ⟨(some 13), (.mv (.tmp 15)), none⟩,
     ⟨(some 16), (.ext (.tmp 13) 0), none⟩,
     ⟨(some 17), (.ext (.tmp 13) 1), none⟩,
     ⟨(some 3), (.alloc (.ar 32 L8) (.agg (.ar 32 L8) (List.replicate 32 (.raw (u8 0#8))))), none⟩,
     ⟨none, (.store (.ar 32 L8) (.tmp 3) (.tmp 16)), none⟩,
     ⟨(some 4), (.mv (.tmp 17)), none⟩])
    (.seq
     (.region true [⟨(some 18), (.mv (.tmp 2)), none⟩,
      ⟨(some 19), (.bin .eql (.tmp 18) (.const (it 0))), none⟩,
      ⟨(some 20), (.mv (.tmp 19)), none⟩,
      ⟨(some 21), (.mv (.tmp 4)), some (20, true)⟩,
      ⟨(some 22), (.pick (.tmp 20) (.tmp 21) (.const (.bool false))), none⟩,
      ⟨(some 23), (.mv (.tmp 22)), none⟩,
      ⟨(some 24), (.load (.ar 32 L8) (.tmp 3)), some (23, true)⟩,
      ⟨(some 25), (.build (.ar 32 L8) (List.replicate 32 (.raw (u8 0#8))) []), some (23, true)⟩,
      ⟨(some 26), (.bslice L8 1 (.raw (u8 0#8)) [(0, (.const (u8 97#8)))]), some (23, true)⟩,
      ⟨(some 27), (.frzb L8 (.tmp 26)), some (23, true)⟩,
      ⟨(some 28), (.call 19 [(.tmp 25), (.tmp 27)]), some (23, true)⟩,
      ⟨(some 29), (.eqa (.ar 32 L8) false (.tmp 24) (.tmp 28)), some (23, true)⟩,
      ⟨(some 30), (.pick (.tmp 23) (.tmp 29) (.const (.bool false))), none⟩,
      ⟨(some 0), (.mv (.tmp 30)), none⟩])
     .ret))))
def r_law16_awake : List ARes := [(.tmp 0)]
theorem c_law16_awake : o2 Go.Proofs.Tryd.f4.body (comp Go.Proofs.Tryd.prog Go.Proofs.Tryd.f4.ntmps) = some a_law16_awake := by kernel_rfl
theorem s_law16_awake : cRess Go.Proofs.Tryd.prog Go.Proofs.Tryd.f4.results.toList = some r_law16_awake := by kernel_rfl
theorem m_law16_awake (C : Ctx) (hC : CtxOK C Go.Proofs.Tryd.prog) : Meets C.glob Go.Proofs.Tryd.prog 4 (afun C 0 r_law16_awake a_law16_awake) :=
  fn_sound hC Go.Proofs.Tryd.func4 c_law16_awake s_law16_awake (Nat.le_of_ble_eq_true (by kernel_rfl))

/-- curtilage/meas.New -/
def a_meas_New : ACode :=
 (.seq
  (.region false [⟨(some 0), (.alloc S1 (.agg S1 [(.agg (.ar 4 (.ar 32 L8)) (List.replicate 4 (.agg (.ar 32 L8) (List.replicate 32 (.raw (u8 0#8))))))])), none⟩])
  (.seq
   (.region false [⟨(some 1), (.build S1 [(.agg (.ar 4 (.ar 32 L8)) (List.replicate 4 (.agg (.ar 32 L8) (List.replicate 32 (.raw (u8 0#8))))))] []), none⟩,
    ⟨none, (.store S1 (.tmp 0) (.tmp 1)), none⟩])
   .ret))
def r_meas_New : List ARes := [(.cell 0 S1)]
theorem c_meas_New : o2 Go.Proofs.Tryd.f5.body (comp Go.Proofs.Tryd.prog Go.Proofs.Tryd.f5.ntmps) = some a_meas_New := by kernel_rfl
theorem s_meas_New : cRess Go.Proofs.Tryd.prog Go.Proofs.Tryd.f5.results.toList = some r_meas_New := by kernel_rfl
theorem m_meas_New (C : Ctx) (hC : CtxOK C Go.Proofs.Tryd.prog) : Meets C.glob Go.Proofs.Tryd.prog 5 (afun C 0 r_meas_New a_meas_New) :=
  fn_sound hC Go.Proofs.Tryd.func5 c_meas_New s_meas_New (Nat.le_of_ble_eq_true (by kernel_rfl))

/-- (curtilage/meas.Meas).Extend -/
def a_meas_Meas_Extend : ACode :=
 (.seq
  (.region false [⟨(some 3), (.box S1 (.tmp 0)), none⟩,
   ⟨(some 6), (.alloc S1 (.agg S1 [(.agg (.ar 4 (.ar 32 L8)) (List.replicate 4 (.agg (.ar 32 L8) (List.replicate 32 (.raw (u8 0#8))))))])), none⟩,
   ⟨(some 7), (.mv (.const (it 0))), none⟩])
  (.seq
   (.seq
    (.region false [⟨(some 9), (.mv (.tmp 1)), none⟩,
     ⟨(some 10), (.call 20 [(.tmp 9)]), none⟩,
     ⟨(some 11), (.un .not (.tmp 10)), none⟩])
    (.cond (.tmp 11)
     (.seq
      (.region false [⟨(some 12), (.load S1 (.tmp 3)), none⟩,
       ⟨none, (.store S1 (.tmp 6) (.tmp 12)), none⟩,
       ⟨(some 7), (.mv (.const (it 1))), none⟩])
      .ret)
     .skip))
   (.seq
    (.region false [⟨(some 13), (.mv (.tmp 2)), none⟩,
     ⟨(some 14), (.call 21 [(.tmp 13)]), none⟩,
     ⟨(some 8), (.alloc (.ar 32 L8) (.agg (.ar 32 L8) (List.replicate 32 (.raw (u8 0#8))))), none⟩,
     ⟨none, (.store (.ar 32 L8) (.tmp 8) (.tmp 14)), none⟩])
    (.seq
     (.region true [⟨(some 15), (.mv (.tmp 1)), none⟩,
      ⟨(some 16), (.mv (.tmp 1)), none⟩,
      ⟨(some 17), (.faddr S1 (.tmp 3) 0), none⟩,
      ⟨(some 18), (.iaddra 4 (.ar 32 L8) (.tmp 17) (.tmp 16)), none⟩,
      ⟨(some 19), (.slicea 32 L8 (.tmp 18) none none none), none⟩,
      ⟨(some 20), (.slicea 32 L8 (.tmp 8) none none none), none⟩,
      ⟨(some 21), (.bslice .ref 2 (.raw (.slice none 0 0)) [(0, (.tmp 19)), (1, (.tmp 20))]), none⟩,
      ⟨(some 22), (.call 21 [(.tmp 21)]), none⟩,
      ⟨(some 23), (.faddr S1 (.tmp 3) 0), none⟩,
      ⟨(some 24), (.iaddra 4 (.ar 32 L8) (.tmp 23) (.tmp 15)), none⟩,
      ⟨none, (.store (.ar 32 L8) (.tmp 24) (.tmp 22)), none⟩])
     (.seq
      (.region false [⟨(some 25), (.load S1 (.tmp 3)), none⟩,
       ⟨none, (.store S1 (.tmp 6) (.tmp 25)), none⟩,
       ⟨(some 7), (.mv (.const (it 0))), none⟩])
      .ret)))))
def r_meas_Meas_Extend : List ARes := [(.cell 6 S1), (.tmp 7)]
theorem c_meas_Meas_Extend : o2 Go.Proofs.Tryd.f6.body (comp Go.Proofs.Tryd.prog Go.Proofs.Tryd.f6.ntmps) = some a_meas_Meas_Extend := by kernel_rfl
theorem s_meas_Meas_Extend : cRess Go.Proofs.Tryd.prog Go.Proofs.Tryd.f6.results.toList = some r_meas_Meas_Extend := by kernel_rfl
theorem m_meas_Meas_Extend (C : Ctx) (hC : CtxOK C Go.Proofs.Tryd.prog) : Meets C.glob Go.Proofs.Tryd.prog 6 (afun C 3 r_meas_Meas_Extend a_meas_Meas_Extend) :=
  fn_sound hC Go.Proofs.Tryd.func6 c_meas_Meas_Extend s_meas_Meas_Extend (Nat.le_of_ble_eq_true (by kernel_rfl))

/-- curtilage/curtilageref01.Cut -/
def a_ref01_Cut : ACode :=
 (.seq
  (.region false [⟨(some 4), (.mv (.const (.slice none 0 0))), none⟩])
  (.seq
   (.region false [⟨(some 5), (.mv (.const (.slice none 0 0))), none⟩])
   (.seq
    (.seq
     (.region false [⟨(some 8), (.mv (.tmp 0)), none⟩,
      ⟨(some 9), (.len (.tmp 8)), none⟩,
      ⟨(some 10), (.mv (.const (it 0))), none⟩])
     (.block 0
      (.loop
       (.seq
        (.region false [⟨(some 11), (.bin .lss (.tmp 10) (.tmp 9)), none⟩])
        (.seq
         (.cond (.tmp 11)
          .skip
          (.exit 0))
         (.seq
          (.block 1
           (.seq
            (.region false [⟨(some 12), (.mv (.tmp 10)), none⟩,
             ⟨(some 13), (.iaddrs L8 (.tmp 8) (.tmp 10)), none⟩,
             ⟨(some 14), (.load L8 (.tmp 13)), none⟩,
             ⟨(some 6), (.mv (.tmp 12)), none⟩,
             ⟨(some 7), (.mv (.tmp 14)), none⟩])
            (.seq
             (.region false [⟨(some 15), (.mv (.tmp 6)), none⟩,
              ⟨(some 16), (.mv (.tmp 1)), none⟩,
              ⟨(some 17), (.bin .lss (.tmp 15) (.tmp 16)), none⟩])
             (.cond (.tmp 17)
              (.region false [⟨(some 18), (.mv (.tmp 5)), none⟩,
               ⟨(some 19), (.mv (.tmp 7)), none⟩,
               ⟨(some 20), (.bslice L8 1 (.raw (u8 0#8)) [(0, (.tmp 19))]), none⟩,
               ⟨(some 21), (.append L8 1 (.tmp 18) (.tmp 20)), none⟩,
               ⟨(some 5), (.mv (.tmp 21)), none⟩])
              .skip))))
          (.region false [⟨(some 22), (.bin .add (.tmp 10) (.const (it 1))), none⟩,
           ⟨(some 10), (.mv (.tmp 22)), none⟩])))))))
    (.seq
     (.region false [⟨(some 23), (.mv (.tmp 5)), none⟩,
      ⟨(some 4), (.mv (.tmp 23)), none⟩])
     .ret))))
def r_ref01_Cut : List ARes := [(.tmp 4)]
theorem c_ref01_Cut : o2 Go.Proofs.Tryd.f7.body (comp Go.Proofs.Tryd.prog Go.Proofs.Tryd.f7.ntmps) = some a_ref01_Cut := by kernel_rfl
theorem s_ref01_Cut : cRess Go.Proofs.Tryd.prog Go.Proofs.Tryd.f7.results.toList = some r_ref01_Cut := by kernel_rfl
theorem m_ref01_Cut (C : Ctx) (hC : CtxOK C Go.Proofs.Tryd.prog) : Meets C.glob Go.Proofs.Tryd.prog 7 (afun C 2 r_ref01_Cut a_ref01_Cut) :=
  fn_sound hC Go.Proofs.Tryd.func7 c_ref01_Cut s_ref01_Cut (Nat.le_of_ble_eq_true (by kernel_rfl))

/-- curtilage/slot.New -/
def a_slot_New : ACode :=
 (.seq
  (.region false [⟨(some 0), (.mv (.const (.pointer none))), none⟩])
  (.seq
   (.region false [⟨(some 1), (.build S4 [(.agg (.ar 8 S3) (List.replicate 8 (.agg S3 [(.raw (it 0)), (.agg (.ar 32 L8) (List.replicate 32 (.raw (u8 0#8))))]))), (.raw (.bool false)), (.raw (.bool false))] []), none⟩,
    ⟨(some 2), (.box S4 (.tmp 1)), none⟩,
    ⟨(some 0), (.mv (.tmp 2)), none⟩])
   .ret))
def r_slot_New : List ARes := [(.tmp 0)]
theorem c_slot_New : o2 Go.Proofs.Tryd.f8.body (comp Go.Proofs.Tryd.prog Go.Proofs.Tryd.f8.ntmps) = some a_slot_New := by kernel_rfl
theorem s_slot_New : cRess Go.Proofs.Tryd.prog Go.Proofs.Tryd.f8.results.toList = some r_slot_New := by kernel_rfl
theorem m_slot_New (C : Ctx) (hC : CtxOK C Go.Proofs.Tryd.prog) : Meets C.glob Go.Proofs.Tryd.prog 8 (afun C 0 r_slot_New a_slot_New) :=
  fn_sound hC Go.Proofs.Tryd.func8 c_slot_New s_slot_New (Nat.le_of_ble_eq_true (by kernel_rfl))

/-- (*curtilage/slot.Slots).Lay -/
def a_slot_Slots_Lay : ACode :=
 (.seq
  (.region false [⟨(some 7), (.box (.ar 32 L8) (.tmp 3)), none⟩,
   ⟨(some 8), (.mv (.const (it 0))), none⟩])
  (.seq
   (.region false [⟨(some 10), (.mv (.tmp 0)), none⟩,
    ⟨(some 11), (.mv (.tmp 1)), none⟩,
    ⟨(some 12), (.bslice LI 1 (.raw (it 0)) [(0, (.tmp 11))]), none⟩,
    ⟨(some 13), (.call 22 [(.tmp 10), (.tmp 12)]), none⟩,
    ⟨(some 9), (.mv (.tmp 13)), none⟩])
   (.seq
    (.block 0
     (.seq
      (.region false [⟨(some 15), (.mv (.tmp 9)), none⟩,
       ⟨(some 16), (.bin .neq (.tmp 15) (.const (it 0))), none⟩,
       ⟨(some 14), (.mv (.tmp 16)), none⟩])
      (.cond (.tmp 14)
       (.seq
        (.region false [⟨(some 17), (.mv (.tmp 9)), none⟩,
         ⟨(some 8), (.mv (.tmp 17)), none⟩])
        .ret)
       (.seq
        (.region false [⟨(some 19), (.mv (.tmp 2)), none⟩,
         ⟨(some 20), (.bin .lss (.tmp 19) (.const (it 1))), none⟩,
         ⟨(some 21), (.mv (.tmp 20)), none⟩,
         ⟨(some 22), (.mv (.tmp 2)), some (21, false)⟩,
         ⟨(some 23), (.bin .gtr (.tmp 22) (.const (it 3))), some (21, false)⟩,
         ⟨(some 24), (.pick (.tmp 21) (.const (.bool true)) (.tmp 23)), none⟩,
         ⟨(some 18), (.mv (.tmp 24)), none⟩])
        (.cond (.tmp 18)
         (.seq
          (.region false [⟨(some 8), (.mv (.const (it 1))), none⟩])
          .ret)
         (.seq
          (.region false [⟨(some 26), (.mv (.tmp 0)), none⟩,
           ⟨(some 27), (.nilc (.tmp 26)), none⟩,
           ⟨(some 28), (.faddr S4 (.tmp 27) 1), none⟩,
           ⟨(some 29), (.load LB (.tmp 28)), none⟩,
           ⟨(some 30), (.mv (.tmp 29)), none⟩,
           ⟨(some 31), (.mv (.tmp 2)), some (30, true)⟩,
           ⟨(some 32), (.bin .eql (.tmp 31) (.const (it 1))), some (30, true)⟩,
           ⟨(some 33), (.pick (.tmp 30) (.tmp 32) (.const (.bool false))), none⟩,
           ⟨(some 25), (.mv (.tmp 33)), none⟩])
          (.cond (.tmp 25)
           (.seq
            (.region false [⟨(some 8), (.mv (.const (it 12))), none⟩])
            .ret)
           (.seq
            (.region false [⟨(some 35), (.mv (.tmp 0)), none⟩,
             ⟨(some 36), (.mv (.tmp 1)), none⟩,
             ⟨(some 37), (.nilc (.tmp 35)), none⟩,
             ⟨(some 38), (.faddr S4 (.tmp 37) 0), none⟩,
             ⟨(some 39), (.iaddra 8 S3 (.tmp 38) (.tmp 36)), none⟩,
             ⟨(some 40), (.faddr S3 (.tmp 39) 0), none⟩,
             ⟨(some 41), (.load LI (.tmp 40)), none⟩,
             ⟨(some 42), (.bin .neq (.tmp 41) (.const (it 0))), none⟩,
             ⟨(some 34), (.mv (.tmp 42)), none⟩])
            (.cond (.tmp 34)
             (.seq
              (.region false [⟨(some 8), (.mv (.const (it 13))), none⟩])
              .ret)
             .skip)))))))))
    (.seq
     (.region true [⟨(some 43), (.mv (.tmp 0)), none⟩,
      ⟨(some 44), (.mv (.tmp 1)), none⟩,
      ⟨(some 45), (.mv (.tmp 2)), none⟩,
      ⟨(some 46), (.load (.ar 32 L8) (.tmp 7)), none⟩,
      ⟨(some 47), (.build S3 [(.raw (it 0)), (.agg (.ar 32 L8) (List.replicate 32 (.raw (u8 0#8))))] [(0, (.tmp 45)), (1, (.tmp 46))]), none⟩,
      ⟨(some 48), (.nilc (.tmp 43)), none⟩,
      ⟨(some 49), (.faddr S4 (.tmp 48) 0), none⟩,
      ⟨(some 50), (.iaddra 8 S3 (.tmp 49) (.tmp 44)), none⟩,
      ⟨none, (.store S3 (.tmp 50) (.tmp 47)), none⟩])
     (.seq
      (.region false [⟨(some 8), (.mv (.const (it 0))), none⟩])
      .ret)))))
def r_slot_Slots_Lay : List ARes := [(.tmp 8)]
theorem c_slot_Slots_Lay : o2 Go.Proofs.Tryd.f9.body (comp Go.Proofs.Tryd.prog Go.Proofs.Tryd.f9.ntmps) = some a_slot_Slots_Lay := by kernel_rfl
theorem s_slot_Slots_Lay : cRess Go.Proofs.Tryd.prog Go.Proofs.Tryd.f9.results.toList = some r_slot_Slots_Lay := by kernel_rfl
theorem m_slot_Slots_Lay (C : Ctx) (hC : CtxOK C Go.Proofs.Tryd.prog) : Meets C.glob Go.Proofs.Tryd.prog 9 (afun C 4 r_slot_Slots_Lay a_slot_Slots_Lay) :=
  fn_sound hC Go.Proofs.Tryd.func9 c_slot_Slots_Lay s_slot_Slots_Lay (Nat.le_of_ble_eq_true (by kernel_rfl))

/-- (curtilage/meas.Meas).Quote -/
def a_meas_Meas_Quote : ACode :=
 (.seq
  (.region false [⟨(some 4), (.box S1 (.tmp 0)), none⟩,
   ⟨(some 8), (.alloc (.ar 32 L8) (.agg (.ar 32 L8) (List.replicate 32 (.raw (u8 0#8))))), none⟩,
   ⟨(some 9), (.mv (.const (it 0))), none⟩])
  (.seq
   (.region false [⟨(some 10), (.mv (.tmp 1)), none⟩,
    ⟨(some 11), (.mv (.tmp 2)), none⟩,
    ⟨(some 12), (.mv (.tmp 3)), none⟩,
    ⟨(some 13), (.faddr S1 (.tmp 4) 0), none⟩,
    ⟨(some 14), (.load (.ar 4 (.ar 32 L8)) (.tmp 13)), none⟩,
    ⟨(some 15), (.call 24 [(.tmp 12), (.tmp 14)]), none⟩,
    ⟨(some 16), (.call 23 [(.tmp 10), (.tmp 11), (.tmp 15)]), none⟩,
    ⟨(some 17), (.ext (.tmp 16) 0), none⟩,
    ⟨(some 18), (.ext (.tmp 16) 1), none⟩,
    ⟨none, (.store (.ar 32 L8) (.tmp 8) (.tmp 17)), none⟩,
    ⟨(some 9), (.mv (.tmp 18)), none⟩])
   .ret))
def r_meas_Meas_Quote : List ARes := [(.cell 8 (.ar 32 L8)), (.tmp 9)]
theorem c_meas_Meas_Quote : o2 Go.Proofs.Tryd.f10.body (comp Go.Proofs.Tryd.prog Go.Proofs.Tryd.f10.ntmps) = some a_meas_Meas_Quote := by kernel_rfl
theorem s_meas_Meas_Quote : cRess Go.Proofs.Tryd.prog Go.Proofs.Tryd.f10.results.toList = some r_meas_Meas_Quote := by kernel_rfl
theorem m_meas_Meas_Quote (C : Ctx) (hC : CtxOK C Go.Proofs.Tryd.prog) : Meets C.glob Go.Proofs.Tryd.prog 10 (afun C 4 r_meas_Meas_Quote a_meas_Meas_Quote) :=
  fn_sound hC Go.Proofs.Tryd.func10 c_meas_Meas_Quote s_meas_Meas_Quote (Nat.le_of_ble_eq_true (by kernel_rfl))

/-- (curtilage/meas.Meas).All -/
def a_meas_Meas_All : ACode :=
 (.seq
  (.region false [⟨(some 1), (.box S1 (.tmp 0)), none⟩,
   ⟨(some 2), (.alloc (.ar 4 (.ar 32 L8)) (.agg (.ar 4 (.ar 32 L8)) (List.replicate 4 (.agg (.ar 32 L8) (List.replicate 32 (.raw (u8 0#8))))))), none⟩])
  (.seq
   (.region false [⟨(some 3), (.faddr S1 (.tmp 1) 0), none⟩,
    ⟨(some 4), (.load (.ar 4 (.ar 32 L8)) (.tmp 3)), none⟩,
    ⟨none, (.store (.ar 4 (.ar 32 L8)) (.tmp 2) (.tmp 4)), none⟩])
   .ret))
def r_meas_Meas_All : List ARes := [(.cell 2 (.ar 4 (.ar 32 L8)))]
theorem c_meas_Meas_All : o2 Go.Proofs.Tryd.f11.body (comp Go.Proofs.Tryd.prog Go.Proofs.Tryd.f11.ntmps) = some a_meas_Meas_All := by kernel_rfl
theorem s_meas_Meas_All : cRess Go.Proofs.Tryd.prog Go.Proofs.Tryd.f11.results.toList = some r_meas_Meas_All := by kernel_rfl
theorem m_meas_Meas_All (C : Ctx) (hC : CtxOK C Go.Proofs.Tryd.prog) : Meets C.glob Go.Proofs.Tryd.prog 11 (afun C 1 r_meas_Meas_All a_meas_Meas_All) :=
  fn_sound hC Go.Proofs.Tryd.func11 c_meas_Meas_All s_meas_Meas_All (Nat.le_of_ble_eq_true (by kernel_rfl))

/-- curtilage/curtilageref02.Sum -/
def a_ref02_Sum : ACode :=
 (.seq
  (.region false [⟨(some 4), (.alloc (.ar 32 L8) (.agg (.ar 32 L8) (List.replicate 32 (.raw (u8 0#8))))), none⟩])
  (.seq
   (.seq
    (.region false [⟨(some 11), (.mv (.tmp 0)), none⟩,
     ⟨(some 12), (.len (.tmp 11)), none⟩,
     ⟨(some 13), (.bin .gtr (.tmp 12) (.const (it 64))), none⟩])
    (.cond (.tmp 13)
     (.seq
      (.region false [⟨(some 14), (.mv (.tmp 0)), none⟩,
       ⟨(some 15), (.call 25 [(.tmp 14)]), none⟩,
       ⟨(some 5), (.alloc (.ar 32 L8) (.agg (.ar 32 L8) (List.replicate 32 (.raw (u8 0#8))))), none⟩,
       ⟨none, (.store (.ar 32 L8) (.tmp 5) (.tmp 15)), none⟩])
      (.region false [⟨(some 16), (.slicea 32 L8 (.tmp 5) none none none), none⟩,
       ⟨(some 0), (.mv (.tmp 16)), none⟩]))
     .skip))
   (.seq
    (.region true [⟨(some 17), (.mks L8 1 (.raw (u8 0#8)) (.const (it 64)) (.const (it 64))), none⟩,
     ⟨(some 18), (.mks L8 1 (.raw (u8 0#8)) (.const (it 64)) (.const (it 64))), none⟩,
     ⟨(some 6), (.mv (.tmp 17)), none⟩,
     ⟨(some 7), (.mv (.tmp 18)), none⟩])
    (.seq
     (.seq
      (.region false [⟨(some 19), (.mv (.tmp 6)), none⟩,
       ⟨(some 20), (.len (.tmp 19)), none⟩,
       ⟨(some 21), (.mv (.const (it 0))), none⟩])
      (.block 0
       (.loop
        (.seq
         (.region false [⟨(some 22), (.bin .lss (.tmp 21) (.tmp 20)), none⟩])
         (.seq
          (.cond (.tmp 22)
           .skip
           (.exit 0))
          (.seq
           (.block 1
            (.seq
             (.region false [⟨(some 23), (.mv (.tmp 21)), none⟩,
              ⟨(some 8), (.mv (.tmp 23)), none⟩])
             (.seq
              (.region false [⟨(some 9), (.mv (.const (u8 0#8))), none⟩])
              (.seq
               (.seq
                (.region false [⟨(some 24), (.mv (.tmp 8)), none⟩,
                 ⟨(some 25), (.mv (.tmp 0)), none⟩,
                 ⟨(some 26), (.len (.tmp 25)), none⟩,
                 ⟨(some 27), (.bin .lss (.tmp 24) (.tmp 26)), none⟩])
                (.cond (.tmp 27)
                 (.region false [⟨(some 28), (.mv (.tmp 0)), none⟩,
                  ⟨(some 29), (.mv (.tmp 8)), none⟩,
                  ⟨(some 30), (.iaddrs L8 (.tmp 28) (.tmp 29)), none⟩,
                  ⟨(some 31), (.load L8 (.tmp 30)), none⟩,
                  ⟨(some 9), (.mv (.tmp 31)), none⟩])
                 .skip))
               (.region false [⟨(some 32), (.mv (.tmp 6)), none⟩,
                ⟨(some 33), (.mv (.tmp 8)), none⟩,
                ⟨(some 34), (.mv (.tmp 7)), none⟩,
                ⟨(some 35), (.mv (.tmp 8)), none⟩,
                ⟨(some 36), (.mv (.tmp 9)), none⟩,
                ⟨(some 37), (.bin .xor (.tmp 36) (.const (u8 54#8))), none⟩,
                ⟨(some 38), (.mv (.tmp 9)), none⟩,
                ⟨(some 39), (.bin .xor (.tmp 38) (.const (u8 92#8))), none⟩,
                ⟨(some 40), (.iaddrs L8 (.tmp 32) (.tmp 33)), none⟩,
                ⟨none, (.store L8 (.tmp 40) (.tmp 37)), none⟩,
                ⟨(some 41), (.iaddrs L8 (.tmp 34) (.tmp 35)), none⟩,
                ⟨none, (.store L8 (.tmp 41) (.tmp 39)), none⟩])))))
           (.region false [⟨(some 42), (.bin .add (.tmp 21) (.const (it 1))), none⟩,
            ⟨(some 21), (.mv (.tmp 42)), none⟩])))))))
     (.seq
      (.region false [⟨(some 43), (.mv (.tmp 6)), none⟩,
       ⟨(some 44), (.mv (.tmp 1)), none⟩,
       ⟨(some 45), (.bslice .ref 2 (.raw (.slice none 0 0)) [(0, (.tmp 43)), (1, (.tmp 44))]), none⟩,
       ⟨(some 46), (.call 13 [(.tmp 45)]), none⟩,
       ⟨(some 47), (.call 25 [(.tmp 46)]), none⟩,
       ⟨(some 10), (.alloc (.ar 32 L8) (.agg (.ar 32 L8) (List.replicate 32 (.raw (u8 0#8))))), none⟩,
       ⟨none, (.store (.ar 32 L8) (.tmp 10) (.tmp 47)), none⟩])
      (.seq
       (.region false [⟨(some 48), (.mv (.tmp 7)), none⟩,
        ⟨(some 49), (.slicea 32 L8 (.tmp 10) none none none), none⟩,
        ⟨(some 50), (.bslice .ref 2 (.raw (.slice none 0 0)) [(0, (.tmp 48)), (1, (.tmp 49))]), none⟩,
        ⟨(some 51), (.call 13 [(.tmp 50)]), none⟩,
        ⟨(some 52), (.call 25 [(.tmp 51)]), none⟩,
        ⟨none, (.store (.ar 32 L8) (.tmp 4) (.tmp 52)), none⟩])
       .ret))))))
def r_ref02_Sum : List ARes := [(.cell 4 (.ar 32 L8))]
theorem c_ref02_Sum : o2 Go.Proofs.Tryd.f12.body (comp Go.Proofs.Tryd.prog Go.Proofs.Tryd.f12.ntmps) = some a_ref02_Sum := by kernel_rfl
theorem s_ref02_Sum : cRess Go.Proofs.Tryd.prog Go.Proofs.Tryd.f12.results.toList = some r_ref02_Sum := by kernel_rfl
theorem m_ref02_Sum (C : Ctx) (hC : CtxOK C Go.Proofs.Tryd.prog) : Meets C.glob Go.Proofs.Tryd.prog 12 (afun C 2 r_ref02_Sum a_ref02_Sum) :=
  fn_sound hC Go.Proofs.Tryd.func12 c_ref02_Sum s_ref02_Sum (Nat.le_of_ble_eq_true (by kernel_rfl))

/-- curtilage/curtilageref01.Join -/
def a_ref01_Join : ACode :=
 (.seq
  (.region false [⟨(some 2), (.mv (.const (.slice none 0 0))), none⟩])
  (.seq
   (.region false [⟨(some 3), (.mv (.const (.slice none 0 0))), none⟩])
   (.seq
    (.seq
     (.region false [⟨(some 6), (.mv (.tmp 0)), none⟩,
      ⟨(some 7), (.len (.tmp 6)), none⟩,
      ⟨(some 8), (.mv (.const (it 0))), none⟩])
     (.block 0
      (.loop
       (.seq
        (.region false [⟨(some 9), (.bin .lss (.tmp 8) (.tmp 7)), none⟩])
        (.seq
         (.cond (.tmp 9)
          .skip
          (.exit 0))
         (.seq
          (.block 1
           (.seq
            (.region false [⟨(some 10), (.iaddrs .ref (.tmp 6) (.tmp 8)), none⟩,
             ⟨(some 11), (.load .ref (.tmp 10)), none⟩,
             ⟨(some 5), (.mv (.tmp 11)), none⟩])
            (.region false [⟨(some 12), (.mv (.tmp 3)), none⟩,
             ⟨(some 13), (.mv (.tmp 5)), none⟩,
             ⟨(some 14), (.append L8 1 (.tmp 12) (.tmp 13)), none⟩,
             ⟨(some 3), (.mv (.tmp 14)), none⟩])))
          (.region false [⟨(some 15), (.bin .add (.tmp 8) (.const (it 1))), none⟩,
           ⟨(some 8), (.mv (.tmp 15)), none⟩])))))))
    (.seq
     (.region false [⟨(some 16), (.mv (.tmp 3)), none⟩,
      ⟨(some 2), (.mv (.tmp 16)), none⟩])
     .ret))))
def r_ref01_Join : List ARes := [(.tmp 2)]
theorem c_ref01_Join : o2 Go.Proofs.Tryd.f13.body (comp Go.Proofs.Tryd.prog Go.Proofs.Tryd.f13.ntmps) = some a_ref01_Join := by kernel_rfl
theorem s_ref01_Join : cRess Go.Proofs.Tryd.prog Go.Proofs.Tryd.f13.results.toList = some r_ref01_Join := by kernel_rfl
theorem m_ref01_Join (C : Ctx) (hC : CtxOK C Go.Proofs.Tryd.prog) : Meets C.glob Go.Proofs.Tryd.prog 13 (afun C 1 r_ref01_Join a_ref01_Join) :=
  fn_sound hC Go.Proofs.Tryd.func13 c_ref01_Join s_ref01_Join (Nat.le_of_ble_eq_true (by kernel_rfl))

/-- curtilage/curtilageref01.Num -/
def a_ref01_Num : ACode :=
 (.seq
  (.region false [⟨(some 4), (.mv (.const (.slice none 0 0))), none⟩])
  (.seq
   (.region false [⟨(some 7), (.mv (.tmp 1)), none⟩,
    ⟨(some 8), (.mks L8 1 (.raw (u8 0#8)) (.tmp 7) (.tmp 7)), none⟩,
    ⟨(some 5), (.mv (.tmp 8)), none⟩])
   (.seq
    (.seq
     (.region false [⟨(some 9), (.mv (.tmp 1)), none⟩,
      ⟨(some 10), (.bin .sub (.tmp 9) (.const (it 1))), none⟩,
      ⟨(some 6), (.mv (.tmp 10)), none⟩])
     (.block 0
      (.loop
       (.seq
        (.seq
         (.region false [⟨(some 11), (.mv (.tmp 6)), none⟩,
          ⟨(some 12), (.bin .geq (.tmp 11) (.const (it 0))), none⟩])
         (.cond (.tmp 12)
          .skip
          (.exit 0)))
        (.seq
         (.block 1
          (.seq
           (.region false [⟨(some 15), (.mv (.tmp 5)), none⟩,
            ⟨(some 16), (.mv (.tmp 6)), none⟩,
            ⟨(some 17), (.mv (.tmp 0)), none⟩,
            ⟨(some 18), (.bin .rem (.tmp 17) (.const (u64 256#64))), none⟩,
            ⟨(some 19), (.conv .u8 (.tmp 18)), none⟩,
            ⟨(some 20), (.iaddrs L8 (.tmp 15) (.tmp 16)), none⟩,
            ⟨none, (.store L8 (.tmp 20) (.tmp 19)), none⟩])
           (.region false [⟨(some 21), (.mv (.tmp 0)), none⟩,
            ⟨(some 22), (.bin .quo (.tmp 21) (.const (u64 256#64))), none⟩,
            ⟨(some 0), (.mv (.tmp 22)), none⟩])))
         (.region false [⟨(some 13), (.mv (.tmp 6)), none⟩,
          ⟨(some 14), (.bin .sub (.tmp 13) (.const (it 1))), none⟩,
          ⟨(some 6), (.mv (.tmp 14)), none⟩]))))))
    (.seq
     (.region false [⟨(some 23), (.mv (.tmp 5)), none⟩,
      ⟨(some 4), (.mv (.tmp 23)), none⟩])
     .ret))))
def r_ref01_Num : List ARes := [(.tmp 4)]
theorem c_ref01_Num : o2 Go.Proofs.Tryd.f14.body (comp Go.Proofs.Tryd.prog Go.Proofs.Tryd.f14.ntmps) = some a_ref01_Num := by kernel_rfl
theorem s_ref01_Num : cRess Go.Proofs.Tryd.prog Go.Proofs.Tryd.f14.results.toList = some r_ref01_Num := by kernel_rfl
theorem m_ref01_Num (C : Ctx) (hC : CtxOK C Go.Proofs.Tryd.prog) : Meets C.glob Go.Proofs.Tryd.prog 14 (afun C 2 r_ref01_Num a_ref01_Num) :=
  fn_sound hC Go.Proofs.Tryd.func14 c_ref01_Num s_ref01_Num (Nat.le_of_ble_eq_true (by kernel_rfl))

/-- curtilage/meas.Check -/
def a_meas_Check : ACode :=
 (.seq
  (.region false [⟨(some 6), (.box (.ar 4 (.ar 32 L8)) (.tmp 2)), none⟩,
   ⟨(some 7), (.box (.ar 32 L8) (.tmp 3)), none⟩,
   ⟨(some 8), (.mv (.const (.bool false))), none⟩])
  (.seq
   (.draw1 [⟨(some 9), (.mv (.tmp 0)), none⟩,
    ⟨(some 10), (.mv (.tmp 1)), none⟩,
    ⟨(some 11), (.load (.ar 4 (.ar 32 L8)) (.tmp 6)), none⟩,
    ⟨(some 12), (.call 24 [(.tmp 10), (.tmp 11)]), none⟩,
    ⟨(some 13), (.call 27 [(.tmp 9), (.tmp 12)]), none⟩,
    ⟨(some 14), (.load (.ar 32 L8) (.tmp 7)), none⟩]
    [⟨(some 15), (.call 26 [(.tmp 13), (.tmp 14)]), none⟩,
    ⟨(some 8), (.mv (.tmp 15)), none⟩])
   .ret))
def r_meas_Check : List ARes := [(.tmp 8)]
theorem c_meas_Check : o2 Go.Proofs.Tryd.f15.body (comp Go.Proofs.Tryd.prog Go.Proofs.Tryd.f15.ntmps) = some a_meas_Check := by kernel_rfl
theorem s_meas_Check : cRess Go.Proofs.Tryd.prog Go.Proofs.Tryd.f15.results.toList = some r_meas_Check := by kernel_rfl
theorem m_meas_Check (C : Ctx) (hC : CtxOK C Go.Proofs.Tryd.prog) : Meets C.glob Go.Proofs.Tryd.prog 15 (afun C 4 r_meas_Check a_meas_Check) :=
  fn_sound hC Go.Proofs.Tryd.func15 c_meas_Check s_meas_Check (Nat.le_of_ble_eq_true (by kernel_rfl))

/-- curtilage/curtilagelaw16.sum -/
def a_law16_sum : ACode :=
 (.seq
  (.region false [⟨(some 3), (.box (.ar 32 L8) (.tmp 0)), none⟩,
   ⟨(some 5), (.box (.ar 4 (.ar 32 L8)) (.tmp 2)), none⟩,
   ⟨(some 6), (.alloc (.ar 32 L8) (.agg (.ar 32 L8) (List.replicate 32 (.raw (u8 0#8))))), none⟩])
  (.seq
   (.draw1 [⟨(some 7), (.slicea 32 L8 (.tmp 3) none none none), none⟩,
    ⟨(some 8), (.bslice L8 4 (.raw (u8 0#8)) [(0, (.const (u8 81#8))), (1, (.const (u8 85#8))), (2, (.const (u8 79#8))), (3, (.const (u8 84#8)))]), none⟩,
    ⟨(some 9), (.frzb L8 (.tmp 8)), none⟩,
    ⟨(some 10), (.mv (.tmp 1)), none⟩,
    ⟨(some 11), (.len (.tmp 10)), none⟩,
    ⟨(some 12), (.conv .u64 (.tmp 11)), none⟩,
    ⟨(some 13), (.call 14 [(.tmp 12), (.const (it 4))]), none⟩,
    ⟨(some 14), (.mv (.tmp 1)), none⟩,
    ⟨(some 15), (.iaddra 4 (.ar 32 L8) (.tmp 5) (.const (it 0))), none⟩,
    ⟨(some 16), (.slicea 32 L8 (.tmp 15) none none none), none⟩,
    ⟨(some 17), (.iaddra 4 (.ar 32 L8) (.tmp 5) (.const (it 1))), none⟩,
    ⟨(some 18), (.slicea 32 L8 (.tmp 17) none none none), none⟩,
    ⟨(some 19), (.iaddra 4 (.ar 32 L8) (.tmp 5) (.const (it 2))), none⟩,
    ⟨(some 20), (.slicea 32 L8 (.tmp 19) none none none), none⟩,
    ⟨(some 21), (.iaddra 4 (.ar 32 L8) (.tmp 5) (.const (it 3))), none⟩,
    ⟨(some 22), (.slicea 32 L8 (.tmp 21) none none none), none⟩,
    ⟨(some 23), (.bslice .ref 7 (.raw (.slice none 0 0)) [(0, (.tmp 9)), (1, (.tmp 13)), (2, (.tmp 14)), (3, (.tmp 16)), (4, (.tmp 18)), (5, (.tmp 20)), (6, (.tmp 22))]), none⟩,
    ⟨(some 24), (.call 13 [(.tmp 23)]), none⟩]
    [⟨(some 25), (.call 12 [(.tmp 7), (.tmp 24)]), none⟩,
    ⟨none, (.store (.ar 32 L8) (.tmp 6) (.tmp 25)), none⟩])
   .ret))
def r_law16_sum : List ARes := [(.cell 6 (.ar 32 L8))]
theorem c_law16_sum : o2 Go.Proofs.Tryd.f16.body (comp Go.Proofs.Tryd.prog Go.Proofs.Tryd.f16.ntmps) = some a_law16_sum := by kernel_rfl
theorem s_law16_sum : cRess Go.Proofs.Tryd.prog Go.Proofs.Tryd.f16.results.toList = some r_law16_sum := by kernel_rfl
theorem m_law16_sum (C : Ctx) (hC : CtxOK C Go.Proofs.Tryd.prog) : Meets C.glob Go.Proofs.Tryd.prog 16 (afun C 3 r_law16_sum a_law16_sum) :=
  fn_sound hC Go.Proofs.Tryd.func16 c_law16_sum s_law16_sum (Nat.le_of_ble_eq_true (by kernel_rfl))

/-- curtilage/curtilageref01.Same -/
def a_ref01_Same : ACode :=
 (.seq
  (.region false [⟨(some 4), (.mv (.const (.bool false))), none⟩])
  (.seq
   (.seq
    (.region false [⟨(some 6), (.mv (.tmp 0)), none⟩,
     ⟨(some 7), (.len (.tmp 6)), none⟩,
     ⟨(some 8), (.mv (.tmp 1)), none⟩,
     ⟨(some 9), (.len (.tmp 8)), none⟩,
     ⟨(some 10), (.bin .neq (.tmp 7) (.tmp 9)), none⟩])
    (.cond (.tmp 10)
     (.seq
      (.region false [⟨(some 4), (.mv (.const (.bool false))), none⟩])
      .ret)
     .skip))
   (.seq
    (.seq
     (.region false [⟨(some 11), (.mv (.tmp 0)), none⟩,
      ⟨(some 12), (.len (.tmp 11)), none⟩,
      ⟨(some 13), (.mv (.const (it 0))), none⟩])
     (.block 0
      (.loop
       (.seq
        (.region false [⟨(some 14), (.bin .lss (.tmp 13) (.tmp 12)), none⟩])
        (.seq
         (.cond (.tmp 14)
          .skip
          (.exit 0))
         (.seq
          (.block 1
           (.seq
            (.region false [⟨(some 15), (.mv (.tmp 13)), none⟩,
             ⟨(some 5), (.mv (.tmp 15)), none⟩])
            (.seq
             (.region true [⟨(some 16), (.mv (.tmp 0)), none⟩,
              ⟨(some 17), (.mv (.tmp 5)), none⟩,
              ⟨(some 18), (.iaddrs L8 (.tmp 16) (.tmp 17)), none⟩,
              ⟨(some 19), (.load L8 (.tmp 18)), none⟩,
              ⟨(some 20), (.mv (.tmp 1)), none⟩,
              ⟨(some 21), (.mv (.tmp 5)), none⟩,
              ⟨(some 22), (.iaddrs L8 (.tmp 20) (.tmp 21)), none⟩,
              ⟨(some 23), (.load L8 (.tmp 22)), none⟩,
              ⟨(some 24), (.bin .neq (.tmp 19) (.tmp 23)), none⟩])
             (.cond (.tmp 24)
              (.seq
               (.region false [⟨(some 4), (.mv (.const (.bool false))), none⟩])
               .ret)
              .skip))))
          (.region false [⟨(some 25), (.bin .add (.tmp 13) (.const (it 1))), none⟩,
           ⟨(some 13), (.mv (.tmp 25)), none⟩])))))))
    (.seq
     (.region false [⟨(some 4), (.mv (.const (.bool true))), none⟩])
     .ret))))
def r_ref01_Same : List ARes := [(.tmp 4)]
theorem c_ref01_Same : o2 Go.Proofs.Tryd.f17.body (comp Go.Proofs.Tryd.prog Go.Proofs.Tryd.f17.ntmps) = some a_ref01_Same := by kernel_rfl
theorem s_ref01_Same : cRess Go.Proofs.Tryd.prog Go.Proofs.Tryd.f17.results.toList = some r_ref01_Same := by kernel_rfl
theorem m_ref01_Same (C : Ctx) (hC : CtxOK C Go.Proofs.Tryd.prog) : Meets C.glob Go.Proofs.Tryd.prog 17 (afun C 2 r_ref01_Same a_ref01_Same) :=
  fn_sound hC Go.Proofs.Tryd.func17 c_ref01_Same s_ref01_Same (Nat.le_of_ble_eq_true (by kernel_rfl))

/-- (curtilage/meas.Meas).Get -/
def a_meas_Meas_Get : ACode :=
 (.seq
  (.region false [⟨(some 2), (.box S1 (.tmp 0)), none⟩,
   ⟨(some 4), (.alloc (.ar 32 L8) (.agg (.ar 32 L8) (List.replicate 32 (.raw (u8 0#8))))), none⟩,
   ⟨(some 5), (.mv (.const (.bool false))), none⟩])
  (.seq
   (.seq
    (.region false [⟨(some 6), (.mv (.tmp 1)), none⟩,
     ⟨(some 7), (.call 20 [(.tmp 6)]), none⟩,
     ⟨(some 8), (.un .not (.tmp 7)), none⟩])
    (.cond (.tmp 8)
     (.seq
      (.region false [⟨(some 9), (.build (.ar 32 L8) (List.replicate 32 (.raw (u8 0#8))) []), none⟩,
       ⟨none, (.store (.ar 32 L8) (.tmp 4) (.tmp 9)), none⟩,
       ⟨(some 5), (.mv (.const (.bool false))), none⟩])
      .ret)
     .skip))
   (.seq
    (.region false [⟨(some 10), (.mv (.tmp 1)), none⟩,
     ⟨(some 11), (.faddr S1 (.tmp 2) 0), none⟩,
     ⟨(some 12), (.iaddra 4 (.ar 32 L8) (.tmp 11) (.tmp 10)), none⟩,
     ⟨(some 13), (.load (.ar 32 L8) (.tmp 12)), none⟩,
     ⟨none, (.store (.ar 32 L8) (.tmp 4) (.tmp 13)), none⟩,
     ⟨(some 5), (.mv (.const (.bool true))), none⟩])
    .ret)))
def r_meas_Meas_Get : List ARes := [(.cell 4 (.ar 32 L8)), (.tmp 5)]
theorem c_meas_Meas_Get : o2 Go.Proofs.Tryd.f18.body (comp Go.Proofs.Tryd.prog Go.Proofs.Tryd.f18.ntmps) = some a_meas_Meas_Get := by kernel_rfl
theorem s_meas_Meas_Get : cRess Go.Proofs.Tryd.prog Go.Proofs.Tryd.f18.results.toList = some r_meas_Meas_Get := by kernel_rfl
theorem m_meas_Meas_Get (C : Ctx) (hC : CtxOK C Go.Proofs.Tryd.prog) : Meets C.glob Go.Proofs.Tryd.prog 18 (afun C 2 r_meas_Meas_Get a_meas_Meas_Get) :=
  fn_sound hC Go.Proofs.Tryd.func18 c_meas_Meas_Get s_meas_Meas_Get (Nat.le_of_ble_eq_true (by kernel_rfl))

/-- curtilage/curtilagelaw16.next -/
def a_law16_next : ACode :=
 (.seq
  (.region false [⟨(some 2), (.box (.ar 32 L8) (.tmp 0)), none⟩,
   ⟨(some 4), (.alloc (.ar 32 L8) (.agg (.ar 32 L8) (List.replicate 32 (.raw (u8 0#8))))), none⟩])
  (.seq
   (.region false [⟨(some 6), (.mv (.tmp 1)), none⟩,
    ⟨(some 7), (.call 25 [(.tmp 6)]), none⟩,
    ⟨(some 5), (.alloc (.ar 32 L8) (.agg (.ar 32 L8) (List.replicate 32 (.raw (u8 0#8))))), none⟩,
    ⟨none, (.store (.ar 32 L8) (.tmp 5) (.tmp 7)), none⟩])
   (.seq
    (.draw1 [⟨(some 8), (.slicea 32 L8 (.tmp 2) none none none), none⟩,
     ⟨(some 9), (.slicea 32 L8 (.tmp 5) none none none), none⟩]
     [⟨(some 10), (.bslice .ref 2 (.raw (.slice none 0 0)) [(0, (.tmp 8)), (1, (.tmp 9))]), none⟩,
     ⟨(some 11), (.call 13 [(.tmp 10)]), none⟩,
     ⟨(some 12), (.call 25 [(.tmp 11)]), none⟩,
     ⟨none, (.store (.ar 32 L8) (.tmp 4) (.tmp 12)), none⟩])
    .ret)))
def r_law16_next : List ARes := [(.cell 4 (.ar 32 L8))]
theorem c_law16_next : o2 Go.Proofs.Tryd.f19.body (comp Go.Proofs.Tryd.prog Go.Proofs.Tryd.f19.ntmps) = some a_law16_next := by kernel_rfl
theorem s_law16_next : cRess Go.Proofs.Tryd.prog Go.Proofs.Tryd.f19.results.toList = some r_law16_next := by kernel_rfl
theorem m_law16_next (C : Ctx) (hC : CtxOK C Go.Proofs.Tryd.prog) : Meets C.glob Go.Proofs.Tryd.prog 19 (afun C 2 r_law16_next a_law16_next) :=
  fn_sound hC Go.Proofs.Tryd.func19 c_law16_next s_law16_next (Nat.le_of_ble_eq_true (by kernel_rfl))

/-- curtilage/meas.there -/
def a_meas_there : ACode :=
 (.seq
  (.region false [⟨(some 2), (.mv (.const (.bool false))), none⟩])
  (.seq
   (.region false [⟨(some 3), (.mv (.tmp 0)), none⟩,
    ⟨(some 4), (.bin .geq (.tmp 3) (.const (it 0))), none⟩,
    ⟨(some 5), (.mv (.tmp 4)), none⟩,
    ⟨(some 6), (.mv (.tmp 0)), some (5, true)⟩,
    ⟨(some 7), (.bin .lss (.tmp 6) (.const (it 4))), some (5, true)⟩,
    ⟨(some 8), (.pick (.tmp 5) (.tmp 7) (.const (.bool false))), none⟩,
    ⟨(some 2), (.mv (.tmp 8)), none⟩])
   .ret))
def r_meas_there : List ARes := [(.tmp 2)]
theorem c_meas_there : o2 Go.Proofs.Tryd.f20.body (comp Go.Proofs.Tryd.prog Go.Proofs.Tryd.f20.ntmps) = some a_meas_there := by kernel_rfl
theorem s_meas_there : cRess Go.Proofs.Tryd.prog Go.Proofs.Tryd.f20.results.toList = some r_meas_there := by kernel_rfl
theorem m_meas_there (C : Ctx) (hC : CtxOK C Go.Proofs.Tryd.prog) : Meets C.glob Go.Proofs.Tryd.prog 20 (afun C 1 r_meas_there a_meas_there) :=
  fn_sound hC Go.Proofs.Tryd.func20 c_meas_there s_meas_there (Nat.le_of_ble_eq_true (by kernel_rfl))

/-- curtilage/sha.Sum -/
def a_sha_Sum : ACode :=
 (.seq
  (.region false [⟨(some 2), (.alloc (.ar 32 L8) (.agg (.ar 32 L8) (List.replicate 32 (.raw (u8 0#8))))), none⟩])
  (.seq
   (.region false [⟨(some 3), (.call 28 []), none⟩,
    ⟨(some 4), (.mv (.tmp 0)), none⟩,
    ⟨(some 5), (.call 30 [(.tmp 4), (.const (.slice none 0 0))]), none⟩,
    ⟨(some 6), (.call 29 [(.tmp 3), (.tmp 5)]), none⟩,
    ⟨(some 7), (.call 31 [(.tmp 6)]), none⟩,
    ⟨none, (.store (.ar 32 L8) (.tmp 2) (.tmp 7)), none⟩])
   .ret))
def r_sha_Sum : List ARes := [(.cell 2 (.ar 32 L8))]
theorem c_sha_Sum : o2 Go.Proofs.Tryd.f21.body (comp Go.Proofs.Tryd.prog Go.Proofs.Tryd.f21.ntmps) = some a_sha_Sum := by kernel_rfl
theorem s_sha_Sum : cRess Go.Proofs.Tryd.prog Go.Proofs.Tryd.f21.results.toList = some r_sha_Sum := by kernel_rfl
theorem m_sha_Sum (C : Ctx) (hC : CtxOK C Go.Proofs.Tryd.prog) : Meets C.glob Go.Proofs.Tryd.prog 21 (afun C 1 r_sha_Sum a_sha_Sum) :=
  fn_sound hC Go.Proofs.Tryd.func21 c_sha_Sum s_sha_Sum (Nat.le_of_ble_eq_true (by kernel_rfl))

/-- (*curtilage/slot.Slots).may -/
def a_slot_Slots_may : ACode :=
 (.seq
  (.region false [⟨(some 4), (.mv (.const (it 0))), none⟩])
  (.seq
   (.block 0
    (.seq
     (.region false [⟨(some 8), (.mv (.tmp 0)), none⟩,
      ⟨(some 9), (.eqnil false (.tmp 8) (.const (.pointer none))), none⟩,
      ⟨(some 7), (.mv (.tmp 9)), none⟩])
     (.cond (.tmp 7)
      (.seq
       (.region false [⟨(some 4), (.mv (.const (it 3))), none⟩])
       .ret)
      (.seq
       (.region false [⟨(some 11), (.mv (.tmp 0)), none⟩,
        ⟨(some 12), (.nilc (.tmp 11)), none⟩,
        ⟨(some 13), (.faddr S4 (.tmp 12) 2), none⟩,
        ⟨(some 14), (.load LB (.tmp 13)), none⟩,
        ⟨(some 10), (.mv (.tmp 14)), none⟩])
       (.cond (.tmp 10)
        (.seq
         (.region false [⟨(some 4), (.mv (.const (it 17))), none⟩])
         .ret)
        .skip)))))
   (.seq
    (.seq
     (.region false [⟨(some 15), (.mv (.tmp 1)), none⟩,
      ⟨(some 16), (.len (.tmp 15)), none⟩,
      ⟨(some 17), (.mv (.const (it 0))), none⟩])
     (.block 1
      (.loop
       (.seq
        (.region false [⟨(some 18), (.bin .lss (.tmp 17) (.tmp 16)), none⟩])
        (.seq
         (.cond (.tmp 18)
          .skip
          (.exit 1))
         (.seq
          (.block 2
           (.seq
            (.region false [⟨(some 19), (.iaddrs LI (.tmp 15) (.tmp 17)), none⟩,
             ⟨(some 20), (.load LI (.tmp 19)), none⟩,
             ⟨(some 6), (.mv (.tmp 20)), none⟩])
            (.seq
             (.region false [⟨(some 21), (.mv (.tmp 0)), none⟩,
              ⟨(some 22), (.nilc (.tmp 21)), none⟩,
              ⟨(some 23), (.faddr S4 (.tmp 22) 0), none⟩,
              ⟨(some 24), (.slicea 8 S3 (.tmp 23) none none none), none⟩,
              ⟨(some 25), (.mv (.tmp 6)), none⟩,
              ⟨(some 26), (.call 32 [(.tmp 24), (.tmp 25)]), none⟩,
              ⟨(some 27), (.un .not (.tmp 26)), none⟩])
             (.cond (.tmp 27)
              (.seq
               (.region false [⟨(some 4), (.mv (.const (it 1))), none⟩])
               .ret)
              .skip))))
          (.region false [⟨(some 28), (.bin .add (.tmp 17) (.const (it 1))), none⟩,
           ⟨(some 17), (.mv (.tmp 28)), none⟩])))))))
    (.seq
     (.region false [⟨(some 4), (.mv (.const (it 0))), none⟩])
     .ret))))
def r_slot_Slots_may : List ARes := [(.tmp 4)]
theorem c_slot_Slots_may : o2 Go.Proofs.Tryd.f22.body (comp Go.Proofs.Tryd.prog Go.Proofs.Tryd.f22.ntmps) = some a_slot_Slots_may := by kernel_rfl
theorem s_slot_Slots_may : cRess Go.Proofs.Tryd.prog Go.Proofs.Tryd.f22.results.toList = some r_slot_Slots_may := by kernel_rfl
theorem m_slot_Slots_may (C : Ctx) (hC : CtxOK C Go.Proofs.Tryd.prog) : Meets C.glob Go.Proofs.Tryd.prog 22 (afun C 2 r_slot_Slots_may a_slot_Slots_may) :=
  fn_sound hC Go.Proofs.Tryd.func22 c_slot_Slots_may s_slot_Slots_may (Nat.le_of_ble_eq_true (by kernel_rfl))

/-- (*curtilage/slot.Slots).Mac -/
def a_slot_Slots_Mac : ACode :=
 (.seq
  (.region false [⟨(some 6), (.alloc (.ar 32 L8) (.agg (.ar 32 L8) (List.replicate 32 (.raw (u8 0#8))))), none⟩,
   ⟨(some 7), (.mv (.const (it 0))), none⟩])
  (.seq
   (.region false [⟨(some 11), (.mv (.tmp 0)), none⟩,
    ⟨(some 12), (.mv (.tmp 1)), none⟩,
    ⟨(some 13), (.call 33 [(.tmp 11), (.tmp 12)]), none⟩,
    ⟨(some 10), (.mv (.tmp 13)), none⟩,
    ⟨(some 14), (.ext (.tmp 10) 0), none⟩,
    ⟨(some 15), (.ext (.tmp 10) 1), none⟩,
    ⟨(some 8), (.mv (.tmp 14)), none⟩,
    ⟨(some 9), (.mv (.tmp 15)), none⟩])
   (.seq
    (.seq
     (.region false [⟨(some 16), (.mv (.tmp 9)), none⟩,
      ⟨(some 17), (.bin .neq (.tmp 16) (.const (it 0))), none⟩])
     (.cond (.tmp 17)
      (.seq
       (.region false [⟨(some 18), (.build (.ar 32 L8) (List.replicate 32 (.raw (u8 0#8))) []), none⟩,
        ⟨(some 19), (.mv (.tmp 9)), none⟩,
        ⟨none, (.store (.ar 32 L8) (.tmp 6) (.tmp 18)), none⟩,
        ⟨(some 7), (.mv (.tmp 19)), none⟩])
       .ret)
      .skip))
    (.seq
     (.region false [⟨(some 20), (.mv (.tmp 8)), none⟩,
      ⟨(some 21), (.mv (.tmp 2)), none⟩,
      ⟨(some 22), (.call 27 [(.tmp 20), (.tmp 21)]), none⟩,
      ⟨none, (.store (.ar 32 L8) (.tmp 6) (.tmp 22)), none⟩,
      ⟨(some 7), (.mv (.const (it 0))), none⟩])
     .ret))))
def r_slot_Slots_Mac : List ARes := [(.cell 6 (.ar 32 L8)), (.tmp 7)]
theorem c_slot_Slots_Mac : o2 Go.Proofs.Tryd.f23.body (comp Go.Proofs.Tryd.prog Go.Proofs.Tryd.f23.ntmps) = some a_slot_Slots_Mac := by kernel_rfl
theorem s_slot_Slots_Mac : cRess Go.Proofs.Tryd.prog Go.Proofs.Tryd.f23.results.toList = some r_slot_Slots_Mac := by kernel_rfl
theorem m_slot_Slots_Mac (C : Ctx) (hC : CtxOK C Go.Proofs.Tryd.prog) : Meets C.glob Go.Proofs.Tryd.prog 23 (afun C 3 r_slot_Slots_Mac a_slot_Slots_Mac) :=
  fn_sound hC Go.Proofs.Tryd.func23 c_slot_Slots_Mac s_slot_Slots_Mac (Nat.le_of_ble_eq_true (by kernel_rfl))

/-- curtilage/meas.parts -/
def a_meas_parts : ACode :=
 (.seq
  (.region false [⟨(some 3), (.box (.ar 4 (.ar 32 L8)) (.tmp 1)), none⟩,
   ⟨(some 4), (.mv (.const (.slice none 0 0))), none⟩])
  (.seq
   (.region false [⟨(some 6), (.mv (.tmp 0)), none⟩,
    ⟨(some 7), (.len (.tmp 6)), none⟩,
    ⟨(some 5), (.mv (.tmp 7)), none⟩])
   (.seq
    (.region false [⟨(some 8), (.bslice L8 4 (.raw (u8 0#8)) [(0, (.const (u8 81#8))), (1, (.const (u8 85#8))), (2, (.const (u8 79#8))), (3, (.const (u8 84#8)))]), none⟩,
     ⟨(some 9), (.frzb L8 (.tmp 8)), none⟩,
     ⟨(some 10), (.mv (.tmp 5)), none⟩,
     ⟨(some 11), (.bin .shr (.tmp 10) (.const (u64 24#64))), none⟩,
     ⟨(some 12), (.conv .u8 (.tmp 11)), none⟩,
     ⟨(some 13), (.mv (.tmp 5)), none⟩,
     ⟨(some 14), (.bin .shr (.tmp 13) (.const (u64 16#64))), none⟩,
     ⟨(some 15), (.conv .u8 (.tmp 14)), none⟩,
     ⟨(some 16), (.mv (.tmp 5)), none⟩,
     ⟨(some 17), (.bin .shr (.tmp 16) (.const (u64 8#64))), none⟩,
     ⟨(some 18), (.conv .u8 (.tmp 17)), none⟩,
     ⟨(some 19), (.mv (.tmp 5)), none⟩,
     ⟨(some 20), (.conv .u8 (.tmp 19)), none⟩,
     ⟨(some 21), (.bslice L8 4 (.raw (u8 0#8)) [(0, (.tmp 12)), (1, (.tmp 15)), (2, (.tmp 18)), (3, (.tmp 20))]), none⟩,
     ⟨(some 22), (.mv (.tmp 0)), none⟩,
     ⟨(some 23), (.load (.ar 4 (.ar 32 L8)) (.tmp 3)), none⟩,
     ⟨(some 24), (.call 34 [(.tmp 23)]), none⟩,
     ⟨(some 25), (.bslice .ref 4 (.raw (.slice none 0 0)) [(0, (.tmp 9)), (1, (.tmp 21)), (2, (.tmp 22)), (3, (.tmp 24))]), none⟩,
     ⟨(some 4), (.mv (.tmp 25)), none⟩])
    .ret)))
def r_meas_parts : List ARes := [(.tmp 4)]
theorem c_meas_parts : o2 Go.Proofs.Tryd.f24.body (comp Go.Proofs.Tryd.prog Go.Proofs.Tryd.f24.ntmps) = some a_meas_parts := by kernel_rfl
theorem s_meas_parts : cRess Go.Proofs.Tryd.prog Go.Proofs.Tryd.f24.results.toList = some r_meas_parts := by kernel_rfl
theorem m_meas_parts (C : Ctx) (hC : CtxOK C Go.Proofs.Tryd.prog) : Meets C.glob Go.Proofs.Tryd.prog 24 (afun C 2 r_meas_parts a_meas_parts) :=
  fn_sound hC Go.Proofs.Tryd.func24 c_meas_parts s_meas_parts (Nat.le_of_ble_eq_true (by kernel_rfl))

/-- curtilage/curtilageref01.Sum -/
def a_ref01_Sum : ACode :=
 (.seq
  (.region false [⟨(some 2), (.alloc (.ar 32 L8) (.agg (.ar 32 L8) (List.replicate 32 (.raw (u8 0#8))))), none⟩])
  (.seq
   (.region false [⟨(some 11), (.mv (.tmp 0)), none⟩,
    ⟨(some 12), (.len (.tmp 11)), none⟩,
    ⟨(some 13), (.conv .u64 (.tmp 12)), none⟩,
    ⟨(some 3), (.mv (.tmp 13)), none⟩])
   (.seq
    (.region false [⟨(some 14), (.mv (.tmp 0)), none⟩,
     ⟨(some 15), (.mv (.tmp 0)), none⟩,
     ⟨(some 16), (.len (.tmp 15)), none⟩,
     ⟨(some 17), (.call 7 [(.tmp 14), (.tmp 16)]), none⟩,
     ⟨(some 18), (.bslice L8 1 (.raw (u8 0#8)) [(0, (.const (u8 128#8)))]), none⟩,
     ⟨(some 19), (.append L8 1 (.tmp 17) (.tmp 18)), none⟩,
     ⟨(some 0), (.mv (.tmp 19)), none⟩])
    (.seq
     (.block 0
      (.loop
       (.seq
        (.seq
         (.region false [⟨(some 20), (.mv (.tmp 0)), none⟩,
          ⟨(some 21), (.len (.tmp 20)), none⟩,
          ⟨(some 22), (.bin .rem (.tmp 21) (.const (it 64))), none⟩,
          ⟨(some 23), (.bin .neq (.tmp 22) (.const (it 56))), none⟩])
         (.cond (.tmp 23)
          .skip
          (.exit 0)))
        (.block 1
         (.region false [⟨(some 24), (.mv (.tmp 0)), none⟩,
          ⟨(some 25), (.bslice L8 1 (.raw (u8 0#8)) [(0, (.const (u8 0#8)))]), none⟩,
          ⟨(some 26), (.append L8 1 (.tmp 24) (.tmp 25)), none⟩,
          ⟨(some 0), (.mv (.tmp 26)), none⟩])))))
     (.seq
      (.region false [⟨(some 27), (.mv (.tmp 0)), none⟩,
       ⟨(some 28), (.mv (.tmp 3)), none⟩,
       ⟨(some 29), (.bin .mul (.const (u64 8#64)) (.tmp 28)), none⟩,
       ⟨(some 30), (.call 14 [(.tmp 29), (.const (it 8))]), none⟩,
       ⟨(some 31), (.append L8 1 (.tmp 27) (.tmp 30)), none⟩,
       ⟨(some 0), (.mv (.tmp 31)), none⟩])
      (.seq
       (.region false [⟨(some 32), (.build (.ar 8 L32) (List.replicate 8 (.raw (u32 0#32))) [(0, (.const (u32 1779033703#32))), (1, (.const (u32 3144134277#32))), (2, (.const (u32 1013904242#32))), (3, (.const (u32 2773480762#32))), (4, (.const (u32 1359893119#32))), (5, (.const (u32 2600822924#32))), (6, (.const (u32 528734635#32))), (7, (.const (u32 1541459225#32)))]), none⟩,
        ⟨(some 4), (.alloc (.ar 8 L32) (.agg (.ar 8 L32) (List.replicate 8 (.raw (u32 0#32))))), none⟩,
        ⟨none, (.store (.ar 8 L32) (.tmp 4) (.tmp 32)), none⟩])
       (.seq
        (.seq
         (.region false [⟨(some 5), (.mv (.const (it 0))), none⟩])
         (.block 2
          (.loop
           (.seq
            (.seq
             (.region false [⟨(some 33), (.mv (.tmp 5)), none⟩,
              ⟨(some 34), (.mv (.tmp 0)), none⟩,
              ⟨(some 35), (.len (.tmp 34)), none⟩,
              ⟨(some 36), (.bin .lss (.tmp 33) (.tmp 35)), none⟩])
             (.cond (.tmp 36)
              .skip
              (.exit 2)))
            (.seq
             (.block 3
              (.draw1 [⟨(some 39), (.load (.ar 8 L32) (.tmp 4)), none⟩,
               ⟨(some 40), (.mv (.tmp 0)), none⟩,
               ⟨(some 41), (.mv (.tmp 5)), none⟩,
               ⟨(some 42), (.mv (.tmp 5)), none⟩,
               ⟨(some 43), (.bin .add (.tmp 42) (.const (it 64))), none⟩,
               ⟨(some 44), (.slice L8 (.tmp 40) (some (.tmp 41)) (some (.tmp 43)) none), none⟩]
               [⟨(some 45), (.call 35 [(.tmp 39), (.tmp 44)]), none⟩,
               ⟨none, (.store (.ar 8 L32) (.tmp 4) (.tmp 45)), none⟩]))
             (.region false [⟨(some 37), (.mv (.tmp 5)), none⟩,
              ⟨(some 38), (.bin .add (.tmp 37) (.const (it 64))), none⟩,
              ⟨(some 5), (.mv (.tmp 38)), none⟩]))))))
        (.seq
         (.region false [⟨(some 6), (.alloc (.ar 32 L8) (.agg (.ar 32 L8) (List.replicate 32 (.raw (u8 0#8))))), none⟩])
         (.seq
          (.seq
           (.region false [⟨(some 46), (.load (.ar 8 L32) (.tmp 4)), none⟩,
            ⟨(some 47), (.mv (.const (it 0))), none⟩])
           (.block 4
            (.loop
             (.seq
              (.region false [⟨(some 48), (.bin .lss (.tmp 47) (.const (it 8))), none⟩])
              (.seq
               (.cond (.tmp 48)
                .skip
                (.exit 4))
               (.seq
                (.block 5
                 (.seq
                  (.region false [⟨(some 49), (.mv (.tmp 47)), none⟩,
                   ⟨(some 50), (.index 8 L32 (.tmp 46) (.tmp 47)), none⟩,
                   ⟨(some 7), (.mv (.tmp 49)), none⟩,
                   ⟨(some 8), (.mv (.tmp 50)), none⟩])
                  (.seq
                   (.region false [⟨(some 51), (.mv (.tmp 8)), none⟩,
                    ⟨(some 52), (.conv .u64 (.tmp 51)), none⟩,
                    ⟨(some 53), (.call 14 [(.tmp 52), (.const (it 4))]), none⟩,
                    ⟨(some 54), (.len (.tmp 53)), none⟩,
                    ⟨(some 55), (.mv (.const (it 0))), none⟩])
                   (.block 6
                    (.loop
                     (.seq
                      (.region false [⟨(some 56), (.bin .lss (.tmp 55) (.tmp 54)), none⟩])
                      (.seq
                       (.cond (.tmp 56)
                        .skip
                        (.exit 6))
                       (.seq
                        (.block 7
                         (.seq
                          (.region false [⟨(some 57), (.mv (.tmp 55)), none⟩,
                           ⟨(some 58), (.iaddrs L8 (.tmp 53) (.tmp 55)), none⟩,
                           ⟨(some 59), (.load L8 (.tmp 58)), none⟩,
                           ⟨(some 9), (.mv (.tmp 57)), none⟩,
                           ⟨(some 10), (.mv (.tmp 59)), none⟩])
                          (.region false [⟨(some 60), (.mv (.tmp 7)), none⟩,
                           ⟨(some 61), (.bin .mul (.const (it 4)) (.tmp 60)), none⟩,
                           ⟨(some 62), (.mv (.tmp 9)), none⟩,
                           ⟨(some 63), (.bin .add (.tmp 61) (.tmp 62)), none⟩,
                           ⟨(some 64), (.mv (.tmp 10)), none⟩,
                           ⟨(some 65), (.iaddra 32 L8 (.tmp 6) (.tmp 63)), none⟩,
                           ⟨none, (.store L8 (.tmp 65) (.tmp 64)), none⟩])))
                        (.region false [⟨(some 66), (.bin .add (.tmp 55) (.const (it 1))), none⟩,
                         ⟨(some 55), (.mv (.tmp 66)), none⟩])))))))))
                (.region false [⟨(some 67), (.bin .add (.tmp 47) (.const (it 1))), none⟩,
                 ⟨(some 47), (.mv (.tmp 67)), none⟩])))))))
          (.seq
           (.region false [⟨(some 68), (.load (.ar 32 L8) (.tmp 6)), none⟩,
            ⟨none, (.store (.ar 32 L8) (.tmp 2) (.tmp 68)), none⟩])
           .ret))))))))))
def r_ref01_Sum : List ARes := [(.cell 2 (.ar 32 L8))]
theorem c_ref01_Sum : o2 Go.Proofs.Tryd.f25.body (comp Go.Proofs.Tryd.prog Go.Proofs.Tryd.f25.ntmps) = some a_ref01_Sum := by kernel_rfl
theorem s_ref01_Sum : cRess Go.Proofs.Tryd.prog Go.Proofs.Tryd.f25.results.toList = some r_ref01_Sum := by kernel_rfl
theorem m_ref01_Sum (C : Ctx) (hC : CtxOK C Go.Proofs.Tryd.prog) : Meets C.glob Go.Proofs.Tryd.prog 25 (afun C 1 r_ref01_Sum a_ref01_Sum) :=
  fn_sound hC Go.Proofs.Tryd.func25 c_ref01_Sum s_ref01_Sum (Nat.le_of_ble_eq_true (by kernel_rfl))

/-- curtilage/mac.Equal -/
def a_mac_Equal : ACode :=
 (.seq
  (.region false [⟨(some 2), (.box (.ar 32 L8) (.tmp 0)), none⟩,
   ⟨(some 3), (.box (.ar 32 L8) (.tmp 1)), none⟩,
   ⟨(some 4), (.mv (.const (.bool false))), none⟩])
  (.seq
   (.region false [⟨(some 5), (.mv (.const (u8 0#8))), none⟩])
   (.seq
    (.seq
     (.region false [⟨(some 7), (.mv (.const (it 0))), none⟩])
     (.block 0
      (.loop
       (.seq
        (.region false [⟨(some 8), (.bin .lss (.tmp 7) (.const (it 32))), none⟩])
        (.seq
         (.cond (.tmp 8)
          .skip
          (.exit 0))
         (.seq
          (.block 1
           (.seq
            (.region false [⟨(some 9), (.mv (.tmp 7)), none⟩,
             ⟨(some 6), (.mv (.tmp 9)), none⟩])
            (.region true [⟨(some 10), (.mv (.tmp 5)), none⟩,
             ⟨(some 11), (.mv (.tmp 6)), none⟩,
             ⟨(some 12), (.iaddra 32 L8 (.tmp 2) (.tmp 11)), none⟩,
             ⟨(some 13), (.load L8 (.tmp 12)), none⟩,
             ⟨(some 14), (.mv (.tmp 6)), none⟩,
             ⟨(some 15), (.iaddra 32 L8 (.tmp 3) (.tmp 14)), none⟩,
             ⟨(some 16), (.load L8 (.tmp 15)), none⟩,
             ⟨(some 17), (.bin .xor (.tmp 13) (.tmp 16)), none⟩,
             ⟨(some 18), (.bin .or (.tmp 10) (.tmp 17)), none⟩,
             ⟨(some 5), (.mv (.tmp 18)), none⟩])))
          (.region false [⟨(some 19), (.bin .add (.tmp 7) (.const (it 1))), none⟩,
           ⟨(some 7), (.mv (.tmp 19)), none⟩])))))))
    (.seq
     (.region false [⟨(some 20), (.mv (.tmp 5)), none⟩,
      ⟨(some 21), (.bin .eql (.tmp 20) (.const (u8 0#8))), none⟩,
      ⟨(some 4), (.mv (.tmp 21)), none⟩])
     .ret))))
def r_mac_Equal : List ARes := [(.tmp 4)]
theorem c_mac_Equal : o2 Go.Proofs.Tryd.f26.body (comp Go.Proofs.Tryd.prog Go.Proofs.Tryd.f26.ntmps) = some a_mac_Equal := by kernel_rfl
theorem s_mac_Equal : cRess Go.Proofs.Tryd.prog Go.Proofs.Tryd.f26.results.toList = some r_mac_Equal := by kernel_rfl
theorem m_mac_Equal (C : Ctx) (hC : CtxOK C Go.Proofs.Tryd.prog) : Meets C.glob Go.Proofs.Tryd.prog 26 (afun C 2 r_mac_Equal a_mac_Equal) :=
  fn_sound hC Go.Proofs.Tryd.func26 c_mac_Equal s_mac_Equal (Nat.le_of_ble_eq_true (by kernel_rfl))

/-- curtilage/mac.Sum -/
def a_mac_Sum : ACode :=
 (.seq
  (.region false [⟨(some 4), (.alloc (.ar 32 L8) (.agg (.ar 32 L8) (List.replicate 32 (.raw (u8 0#8))))), none⟩])
  (.seq
   (.region false [⟨(some 8), (.mv (.tmp 0)), none⟩,
    ⟨(some 9), (.call 36 [(.tmp 8)]), none⟩,
    ⟨(some 5), (.alloc S6 (.agg S6 [(.agg S5 [(.agg (.ar 8 L32) (List.replicate 8 (.raw (u32 0#32)))), (.agg (.ar 64 L8) (List.replicate 64 (.raw (u8 0#8)))), (.raw (u64 0#64))]), (.agg S5 [(.agg (.ar 8 L32) (List.replicate 8 (.raw (u32 0#32)))), (.agg (.ar 64 L8) (List.replicate 64 (.raw (u8 0#8)))), (.raw (u64 0#64))])])), none⟩,
    ⟨none, (.store S6 (.tmp 5) (.tmp 9)), none⟩])
   (.seq
    (.seq
     (.region false [⟨(some 10), (.mv (.tmp 1)), none⟩,
      ⟨(some 11), (.len (.tmp 10)), none⟩,
      ⟨(some 12), (.mv (.const (it 0))), none⟩])
     (.block 0
      (.loop
       (.seq
        (.region false [⟨(some 13), (.bin .lss (.tmp 12) (.tmp 11)), none⟩])
        (.seq
         (.cond (.tmp 13)
          .skip
          (.exit 0))
         (.seq
          (.block 1
           (.seq
            (.region false [⟨(some 14), (.iaddrs .ref (.tmp 10) (.tmp 12)), none⟩,
             ⟨(some 15), (.load .ref (.tmp 14)), none⟩,
             ⟨(some 7), (.mv (.tmp 15)), none⟩])
            (.region false [⟨(some 16), (.load S6 (.tmp 5)), none⟩,
             ⟨(some 17), (.mv (.tmp 7)), none⟩,
             ⟨(some 18), (.call 37 [(.tmp 16), (.tmp 17)]), none⟩,
             ⟨none, (.store S6 (.tmp 5) (.tmp 18)), none⟩])))
          (.region false [⟨(some 19), (.bin .add (.tmp 12) (.const (it 1))), none⟩,
           ⟨(some 12), (.mv (.tmp 19)), none⟩])))))))
    (.seq
     (.region false [⟨(some 20), (.load S6 (.tmp 5)), none⟩,
      ⟨(some 21), (.call 38 [(.tmp 20)]), none⟩,
      ⟨none, (.store (.ar 32 L8) (.tmp 4) (.tmp 21)), none⟩])
     .ret))))
def r_mac_Sum : List ARes := [(.cell 4 (.ar 32 L8))]
theorem c_mac_Sum : o2 Go.Proofs.Tryd.f27.body (comp Go.Proofs.Tryd.prog Go.Proofs.Tryd.f27.ntmps) = some a_mac_Sum := by kernel_rfl
theorem s_mac_Sum : cRess Go.Proofs.Tryd.prog Go.Proofs.Tryd.f27.results.toList = some r_mac_Sum := by kernel_rfl
theorem m_mac_Sum (C : Ctx) (hC : CtxOK C Go.Proofs.Tryd.prog) : Meets C.glob Go.Proofs.Tryd.prog 27 (afun C 2 r_mac_Sum a_mac_Sum) :=
  fn_sound hC Go.Proofs.Tryd.func27 c_mac_Sum s_mac_Sum (Nat.le_of_ble_eq_true (by kernel_rfl))

/-- curtilage/sha.New -/
def a_sha_New : ACode :=
 (.seq
  (.region false [⟨(some 0), (.alloc S5 (.agg S5 [(.agg (.ar 8 L32) (List.replicate 8 (.raw (u32 0#32)))), (.agg (.ar 64 L8) (List.replicate 64 (.raw (u8 0#8)))), (.raw (u64 0#64))])), none⟩])
  (.seq
   (.region false [⟨(some 1), (.load (.ar 8 L32) (.glob 0)), none⟩,
    ⟨(some 2), (.build S5 [(.agg (.ar 8 L32) (List.replicate 8 (.raw (u32 0#32)))), (.agg (.ar 64 L8) (List.replicate 64 (.raw (u8 0#8)))), (.raw (u64 0#64))] [(0, (.tmp 1))]), none⟩,
    ⟨none, (.store S5 (.tmp 0) (.tmp 2)), none⟩])
   .ret))
def r_sha_New : List ARes := [(.cell 0 S5)]
theorem c_sha_New : o2 Go.Proofs.Tryd.f28.body (comp Go.Proofs.Tryd.prog Go.Proofs.Tryd.f28.ntmps) = some a_sha_New := by kernel_rfl
theorem s_sha_New : cRess Go.Proofs.Tryd.prog Go.Proofs.Tryd.f28.results.toList = some r_sha_New := by kernel_rfl
theorem m_sha_New (C : Ctx) (hC : CtxOK C Go.Proofs.Tryd.prog) : Meets C.glob Go.Proofs.Tryd.prog 28 (afun C 0 r_sha_New a_sha_New) :=
  fn_sound hC Go.Proofs.Tryd.func28 c_sha_New s_sha_New (Nat.le_of_ble_eq_true (by kernel_rfl))

/-- (curtilage/sha.State).Feed -/
def a_sha_State_Feed : ACode :=
 (.seq
  (.region false [⟨(some 2), (.box S5 (.tmp 0)), none⟩,
   ⟨(some 4), (.alloc S5 (.agg S5 [(.agg (.ar 8 L32) (List.replicate 8 (.raw (u32 0#32)))), (.agg (.ar 64 L8) (List.replicate 64 (.raw (u8 0#8)))), (.raw (u64 0#64))])), none⟩])
  (.seq
   (.block 0
    (.loop
     (.seq
      (.seq
       (.region false [⟨(some 7), (.mv (.tmp 1)), none⟩,
        ⟨(some 8), (.len (.tmp 7)), none⟩,
        ⟨(some 9), (.bin .gtr (.tmp 8) (.const (it 0))), none⟩])
       (.cond (.tmp 9)
        .skip
        (.exit 0)))
      (.block 1
       (.seq
        (.region false [⟨(some 10), (.faddr S5 (.tmp 2) 2), none⟩,
         ⟨(some 11), (.load L64 (.tmp 10)), none⟩,
         ⟨(some 12), (.bin .rem (.tmp 11) (.const (u64 64#64))), none⟩,
         ⟨(some 13), (.conv .i64 (.tmp 12)), none⟩,
         ⟨(some 5), (.mv (.tmp 13)), none⟩])
        (.seq
         (.region false [⟨(some 14), (.faddr S5 (.tmp 2) 1), none⟩,
          ⟨(some 15), (.mv (.tmp 5)), none⟩,
          ⟨(some 16), (.slicea 64 L8 (.tmp 14) (some (.tmp 15)) none none), none⟩,
          ⟨(some 17), (.mv (.tmp 1)), none⟩,
          ⟨(some 18), (.copy L8 (.tmp 16) (.tmp 17)), none⟩,
          ⟨(some 6), (.mv (.tmp 18)), none⟩])
         (.seq
          (.region false [⟨(some 19), (.faddr S5 (.tmp 2) 2), none⟩,
           ⟨(some 20), (.load L64 (.tmp 19)), none⟩,
           ⟨(some 21), (.mv (.tmp 6)), none⟩,
           ⟨(some 22), (.conv .u64 (.tmp 21)), none⟩,
           ⟨(some 23), (.bin .add (.tmp 20) (.tmp 22)), none⟩,
           ⟨(some 24), (.faddr S5 (.tmp 2) 2), none⟩,
           ⟨none, (.store L64 (.tmp 24) (.tmp 23)), none⟩])
          (.seq
           (.region false [⟨(some 25), (.mv (.tmp 1)), none⟩,
            ⟨(some 26), (.mv (.tmp 6)), none⟩,
            ⟨(some 27), (.slice L8 (.tmp 25) (some (.tmp 26)) none none), none⟩,
            ⟨(some 1), (.mv (.tmp 27)), none⟩])
           (.seq
            (.region false [⟨(some 28), (.mv (.tmp 5)), none⟩,
             ⟨(some 29), (.mv (.tmp 6)), none⟩,
             ⟨(some 30), (.bin .add (.tmp 28) (.tmp 29)), none⟩,
             ⟨(some 31), (.bin .eql (.tmp 30) (.const (it 64))), none⟩])
            (.cond (.tmp 31)
             (.region false [⟨(some 32), (.faddr S5 (.tmp 2) 0), none⟩,
              ⟨(some 33), (.load (.ar 8 L32) (.tmp 32)), none⟩,
              ⟨(some 34), (.faddr S5 (.tmp 2) 1), none⟩,
              ⟨(some 35), (.load (.ar 64 L8) (.tmp 34)), none⟩,
              ⟨(some 36), (.call 39 [(.tmp 33), (.tmp 35)]), none⟩,
              ⟨(some 37), (.build (.ar 64 L8) (List.replicate 64 (.raw (u8 0#8))) []), none⟩,
              ⟨(some 38), (.faddr S5 (.tmp 2) 0), none⟩,
              ⟨none, (.store (.ar 8 L32) (.tmp 38) (.tmp 36)), none⟩,
              ⟨(some 39), (.faddr S5 (.tmp 2) 1), none⟩,
              ⟨none, (.store (.ar 64 L8) (.tmp 39) (.tmp 37)), none⟩])
             .skip))))))))))
   (.seq
    (.region false [⟨(some 40), (.load S5 (.tmp 2)), none⟩,
     ⟨none, (.store S5 (.tmp 4) (.tmp 40)), none⟩])
    .ret)))
def r_sha_State_Feed : List ARes := [(.cell 4 S5)]
theorem c_sha_State_Feed : o2 Go.Proofs.Tryd.f29.body (comp Go.Proofs.Tryd.prog Go.Proofs.Tryd.f29.ntmps) = some a_sha_State_Feed := by kernel_rfl
theorem s_sha_State_Feed : cRess Go.Proofs.Tryd.prog Go.Proofs.Tryd.f29.results.toList = some r_sha_State_Feed := by kernel_rfl
theorem m_sha_State_Feed (C : Ctx) (hC : CtxOK C Go.Proofs.Tryd.prog) : Meets C.glob Go.Proofs.Tryd.prog 29 (afun C 2 r_sha_State_Feed a_sha_State_Feed) :=
  fn_sound hC Go.Proofs.Tryd.func29 c_sha_State_Feed s_sha_State_Feed (Nat.le_of_ble_eq_true (by kernel_rfl))

/-- bytes.Join -/
def a_bytes_Join : ACode :=
 (.seq
  (.region false [⟨(some 4), (.mv (.const (.slice none 0 0))), none⟩])
  (.seq
   (.seq
    (.region false [⟨(some 12), (.mv (.tmp 0)), none⟩,
     ⟨(some 13), (.len (.tmp 12)), none⟩,
     ⟨(some 14), (.bin .eql (.tmp 13) (.const (it 0))), none⟩])
    (.cond (.tmp 14)
     (.seq
      (.region false [⟨(some 15), (.bslice L8 0 (.raw (u8 0#8)) []), none⟩,
       ⟨(some 4), (.mv (.tmp 15)), none⟩])
      .ret)
     .skip))
   (.seq
    (.seq
     (.region false [⟨(some 16), (.mv (.tmp 0)), none⟩,
      ⟨(some 17), (.len (.tmp 16)), none⟩,
      ⟨(some 18), (.bin .eql (.tmp 17) (.const (it 1))), none⟩])
     (.cond (.tmp 18)
      (.seq
       (.region false [⟨(some 19), (.mv (.tmp 0)), none⟩,
        ⟨(some 20), (.iaddrs .ref (.tmp 19) (.const (it 0))), none⟩,
        ⟨(some 21), (.load .ref (.tmp 20)), none⟩,
        ⟨(some 22), (.append L8 1 (.const (.slice none 0 0)) (.tmp 21)), none⟩,
        ⟨(some 4), (.mv (.tmp 22)), none⟩])
       .ret)
      .skip))
    (.seq
     (.region false [⟨(some 5), (.mv (.const (it 0))), none⟩])
     (.seq
      (.seq
       (.region false [⟨(some 23), (.mv (.tmp 1)), none⟩,
        ⟨(some 24), (.len (.tmp 23)), none⟩,
        ⟨(some 25), (.bin .gtr (.tmp 24) (.const (it 0))), none⟩])
       (.cond (.tmp 25)
        (.seq
         (.seq
          (.region false [⟨(some 26), (.mv (.tmp 1)), none⟩,
           ⟨(some 27), (.len (.tmp 26)), none⟩,
           ⟨(some 28), (.mv (.tmp 0)), none⟩,
           ⟨(some 29), (.len (.tmp 28)), none⟩,
           ⟨(some 30), (.bin .sub (.tmp 29) (.const (it 1))), none⟩,
           ⟨(some 31), (.bin .quo (.const (it 9223372036854775807)) (.tmp 30)), none⟩,
           ⟨(some 32), (.bin .geq (.tmp 27) (.tmp 31)), none⟩])
          (.cond (.tmp 32)
           (.region false [⟨(some 33), .fail, none⟩,
            ⟨none, .fail, none⟩])
           .skip))
         (.region false [⟨(some 34), (.mv (.tmp 5)), none⟩,
          ⟨(some 35), (.mv (.tmp 1)), none⟩,
          ⟨(some 36), (.len (.tmp 35)), none⟩,
          ⟨(some 37), (.mv (.tmp 0)), none⟩,
          ⟨(some 38), (.len (.tmp 37)), none⟩,
          ⟨(some 39), (.bin .sub (.tmp 38) (.const (it 1))), none⟩,
          ⟨(some 40), (.bin .mul (.tmp 36) (.tmp 39)), none⟩,
          ⟨(some 41), (.bin .add (.tmp 34) (.tmp 40)), none⟩,
          ⟨(some 5), (.mv (.tmp 41)), none⟩]))
        .skip))
      (.seq
       (.seq
        (.region false [⟨(some 42), (.mv (.tmp 0)), none⟩,
         ⟨(some 43), (.len (.tmp 42)), none⟩,
         ⟨(some 44), (.mv (.const (it 0))), none⟩])
        (.block 0
         (.loop
          (.seq
           (.region false [⟨(some 45), (.bin .lss (.tmp 44) (.tmp 43)), none⟩])
           (.seq
            (.cond (.tmp 45)
             .skip
             (.exit 0))
            (.seq
             (.block 1
              (.seq
               (.region false [⟨(some 46), (.iaddrs .ref (.tmp 42) (.tmp 44)), none⟩,
                ⟨(some 47), (.load .ref (.tmp 46)), none⟩,
                ⟨(some 7), (.mv (.tmp 47)), none⟩])
               (.seq
                (.seq
                 (.region false [⟨(some 48), (.mv (.tmp 7)), none⟩,
                  ⟨(some 49), (.len (.tmp 48)), none⟩,
                  ⟨(some 50), (.mv (.tmp 5)), none⟩,
                  ⟨(some 51), (.bin .sub (.const (it 9223372036854775807)) (.tmp 50)), none⟩,
                  ⟨(some 52), (.bin .gtr (.tmp 49) (.tmp 51)), none⟩])
                 (.cond (.tmp 52)
                  (.region false [⟨(some 53), .fail, none⟩,
                   ⟨none, .fail, none⟩])
                  .skip))
                (.region false [⟨(some 54), (.mv (.tmp 5)), none⟩,
                 ⟨(some 55), (.mv (.tmp 7)), none⟩,
                 ⟨(some 56), (.len (.tmp 55)), none⟩,
                 ⟨(some 57), (.bin .add (.tmp 54) (.tmp 56)), none⟩,
                 ⟨(some 5), (.mv (.tmp 57)), none⟩]))))
             (.region false [⟨(some 58), (.bin .add (.tmp 44) (.const (it 1))), none⟩,
              ⟨(some 44), (.mv (.tmp 58)), none⟩])))))))
       (.seq
        (.region false [⟨(some 59), (.mv (.tmp 5)), none⟩,
         ⟨(some 60), (.mnz (.tmp 59)), none⟩,
         ⟨(some 61), (.mv (.tmp 5)), none⟩,
         ⟨(some 62), (.mv (.tmp 5)), none⟩,
         ⟨(some 63), (.slice L8 (.tmp 60) none (some (.tmp 61)) (some (.tmp 62))), none⟩,
         ⟨(some 8), (.mv (.tmp 63)), none⟩])
        (.seq
         (.region false [⟨(some 64), (.mv (.tmp 8)), none⟩,
          ⟨(some 65), (.mv (.tmp 0)), none⟩,
          ⟨(some 66), (.iaddrs .ref (.tmp 65) (.const (it 0))), none⟩,
          ⟨(some 67), (.load .ref (.tmp 66)), none⟩,
          ⟨(some 68), (.copy L8 (.tmp 64) (.tmp 67)), none⟩,
          ⟨(some 9), (.mv (.tmp 68)), none⟩])
         (.seq
          (.seq
           (.region false [⟨(some 69), (.mv (.tmp 0)), none⟩,
            ⟨(some 70), (.slice .ref (.tmp 69) (some (.const (it 1))) none none), none⟩,
            ⟨(some 71), (.len (.tmp 70)), none⟩,
            ⟨(some 72), (.mv (.const (it 0))), none⟩])
           (.block 2
            (.loop
             (.seq
              (.region false [⟨(some 73), (.bin .lss (.tmp 72) (.tmp 71)), none⟩])
              (.seq
               (.cond (.tmp 73)
                .skip
                (.exit 2))
               (.seq
                (.block 3
                 (.seq
                  (.region false [⟨(some 74), (.iaddrs .ref (.tmp 70) (.tmp 72)), none⟩,
                   ⟨(some 75), (.load .ref (.tmp 74)), none⟩,
                   ⟨(some 11), (.mv (.tmp 75)), none⟩])
                  (.seq
                   (.region false [⟨(some 76), (.mv (.tmp 9)), none⟩,
                    ⟨(some 77), (.mv (.tmp 8)), none⟩,
                    ⟨(some 78), (.mv (.tmp 9)), none⟩,
                    ⟨(some 79), (.slice L8 (.tmp 77) (some (.tmp 78)) none none), none⟩,
                    ⟨(some 80), (.mv (.tmp 1)), none⟩,
                    ⟨(some 81), (.copy L8 (.tmp 79) (.tmp 80)), none⟩,
                    ⟨(some 82), (.bin .add (.tmp 76) (.tmp 81)), none⟩,
                    ⟨(some 9), (.mv (.tmp 82)), none⟩])
                   (.region false [⟨(some 83), (.mv (.tmp 9)), none⟩,
                    ⟨(some 84), (.mv (.tmp 8)), none⟩,
                    ⟨(some 85), (.mv (.tmp 9)), none⟩,
                    ⟨(some 86), (.slice L8 (.tmp 84) (some (.tmp 85)) none none), none⟩,
                    ⟨(some 87), (.mv (.tmp 11)), none⟩,
                    ⟨(some 88), (.copy L8 (.tmp 86) (.tmp 87)), none⟩,
                    ⟨(some 89), (.bin .add (.tmp 83) (.tmp 88)), none⟩,
                    ⟨(some 9), (.mv (.tmp 89)), none⟩]))))
                (.region false [⟨(some 90), (.bin .add (.tmp 72) (.const (it 1))), none⟩,
                 ⟨(some 72), (.mv (.tmp 90)), none⟩])))))))
          (.seq
           (.region false [⟨(some 91), (.mv (.tmp 8)), none⟩,
            ⟨(some 4), (.mv (.tmp 91)), none⟩])
           .ret))))))))))
def r_bytes_Join : List ARes := [(.tmp 4)]
theorem c_bytes_Join : o2 Go.Proofs.Tryd.f30.body (comp Go.Proofs.Tryd.prog Go.Proofs.Tryd.f30.ntmps) = some a_bytes_Join := by kernel_rfl
theorem s_bytes_Join : cRess Go.Proofs.Tryd.prog Go.Proofs.Tryd.f30.results.toList = some r_bytes_Join := by kernel_rfl
theorem m_bytes_Join (C : Ctx) (hC : CtxOK C Go.Proofs.Tryd.prog) : Meets C.glob Go.Proofs.Tryd.prog 30 (afun C 2 r_bytes_Join a_bytes_Join) :=
  fn_sound hC Go.Proofs.Tryd.func30 c_bytes_Join s_bytes_Join (Nat.le_of_ble_eq_true (by kernel_rfl))

/-- (curtilage/sha.State).Sum -/
def a_sha_State_Sum : ACode :=
 (.seq
  (.region false [⟨(some 1), (.box S5 (.tmp 0)), none⟩,
   ⟨(some 2), (.alloc (.ar 32 L8) (.agg (.ar 32 L8) (List.replicate 32 (.raw (u8 0#8))))), none⟩])
  (.seq
   (.draw1 [⟨(some 3), (.load S5 (.tmp 1)), none⟩,
    ⟨(some 4), (.faddr S5 (.tmp 1) 2), none⟩,
    ⟨(some 5), (.load L64 (.tmp 4)), none⟩,
    ⟨(some 6), (.call 42 [(.tmp 5)]), none⟩]
    [⟨(some 7), (.call 29 [(.tmp 3), (.tmp 6)]), none⟩,
    ⟨(some 8), (.field S5 (.tmp 7) 0), none⟩,
    ⟨(some 9), (.call 41 [(.tmp 8)]), none⟩,
    ⟨none, (.store (.ar 32 L8) (.tmp 2) (.tmp 9)), none⟩])
   .ret))
def r_sha_State_Sum : List ARes := [(.cell 2 (.ar 32 L8))]
theorem c_sha_State_Sum : o2 Go.Proofs.Tryd.f31.body (comp Go.Proofs.Tryd.prog Go.Proofs.Tryd.f31.ntmps) = some a_sha_State_Sum := by kernel_rfl
theorem s_sha_State_Sum : cRess Go.Proofs.Tryd.prog Go.Proofs.Tryd.f31.results.toList = some r_sha_State_Sum := by kernel_rfl
theorem m_sha_State_Sum (C : Ctx) (hC : CtxOK C Go.Proofs.Tryd.prog) : Meets C.glob Go.Proofs.Tryd.prog 31 (afun C 1 r_sha_State_Sum a_sha_State_Sum) :=
  fn_sound hC Go.Proofs.Tryd.func31 c_sha_State_Sum s_sha_State_Sum (Nat.le_of_ble_eq_true (by kernel_rfl))

/-- curtilage/slot.within[curtilage/slot.place] -/
def a_slot_within_slot_place : ACode :=
 (.seq
  (.region false [⟨(some 4), (.mv (.const (.bool false))), none⟩])
  (.seq
   (.region false [⟨(some 5), (.mv (.tmp 1)), none⟩,
    ⟨(some 6), (.bin .geq (.tmp 5) (.const (it 0))), none⟩,
    ⟨(some 7), (.mv (.tmp 6)), none⟩,
    ⟨(some 8), (.mv (.tmp 1)), some (7, true)⟩,
    ⟨(some 9), (.mv (.tmp 0)), some (7, true)⟩,
    ⟨(some 10), (.len (.tmp 9)), some (7, true)⟩,
    ⟨(some 11), (.bin .lss (.tmp 8) (.tmp 10)), some (7, true)⟩,
    ⟨(some 12), (.pick (.tmp 7) (.tmp 11) (.const (.bool false))), none⟩,
    ⟨(some 4), (.mv (.tmp 12)), none⟩])
   .ret))
def r_slot_within_slot_place : List ARes := [(.tmp 4)]
theorem c_slot_within_slot_place : o2 Go.Proofs.Tryd.f32.body (comp Go.Proofs.Tryd.prog Go.Proofs.Tryd.f32.ntmps) = some a_slot_within_slot_place := by kernel_rfl
theorem s_slot_within_slot_place : cRess Go.Proofs.Tryd.prog Go.Proofs.Tryd.f32.results.toList = some r_slot_within_slot_place := by kernel_rfl
theorem m_slot_within_slot_place (C : Ctx) (hC : CtxOK C Go.Proofs.Tryd.prog) : Meets C.glob Go.Proofs.Tryd.prog 32 (afun C 2 r_slot_within_slot_place a_slot_within_slot_place) :=
  fn_sound hC Go.Proofs.Tryd.func32 c_slot_within_slot_place s_slot_within_slot_place (Nat.le_of_ble_eq_true (by kernel_rfl))

/-- (*curtilage/slot.Slots).key -/
def a_slot_Slots_key : ACode :=
 (.seq
  (.region false [⟨(some 4), (.mv (.const (.slice none 0 0))), none⟩,
   ⟨(some 5), (.mv (.const (it 0))), none⟩])
  (.seq
   (.seq
    (.region false [⟨(some 7), (.mv (.tmp 0)), none⟩,
     ⟨(some 8), (.mv (.tmp 1)), none⟩,
     ⟨(some 9), (.bslice LI 1 (.raw (it 0)) [(0, (.tmp 8))]), none⟩,
     ⟨(some 10), (.call 22 [(.tmp 7), (.tmp 9)]), none⟩,
     ⟨(some 6), (.mv (.tmp 10)), none⟩])
    (.seq
     (.region false [⟨(some 11), (.mv (.tmp 6)), none⟩,
      ⟨(some 12), (.bin .neq (.tmp 11) (.const (it 0))), none⟩])
     (.cond (.tmp 12)
      (.seq
       (.region false [⟨(some 13), (.mv (.tmp 6)), none⟩,
        ⟨(some 4), (.mv (.const (.slice none 0 0))), none⟩,
        ⟨(some 5), (.mv (.tmp 13)), none⟩])
       .ret)
      .skip)))
   (.seq
    (.seq
     (.region false [⟨(some 14), (.mv (.tmp 0)), none⟩,
      ⟨(some 15), (.mv (.tmp 1)), none⟩,
      ⟨(some 16), (.nilc (.tmp 14)), none⟩,
      ⟨(some 17), (.faddr S4 (.tmp 16) 0), none⟩,
      ⟨(some 18), (.iaddra 8 S3 (.tmp 17) (.tmp 15)), none⟩,
      ⟨(some 19), (.faddr S3 (.tmp 18) 0), none⟩,
      ⟨(some 20), (.load LI (.tmp 19)), none⟩,
      ⟨(some 21), (.bin .eql (.tmp 20) (.const (it 0))), none⟩])
     (.cond (.tmp 21)
      (.seq
       (.region false [⟨(some 4), (.mv (.const (.slice none 0 0))), none⟩,
        ⟨(some 5), (.mv (.const (it 3))), none⟩])
       .ret)
      .skip))
    (.seq
     (.region false [⟨(some 22), (.mv (.tmp 0)), none⟩,
      ⟨(some 23), (.mv (.tmp 1)), none⟩,
      ⟨(some 24), (.nilc (.tmp 22)), none⟩,
      ⟨(some 25), (.faddr S4 (.tmp 24) 0), none⟩,
      ⟨(some 26), (.iaddra 8 S3 (.tmp 25) (.tmp 23)), none⟩,
      ⟨(some 27), (.faddr S3 (.tmp 26) 1), none⟩,
      ⟨(some 28), (.slicea 32 L8 (.tmp 27) none none none), none⟩,
      ⟨(some 4), (.mv (.tmp 28)), none⟩,
      ⟨(some 5), (.mv (.const (it 0))), none⟩])
     .ret))))
def r_slot_Slots_key : List ARes := [(.tmp 4), (.tmp 5)]
theorem c_slot_Slots_key : o2 Go.Proofs.Tryd.f33.body (comp Go.Proofs.Tryd.prog Go.Proofs.Tryd.f33.ntmps) = some a_slot_Slots_key := by kernel_rfl
theorem s_slot_Slots_key : cRess Go.Proofs.Tryd.prog Go.Proofs.Tryd.f33.results.toList = some r_slot_Slots_key := by kernel_rfl
theorem m_slot_Slots_key (C : Ctx) (hC : CtxOK C Go.Proofs.Tryd.prog) : Meets C.glob Go.Proofs.Tryd.prog 33 (afun C 2 r_slot_Slots_key a_slot_Slots_key) :=
  fn_sound hC Go.Proofs.Tryd.func33 c_slot_Slots_key s_slot_Slots_key (Nat.le_of_ble_eq_true (by kernel_rfl))

/-- curtilage/meas.text -/
def a_meas_text : ACode :=
 (.seq
  (.region false [⟨(some 1), (.box (.ar 4 (.ar 32 L8)) (.tmp 0)), none⟩,
   ⟨(some 2), (.mv (.const (.slice none 0 0))), none⟩])
  (.seq
   (.region false [⟨(some 3), (.mv (.const (.slice none 0 0))), none⟩])
   (.seq
    (.seq
     (.region false [⟨(some 6), (.load (.ar 4 (.ar 32 L8)) (.tmp 1)), none⟩,
      ⟨(some 7), (.mv (.const (it 0))), none⟩])
     (.block 0
      (.loop
       (.seq
        (.region false [⟨(some 8), (.bin .lss (.tmp 7) (.const (it 4))), none⟩])
        (.seq
         (.cond (.tmp 8)
          .skip
          (.exit 0))
         (.seq
          (.block 1
           (.seq
            (.region false [⟨(some 9), (.index 4 (.ar 32 L8) (.tmp 6) (.tmp 7)), none⟩,
             ⟨(some 5), (.alloc (.ar 32 L8) (.agg (.ar 32 L8) (List.replicate 32 (.raw (u8 0#8))))), none⟩,
             ⟨none, (.store (.ar 32 L8) (.tmp 5) (.tmp 9)), none⟩])
            (.region false [⟨(some 10), (.mv (.tmp 3)), none⟩,
             ⟨(some 11), (.slicea 32 L8 (.tmp 5) none none none), none⟩,
             ⟨(some 12), (.append L8 1 (.tmp 10) (.tmp 11)), none⟩,
             ⟨(some 3), (.mv (.tmp 12)), none⟩])))
          (.region false [⟨(some 13), (.bin .add (.tmp 7) (.const (it 1))), none⟩,
           ⟨(some 7), (.mv (.tmp 13)), none⟩])))))))
    (.seq
     (.region false [⟨(some 14), (.mv (.tmp 3)), none⟩,
      ⟨(some 2), (.mv (.tmp 14)), none⟩])
     .ret))))
def r_meas_text : List ARes := [(.tmp 2)]
theorem c_meas_text : o2 Go.Proofs.Tryd.f34.body (comp Go.Proofs.Tryd.prog Go.Proofs.Tryd.f34.ntmps) = some a_meas_text := by kernel_rfl
theorem s_meas_text : cRess Go.Proofs.Tryd.prog Go.Proofs.Tryd.f34.results.toList = some r_meas_text := by kernel_rfl
theorem m_meas_text (C : Ctx) (hC : CtxOK C Go.Proofs.Tryd.prog) : Meets C.glob Go.Proofs.Tryd.prog 34 (afun C 1 r_meas_text a_meas_text) :=
  fn_sound hC Go.Proofs.Tryd.func34 c_meas_text s_meas_text (Nat.le_of_ble_eq_true (by kernel_rfl))

/-- curtilage/curtilageref01.Press -/
def a_ref01_Press : ACode :=
 (.seq
  (.region false [⟨(some 2), (.box (.ar 8 L32) (.tmp 0)), none⟩,
   ⟨(some 4), (.alloc (.ar 8 L32) (.agg (.ar 8 L32) (List.replicate 8 (.raw (u32 0#32))))), none⟩])
  (.seq
   (.region false [⟨(some 21), (.mks L32 4 (.raw (u32 0#32)) (.const (it 64)) (.const (it 64))), none⟩,
    ⟨(some 5), (.mv (.tmp 21)), none⟩])
   (.seq
    (.seq
     (.region false [⟨(some 22), (.mv (.tmp 5)), none⟩,
      ⟨(some 23), (.len (.tmp 22)), none⟩,
      ⟨(some 24), (.mv (.const (it 0))), none⟩])
     (.block 0
      (.loop
       (.seq
        (.region false [⟨(some 25), (.bin .lss (.tmp 24) (.tmp 23)), none⟩])
        (.seq
         (.cond (.tmp 25)
          .skip
          (.exit 0))
         (.seq
          (.block 1
           (.seq
            (.region false [⟨(some 26), (.mv (.tmp 24)), none⟩,
             ⟨(some 6), (.mv (.tmp 26)), none⟩])
            (.seq
             (.seq
              (.region false [⟨(some 27), (.mv (.tmp 6)), none⟩,
               ⟨(some 28), (.bin .lss (.tmp 27) (.const (it 16))), none⟩])
              (.cond (.tmp 28)
               (.seq
                (.region false [⟨(some 29), (.mv (.tmp 5)), none⟩,
                 ⟨(some 30), (.mv (.tmp 6)), none⟩,
                 ⟨(some 31), (.mv (.tmp 1)), none⟩,
                 ⟨(some 32), (.mv (.tmp 6)), none⟩,
                 ⟨(some 33), (.bin .mul (.const (it 4)) (.tmp 32)), none⟩,
                 ⟨(some 34), (.mv (.tmp 6)), none⟩,
                 ⟨(some 35), (.bin .mul (.const (it 4)) (.tmp 34)), none⟩,
                 ⟨(some 36), (.bin .add (.tmp 35) (.const (it 4))), none⟩,
                 ⟨(some 37), (.slice L8 (.tmp 31) (some (.tmp 33)) (some (.tmp 36)) none), none⟩,
                 ⟨(some 38), (.call 43 [(.tmp 37)]), none⟩,
                 ⟨(some 39), (.conv .u32 (.tmp 38)), none⟩,
                 ⟨(some 40), (.iaddrs L32 (.tmp 29) (.tmp 30)), none⟩,
                 ⟨none, (.store L32 (.tmp 40) (.tmp 39)), none⟩])
                (.exit 1))
               .skip))
             (.region true [⟨(some 41), (.mv (.tmp 5)), none⟩,
              ⟨(some 42), (.mv (.tmp 6)), none⟩,
              ⟨(some 43), (.mv (.tmp 5)), none⟩,
              ⟨(some 44), (.mv (.tmp 6)), none⟩,
              ⟨(some 45), (.bin .sub (.tmp 44) (.const (it 16))), none⟩,
              ⟨(some 46), (.iaddrs L32 (.tmp 43) (.tmp 45)), none⟩,
              ⟨(some 47), (.load L32 (.tmp 46)), none⟩,
              ⟨(some 48), (.mv (.tmp 5)), none⟩,
              ⟨(some 49), (.mv (.tmp 6)), none⟩,
              ⟨(some 50), (.bin .sub (.tmp 49) (.const (it 15))), none⟩,
              ⟨(some 51), (.iaddrs L32 (.tmp 48) (.tmp 50)), none⟩,
              ⟨(some 52), (.load L32 (.tmp 51)), none⟩,
              ⟨(some 53), (.call 44 [(.tmp 52), (.const (it 7))]), none⟩,
              ⟨(some 54), (.mv (.tmp 5)), none⟩,
              ⟨(some 55), (.mv (.tmp 6)), none⟩,
              ⟨(some 56), (.bin .sub (.tmp 55) (.const (it 15))), none⟩,
              ⟨(some 57), (.iaddrs L32 (.tmp 54) (.tmp 56)), none⟩,
              ⟨(some 58), (.load L32 (.tmp 57)), none⟩,
              ⟨(some 59), (.call 44 [(.tmp 58), (.const (it 18))]), none⟩,
              ⟨(some 60), (.bin .xor (.tmp 53) (.tmp 59)), none⟩,
              ⟨(some 61), (.mv (.tmp 5)), none⟩,
              ⟨(some 62), (.mv (.tmp 6)), none⟩,
              ⟨(some 63), (.bin .sub (.tmp 62) (.const (it 15))), none⟩,
              ⟨(some 64), (.iaddrs L32 (.tmp 61) (.tmp 63)), none⟩,
              ⟨(some 65), (.load L32 (.tmp 64)), none⟩,
              ⟨(some 66), (.bin .shr (.tmp 65) (.const (u64 3#64))), none⟩,
              ⟨(some 67), (.bin .xor (.tmp 60) (.tmp 66)), none⟩,
              ⟨(some 68), (.bin .add (.tmp 47) (.tmp 67)), none⟩,
              ⟨(some 69), (.mv (.tmp 5)), none⟩,
              ⟨(some 70), (.mv (.tmp 6)), none⟩,
              ⟨(some 71), (.bin .sub (.tmp 70) (.const (it 7))), none⟩,
              ⟨(some 72), (.iaddrs L32 (.tmp 69) (.tmp 71)), none⟩,
              ⟨(some 73), (.load L32 (.tmp 72)), none⟩,
              ⟨(some 74), (.bin .add (.tmp 68) (.tmp 73)), none⟩,
              ⟨(some 75), (.mv (.tmp 5)), none⟩,
              ⟨(some 76), (.mv (.tmp 6)), none⟩,
              ⟨(some 77), (.bin .sub (.tmp 76) (.const (it 2))), none⟩,
              ⟨(some 78), (.iaddrs L32 (.tmp 75) (.tmp 77)), none⟩,
              ⟨(some 79), (.load L32 (.tmp 78)), none⟩,
              ⟨(some 80), (.call 44 [(.tmp 79), (.const (it 17))]), none⟩,
              ⟨(some 81), (.mv (.tmp 5)), none⟩,
              ⟨(some 82), (.mv (.tmp 6)), none⟩,
              ⟨(some 83), (.bin .sub (.tmp 82) (.const (it 2))), none⟩,
              ⟨(some 84), (.iaddrs L32 (.tmp 81) (.tmp 83)), none⟩,
              ⟨(some 85), (.load L32 (.tmp 84)), none⟩,
              ⟨(some 86), (.call 44 [(.tmp 85), (.const (it 19))]), none⟩,
              ⟨(some 87), (.bin .xor (.tmp 80) (.tmp 86)), none⟩,
              ⟨(some 88), (.mv (.tmp 5)), none⟩,
              ⟨(some 89), (.mv (.tmp 6)), none⟩,
              ⟨(some 90), (.bin .sub (.tmp 89) (.const (it 2))), none⟩,
              ⟨(some 91), (.iaddrs L32 (.tmp 88) (.tmp 90)), none⟩,
              ⟨(some 92), (.load L32 (.tmp 91)), none⟩,
              ⟨(some 93), (.bin .shr (.tmp 92) (.const (u64 10#64))), none⟩,
              ⟨(some 94), (.bin .xor (.tmp 87) (.tmp 93)), none⟩,
              ⟨(some 95), (.bin .add (.tmp 74) (.tmp 94)), none⟩,
              ⟨(some 96), (.iaddrs L32 (.tmp 41) (.tmp 42)), none⟩,
              ⟨none, (.store L32 (.tmp 96) (.tmp 95)), none⟩]))))
          (.region false [⟨(some 97), (.bin .add (.tmp 24) (.const (it 1))), none⟩,
           ⟨(some 24), (.mv (.tmp 97)), none⟩])))))))
    (.seq
     (.region true [⟨(some 98), (.iaddra 8 L32 (.tmp 2) (.const (it 0))), none⟩,
      ⟨(some 99), (.load L32 (.tmp 98)), none⟩,
      ⟨(some 100), (.iaddra 8 L32 (.tmp 2) (.const (it 1))), none⟩,
      ⟨(some 101), (.load L32 (.tmp 100)), none⟩,
      ⟨(some 102), (.iaddra 8 L32 (.tmp 2) (.const (it 2))), none⟩,
      ⟨(some 103), (.load L32 (.tmp 102)), none⟩,
      ⟨(some 104), (.iaddra 8 L32 (.tmp 2) (.const (it 3))), none⟩,
      ⟨(some 105), (.load L32 (.tmp 104)), none⟩,
      ⟨(some 106), (.iaddra 8 L32 (.tmp 2) (.const (it 4))), none⟩,
      ⟨(some 107), (.load L32 (.tmp 106)), none⟩,
      ⟨(some 108), (.iaddra 8 L32 (.tmp 2) (.const (it 5))), none⟩,
      ⟨(some 109), (.load L32 (.tmp 108)), none⟩,
      ⟨(some 110), (.iaddra 8 L32 (.tmp 2) (.const (it 6))), none⟩,
      ⟨(some 111), (.load L32 (.tmp 110)), none⟩,
      ⟨(some 112), (.iaddra 8 L32 (.tmp 2) (.const (it 7))), none⟩,
      ⟨(some 113), (.load L32 (.tmp 112)), none⟩,
      ⟨(some 7), (.mv (.tmp 99)), none⟩,
      ⟨(some 8), (.mv (.tmp 101)), none⟩,
      ⟨(some 9), (.mv (.tmp 103)), none⟩,
      ⟨(some 10), (.mv (.tmp 105)), none⟩,
      ⟨(some 11), (.mv (.tmp 107)), none⟩,
      ⟨(some 12), (.mv (.tmp 109)), none⟩,
      ⟨(some 13), (.mv (.tmp 111)), none⟩,
      ⟨(some 14), (.mv (.tmp 113)), none⟩])
     (.seq
      (.region false [⟨(some 114), (.call 45 []), none⟩,
       ⟨(some 15), (.alloc (.ar 64 L32) (.agg (.ar 64 L32) (List.replicate 64 (.raw (u32 0#32))))), none⟩,
       ⟨none, (.store (.ar 64 L32) (.tmp 15) (.tmp 114)), none⟩])
      (.seq
       (.seq
        (.region false [⟨(some 115), (.mv (.tmp 5)), none⟩,
         ⟨(some 116), (.len (.tmp 115)), none⟩,
         ⟨(some 117), (.mv (.const (it 0))), none⟩])
        (.block 2
         (.loop
          (.seq
           (.region false [⟨(some 118), (.bin .lss (.tmp 117) (.tmp 116)), none⟩])
           (.seq
            (.cond (.tmp 118)
             .skip
             (.exit 2))
            (.seq
             (.block 3
              (.seq
               (.region false [⟨(some 119), (.mv (.tmp 117)), none⟩,
                ⟨(some 16), (.mv (.tmp 119)), none⟩])
               (.seq
                (.region true [⟨(some 120), (.mv (.tmp 14)), none⟩,
                 ⟨(some 121), (.mv (.tmp 11)), none⟩,
                 ⟨(some 122), (.call 44 [(.tmp 121), (.const (it 6))]), none⟩,
                 ⟨(some 123), (.mv (.tmp 11)), none⟩,
                 ⟨(some 124), (.call 44 [(.tmp 123), (.const (it 11))]), none⟩,
                 ⟨(some 125), (.bin .xor (.tmp 122) (.tmp 124)), none⟩,
                 ⟨(some 126), (.mv (.tmp 11)), none⟩,
                 ⟨(some 127), (.call 44 [(.tmp 126), (.const (it 25))]), none⟩,
                 ⟨(some 128), (.bin .xor (.tmp 125) (.tmp 127)), none⟩,
                 ⟨(some 129), (.bin .add (.tmp 120) (.tmp 128)), none⟩,
                 ⟨(some 130), (.mv (.tmp 11)), none⟩,
                 ⟨(some 131), (.mv (.tmp 12)), none⟩,
                 ⟨(some 132), (.bin .and (.tmp 130) (.tmp 131)), none⟩,
                 ⟨(some 133), (.mv (.tmp 11)), none⟩,
                 ⟨(some 134), (.bin .sub (.const (u32 4294967295#32)) (.tmp 133)), none⟩,
                 ⟨(some 135), (.mv (.tmp 13)), none⟩,
                 ⟨(some 136), (.bin .and (.tmp 134) (.tmp 135)), none⟩,
                 ⟨(some 137), (.bin .xor (.tmp 132) (.tmp 136)), none⟩,
                 ⟨(some 138), (.bin .add (.tmp 129) (.tmp 137)), none⟩,
                 ⟨(some 139), (.mv (.tmp 16)), none⟩,
                 ⟨(some 140), (.iaddra 64 L32 (.tmp 15) (.tmp 139)), none⟩,
                 ⟨(some 141), (.load L32 (.tmp 140)), none⟩,
                 ⟨(some 142), (.bin .add (.tmp 138) (.tmp 141)), none⟩,
                 ⟨(some 143), (.mv (.tmp 5)), none⟩,
                 ⟨(some 144), (.mv (.tmp 16)), none⟩,
                 ⟨(some 145), (.iaddrs L32 (.tmp 143) (.tmp 144)), none⟩,
                 ⟨(some 146), (.load L32 (.tmp 145)), none⟩,
                 ⟨(some 147), (.bin .add (.tmp 142) (.tmp 146)), none⟩,
                 ⟨(some 17), (.mv (.tmp 147)), none⟩])
                (.seq
                 (.region false [⟨(some 148), (.mv (.tmp 7)), none⟩,
                  ⟨(some 149), (.call 44 [(.tmp 148), (.const (it 2))]), none⟩,
                  ⟨(some 150), (.mv (.tmp 7)), none⟩,
                  ⟨(some 151), (.call 44 [(.tmp 150), (.const (it 13))]), none⟩,
                  ⟨(some 152), (.bin .xor (.tmp 149) (.tmp 151)), none⟩,
                  ⟨(some 153), (.mv (.tmp 7)), none⟩,
                  ⟨(some 154), (.call 44 [(.tmp 153), (.const (it 22))]), none⟩,
                  ⟨(some 155), (.bin .xor (.tmp 152) (.tmp 154)), none⟩,
                  ⟨(some 156), (.mv (.tmp 7)), none⟩,
                  ⟨(some 157), (.mv (.tmp 8)), none⟩,
                  ⟨(some 158), (.bin .and (.tmp 156) (.tmp 157)), none⟩,
                  ⟨(some 159), (.mv (.tmp 7)), none⟩,
                  ⟨(some 160), (.mv (.tmp 9)), none⟩,
                  ⟨(some 161), (.bin .and (.tmp 159) (.tmp 160)), none⟩,
                  ⟨(some 162), (.bin .xor (.tmp 158) (.tmp 161)), none⟩,
                  ⟨(some 163), (.mv (.tmp 8)), none⟩,
                  ⟨(some 164), (.mv (.tmp 9)), none⟩,
                  ⟨(some 165), (.bin .and (.tmp 163) (.tmp 164)), none⟩,
                  ⟨(some 166), (.bin .xor (.tmp 162) (.tmp 165)), none⟩,
                  ⟨(some 167), (.bin .add (.tmp 155) (.tmp 166)), none⟩,
                  ⟨(some 18), (.mv (.tmp 167)), none⟩])
                 (.region false [⟨(some 168), (.mv (.tmp 13)), none⟩,
                  ⟨(some 169), (.mv (.tmp 12)), none⟩,
                  ⟨(some 170), (.mv (.tmp 11)), none⟩,
                  ⟨(some 171), (.mv (.tmp 10)), none⟩,
                  ⟨(some 172), (.mv (.tmp 17)), none⟩,
                  ⟨(some 173), (.bin .add (.tmp 171) (.tmp 172)), none⟩,
                  ⟨(some 174), (.mv (.tmp 9)), none⟩,
                  ⟨(some 175), (.mv (.tmp 8)), none⟩,
                  ⟨(some 176), (.mv (.tmp 7)), none⟩,
                  ⟨(some 177), (.mv (.tmp 17)), none⟩,
                  ⟨(some 178), (.mv (.tmp 18)), none⟩,
                  ⟨(some 179), (.bin .add (.tmp 177) (.tmp 178)), none⟩,
                  ⟨(some 14), (.mv (.tmp 168)), none⟩,
                  ⟨(some 13), (.mv (.tmp 169)), none⟩,
                  ⟨(some 12), (.mv (.tmp 170)), none⟩,
                  ⟨(some 11), (.mv (.tmp 173)), none⟩,
                  ⟨(some 10), (.mv (.tmp 174)), none⟩,
                  ⟨(some 9), (.mv (.tmp 175)), none⟩,
                  ⟨(some 8), (.mv (.tmp 176)), none⟩,
                  ⟨(some 7), (.mv (.tmp 179)), none⟩])))))
             (.region false [⟨(some 180), (.bin .add (.tmp 117) (.const (it 1))), none⟩,
              ⟨(some 117), (.mv (.tmp 180)), none⟩])))))))
       (.seq
        (.region false [⟨(some 181), (.mv (.tmp 7)), none⟩,
         ⟨(some 182), (.mv (.tmp 8)), none⟩,
         ⟨(some 183), (.mv (.tmp 9)), none⟩,
         ⟨(some 184), (.mv (.tmp 10)), none⟩,
         ⟨(some 185), (.mv (.tmp 11)), none⟩,
         ⟨(some 186), (.mv (.tmp 12)), none⟩,
         ⟨(some 187), (.mv (.tmp 13)), none⟩,
         ⟨(some 188), (.mv (.tmp 14)), none⟩,
         ⟨(some 189), (.build (.ar 8 L32) (List.replicate 8 (.raw (u32 0#32))) [(0, (.tmp 181)), (1, (.tmp 182)), (2, (.tmp 183)), (3, (.tmp 184)), (4, (.tmp 185)), (5, (.tmp 186)), (6, (.tmp 187)), (7, (.tmp 188))]), none⟩,
         ⟨(some 19), (.alloc (.ar 8 L32) (.agg (.ar 8 L32) (List.replicate 8 (.raw (u32 0#32))))), none⟩,
         ⟨none, (.store (.ar 8 L32) (.tmp 19) (.tmp 189)), none⟩])
        (.seq
         (.seq
          (.region false [⟨(some 190), (.mv (.const (it 0))), none⟩])
          (.block 4
           (.loop
            (.seq
             (.region false [⟨(some 191), (.bin .lss (.tmp 190) (.const (it 8))), none⟩])
             (.seq
              (.cond (.tmp 191)
               .skip
               (.exit 4))
              (.seq
               (.block 5
                (.seq
                 (.region false [⟨(some 192), (.mv (.tmp 190)), none⟩,
                  ⟨(some 20), (.mv (.tmp 192)), none⟩])
                 (.region true [⟨(some 193), (.mv (.tmp 20)), none⟩,
                  ⟨(some 194), (.iaddra 8 L32 (.tmp 19) (.tmp 193)), none⟩,
                  ⟨(some 195), (.load L32 (.tmp 194)), none⟩,
                  ⟨(some 196), (.mv (.tmp 20)), none⟩,
                  ⟨(some 197), (.iaddra 8 L32 (.tmp 2) (.tmp 196)), none⟩,
                  ⟨(some 198), (.load L32 (.tmp 197)), none⟩,
                  ⟨(some 199), (.bin .add (.tmp 195) (.tmp 198)), none⟩,
                  ⟨(some 200), (.iaddra 8 L32 (.tmp 19) (.tmp 193)), none⟩,
                  ⟨none, (.store L32 (.tmp 200) (.tmp 199)), none⟩])))
               (.region false [⟨(some 201), (.bin .add (.tmp 190) (.const (it 1))), none⟩,
                ⟨(some 190), (.mv (.tmp 201)), none⟩])))))))
         (.seq
          (.region false [⟨(some 202), (.load (.ar 8 L32) (.tmp 19)), none⟩,
           ⟨none, (.store (.ar 8 L32) (.tmp 4) (.tmp 202)), none⟩])
          .ret)))))))))
def r_ref01_Press : List ARes := [(.cell 4 (.ar 8 L32))]
theorem c_ref01_Press : o2 Go.Proofs.Tryd.f35.body (comp Go.Proofs.Tryd.prog Go.Proofs.Tryd.f35.ntmps) = some a_ref01_Press := by kernel_rfl
theorem s_ref01_Press : cRess Go.Proofs.Tryd.prog Go.Proofs.Tryd.f35.results.toList = some r_ref01_Press := by kernel_rfl
theorem m_ref01_Press (C : Ctx) (hC : CtxOK C Go.Proofs.Tryd.prog) : Meets C.glob Go.Proofs.Tryd.prog 35 (afun C 2 r_ref01_Press a_ref01_Press) :=
  fn_sound hC Go.Proofs.Tryd.func35 c_ref01_Press s_ref01_Press (Nat.le_of_ble_eq_true (by kernel_rfl))

/-- curtilage/mac.New -/
def a_mac_New : ACode :=
 (.seq
  (.region false [⟨(some 2), (.alloc S6 (.agg S6 [(.agg S5 [(.agg (.ar 8 L32) (List.replicate 8 (.raw (u32 0#32)))), (.agg (.ar 64 L8) (List.replicate 64 (.raw (u8 0#8)))), (.raw (u64 0#64))]), (.agg S5 [(.agg (.ar 8 L32) (List.replicate 8 (.raw (u32 0#32)))), (.agg (.ar 64 L8) (List.replicate 64 (.raw (u8 0#8)))), (.raw (u64 0#64))])])), none⟩])
  (.seq
   (.region false [⟨(some 3), (.alloc (.ar 64 L8) (.agg (.ar 64 L8) (List.replicate 64 (.raw (u8 0#8))))), none⟩])
   (.seq
    (.seq
     (.region false [⟨(some 5), (.mv (.tmp 0)), none⟩,
      ⟨(some 6), (.len (.tmp 5)), none⟩,
      ⟨(some 7), (.bin .gtr (.tmp 6) (.const (it 64))), none⟩])
     (.cond (.tmp 7)
      (.seq
       (.region false [⟨(some 8), (.mv (.tmp 0)), none⟩,
        ⟨(some 9), (.bslice .ref 1 (.raw (.slice none 0 0)) [(0, (.tmp 8))]), none⟩,
        ⟨(some 10), (.call 21 [(.tmp 9)]), none⟩,
        ⟨(some 4), (.alloc (.ar 32 L8) (.agg (.ar 32 L8) (List.replicate 32 (.raw (u8 0#8))))), none⟩,
        ⟨none, (.store (.ar 32 L8) (.tmp 4) (.tmp 10)), none⟩])
       (.region false [⟨(some 11), (.slicea 32 L8 (.tmp 4) none none none), none⟩,
        ⟨(some 0), (.mv (.tmp 11)), none⟩]))
      .skip))
    (.seq
     (.region false [⟨(some 12), (.slicea 64 L8 (.tmp 3) none none none), none⟩,
      ⟨(some 13), (.mv (.tmp 0)), none⟩,
      ⟨(some 14), (.copy L8 (.tmp 12) (.tmp 13)), none⟩])
     (.seq
      (.draw1 [⟨(some 15), (.call 28 []), none⟩,
       ⟨(some 16), (.load (.ar 64 L8) (.tmp 3)), none⟩,
       ⟨(some 17), (.call 46 [(.tmp 16), (.const (u8 54#8))]), none⟩,
       ⟨(some 18), (.call 29 [(.tmp 15), (.tmp 17)]), none⟩,
       ⟨(some 19), (.call 28 []), none⟩,
       ⟨(some 20), (.load (.ar 64 L8) (.tmp 3)), none⟩]
       [⟨(some 21), (.call 46 [(.tmp 20), (.const (u8 92#8))]), none⟩,
       ⟨(some 22), (.call 29 [(.tmp 19), (.tmp 21)]), none⟩,
       ⟨(some 23), (.build S6 [(.agg S5 [(.agg (.ar 8 L32) (List.replicate 8 (.raw (u32 0#32)))), (.agg (.ar 64 L8) (List.replicate 64 (.raw (u8 0#8)))), (.raw (u64 0#64))]), (.agg S5 [(.agg (.ar 8 L32) (List.replicate 8 (.raw (u32 0#32)))), (.agg (.ar 64 L8) (List.replicate 64 (.raw (u8 0#8)))), (.raw (u64 0#64))])] [(0, (.tmp 18)), (1, (.tmp 22))]), none⟩,
       ⟨none, (.store S6 (.tmp 2) (.tmp 23)), none⟩])
      .ret)))))
def r_mac_New : List ARes := [(.cell 2 S6)]
theorem c_mac_New : o2 Go.Proofs.Tryd.f36.body (comp Go.Proofs.Tryd.prog Go.Proofs.Tryd.f36.ntmps) = some a_mac_New := by kernel_rfl
theorem s_mac_New : cRess Go.Proofs.Tryd.prog Go.Proofs.Tryd.f36.results.toList = some r_mac_New := by kernel_rfl
theorem m_mac_New (C : Ctx) (hC : CtxOK C Go.Proofs.Tryd.prog) : Meets C.glob Go.Proofs.Tryd.prog 36 (afun C 1 r_mac_New a_mac_New) :=
  fn_sound hC Go.Proofs.Tryd.func36 c_mac_New s_mac_New (Nat.le_of_ble_eq_true (by kernel_rfl))

/-- (curtilage/mac.Mac).Feed -/
def a_mac_Mac_Feed : ACode :=
 (.seq
  (.region false [⟨(some 2), (.box S6 (.tmp 0)), none⟩,
   ⟨(some 4), (.alloc S6 (.agg S6 [(.agg S5 [(.agg (.ar 8 L32) (List.replicate 8 (.raw (u32 0#32)))), (.agg (.ar 64 L8) (List.replicate 64 (.raw (u8 0#8)))), (.raw (u64 0#64))]), (.agg S5 [(.agg (.ar 8 L32) (List.replicate 8 (.raw (u32 0#32)))), (.agg (.ar 64 L8) (List.replicate 64 (.raw (u8 0#8)))), (.raw (u64 0#64))])])), none⟩])
  (.seq
   (.region false [⟨(some 5), (.faddr S6 (.tmp 2) 0), none⟩,
    ⟨(some 6), (.load S5 (.tmp 5)), none⟩,
    ⟨(some 7), (.mv (.tmp 1)), none⟩,
    ⟨(some 8), (.call 29 [(.tmp 6), (.tmp 7)]), none⟩,
    ⟨(some 9), (.faddr S6 (.tmp 2) 0), none⟩,
    ⟨none, (.store S5 (.tmp 9) (.tmp 8)), none⟩])
   (.seq
    (.region false [⟨(some 10), (.load S6 (.tmp 2)), none⟩,
     ⟨none, (.store S6 (.tmp 4) (.tmp 10)), none⟩])
    .ret)))
def r_mac_Mac_Feed : List ARes := [(.cell 4 S6)]
theorem c_mac_Mac_Feed : o2 Go.Proofs.Tryd.f37.body (comp Go.Proofs.Tryd.prog Go.Proofs.Tryd.f37.ntmps) = some a_mac_Mac_Feed := by kernel_rfl
theorem s_mac_Mac_Feed : cRess Go.Proofs.Tryd.prog Go.Proofs.Tryd.f37.results.toList = some r_mac_Mac_Feed := by kernel_rfl
theorem m_mac_Mac_Feed (C : Ctx) (hC : CtxOK C Go.Proofs.Tryd.prog) : Meets C.glob Go.Proofs.Tryd.prog 37 (afun C 2 r_mac_Mac_Feed a_mac_Mac_Feed) :=
  fn_sound hC Go.Proofs.Tryd.func37 c_mac_Mac_Feed s_mac_Mac_Feed (Nat.le_of_ble_eq_true (by kernel_rfl))

/-- (curtilage/mac.Mac).Sum -/
def a_mac_Mac_Sum : ACode :=
 (.seq
  (.region false [⟨(some 1), (.box S6 (.tmp 0)), none⟩,
   ⟨(some 2), (.alloc (.ar 32 L8) (.agg (.ar 32 L8) (List.replicate 32 (.raw (u8 0#8))))), none⟩])
  (.seq
   (.region false [⟨(some 4), (.faddr S6 (.tmp 1) 0), none⟩,
    ⟨(some 5), (.load S5 (.tmp 4)), none⟩,
    ⟨(some 6), (.call 31 [(.tmp 5)]), none⟩,
    ⟨(some 3), (.alloc (.ar 32 L8) (.agg (.ar 32 L8) (List.replicate 32 (.raw (u8 0#8))))), none⟩,
    ⟨none, (.store (.ar 32 L8) (.tmp 3) (.tmp 6)), none⟩])
   (.seq
    (.draw1 [⟨(some 7), (.faddr S6 (.tmp 1) 1), none⟩,
     ⟨(some 8), (.load S5 (.tmp 7)), none⟩,
     ⟨(some 9), (.slicea 32 L8 (.tmp 3) none none none), none⟩]
     [⟨(some 10), (.call 29 [(.tmp 8), (.tmp 9)]), none⟩,
     ⟨(some 11), (.call 31 [(.tmp 10)]), none⟩,
     ⟨none, (.store (.ar 32 L8) (.tmp 2) (.tmp 11)), none⟩])
    .ret)))
def r_mac_Mac_Sum : List ARes := [(.cell 2 (.ar 32 L8))]
theorem c_mac_Mac_Sum : o2 Go.Proofs.Tryd.f38.body (comp Go.Proofs.Tryd.prog Go.Proofs.Tryd.f38.ntmps) = some a_mac_Mac_Sum := by kernel_rfl
theorem s_mac_Mac_Sum : cRess Go.Proofs.Tryd.prog Go.Proofs.Tryd.f38.results.toList = some r_mac_Mac_Sum := by kernel_rfl
theorem m_mac_Mac_Sum (C : Ctx) (hC : CtxOK C Go.Proofs.Tryd.prog) : Meets C.glob Go.Proofs.Tryd.prog 38 (afun C 1 r_mac_Mac_Sum a_mac_Mac_Sum) :=
  fn_sound hC Go.Proofs.Tryd.func38 c_mac_Mac_Sum s_mac_Mac_Sum (Nat.le_of_ble_eq_true (by kernel_rfl))

/-- curtilage/sha.Press -/
def a_sha_Press : ACode :=
 (.seq
  (.region false [⟨(some 2), (.box (.ar 8 L32) (.tmp 0)), none⟩,
   ⟨(some 3), (.box (.ar 64 L8) (.tmp 1)), none⟩,
   ⟨(some 4), (.alloc (.ar 8 L32) (.agg (.ar 8 L32) (List.replicate 8 (.raw (u32 0#32))))), none⟩])
  (.seq
   (.region false [⟨(some 14), (.load (.ar 8 L32) (.tmp 2)), none⟩,
    ⟨(some 5), (.alloc (.ar 8 L32) (.agg (.ar 8 L32) (List.replicate 8 (.raw (u32 0#32))))), none⟩,
    ⟨none, (.store (.ar 8 L32) (.tmp 5) (.tmp 14)), none⟩])
   (.seq
    (.seq
     (.region false [⟨(some 15), (.load (.ar 64 L8) (.tmp 3)), none⟩,
      ⟨(some 16), (.call 47 [(.tmp 15)]), none⟩,
      ⟨(some 17), (.mv (.const (it 0))), none⟩])
     (.block 0
      (.loop
       (.seq
        (.region false [⟨(some 18), (.bin .lss (.tmp 17) (.const (it 64))), none⟩])
        (.seq
         (.cond (.tmp 18)
          .skip
          (.exit 0))
         (.seq
          (.block 1
           (.seq
            (.region false [⟨(some 19), (.mv (.tmp 17)), none⟩,
             ⟨(some 20), (.index 64 L32 (.tmp 16) (.tmp 17)), none⟩,
             ⟨(some 6), (.mv (.tmp 19)), none⟩,
             ⟨(some 7), (.mv (.tmp 20)), none⟩])
            (.seq
             (.region true [⟨(some 21), (.iaddra 8 L32 (.tmp 5) (.const (it 4))), none⟩,
              ⟨(some 22), (.load L32 (.tmp 21)), none⟩,
              ⟨(some 23), (.call 48 [(.tmp 22), (.const (it (-6)))]), none⟩,
              ⟨(some 24), (.iaddra 8 L32 (.tmp 5) (.const (it 4))), none⟩,
              ⟨(some 25), (.load L32 (.tmp 24)), none⟩,
              ⟨(some 26), (.call 48 [(.tmp 25), (.const (it (-11)))]), none⟩,
              ⟨(some 27), (.bin .xor (.tmp 23) (.tmp 26)), none⟩,
              ⟨(some 28), (.iaddra 8 L32 (.tmp 5) (.const (it 4))), none⟩,
              ⟨(some 29), (.load L32 (.tmp 28)), none⟩,
              ⟨(some 30), (.call 48 [(.tmp 29), (.const (it (-25)))]), none⟩,
              ⟨(some 31), (.bin .xor (.tmp 27) (.tmp 30)), none⟩,
              ⟨(some 8), (.mv (.tmp 31)), none⟩])
             (.seq
              (.region false [⟨(some 32), (.iaddra 8 L32 (.tmp 5) (.const (it 4))), none⟩,
               ⟨(some 33), (.load L32 (.tmp 32)), none⟩,
               ⟨(some 34), (.iaddra 8 L32 (.tmp 5) (.const (it 5))), none⟩,
               ⟨(some 35), (.load L32 (.tmp 34)), none⟩,
               ⟨(some 36), (.bin .and (.tmp 33) (.tmp 35)), none⟩,
               ⟨(some 37), (.iaddra 8 L32 (.tmp 5) (.const (it 4))), none⟩,
               ⟨(some 38), (.load L32 (.tmp 37)), none⟩,
               ⟨(some 39), (.un .xor (.tmp 38)), none⟩,
               ⟨(some 40), (.iaddra 8 L32 (.tmp 5) (.const (it 6))), none⟩,
               ⟨(some 41), (.load L32 (.tmp 40)), none⟩,
               ⟨(some 42), (.bin .and (.tmp 39) (.tmp 41)), none⟩,
               ⟨(some 43), (.bin .xor (.tmp 36) (.tmp 42)), none⟩,
               ⟨(some 9), (.mv (.tmp 43)), none⟩])
              (.seq
               (.region true [⟨(some 44), (.iaddra 8 L32 (.tmp 5) (.const (it 7))), none⟩,
                ⟨(some 45), (.load L32 (.tmp 44)), none⟩,
                ⟨(some 46), (.mv (.tmp 8)), none⟩,
                ⟨(some 47), (.bin .add (.tmp 45) (.tmp 46)), none⟩,
                ⟨(some 48), (.mv (.tmp 9)), none⟩,
                ⟨(some 49), (.bin .add (.tmp 47) (.tmp 48)), none⟩,
                ⟨(some 50), (.mv (.tmp 6)), none⟩,
                ⟨(some 51), (.iaddra 64 L32 (.glob 1) (.tmp 50)), none⟩,
                ⟨(some 52), (.load L32 (.tmp 51)), none⟩,
                ⟨(some 53), (.bin .add (.tmp 49) (.tmp 52)), none⟩,
                ⟨(some 54), (.mv (.tmp 7)), none⟩,
                ⟨(some 55), (.bin .add (.tmp 53) (.tmp 54)), none⟩,
                ⟨(some 10), (.mv (.tmp 55)), none⟩])
               (.seq
                (.region true [⟨(some 56), (.iaddra 8 L32 (.tmp 5) (.const (it 0))), none⟩,
                 ⟨(some 57), (.load L32 (.tmp 56)), none⟩,
                 ⟨(some 58), (.call 48 [(.tmp 57), (.const (it (-2)))]), none⟩,
                 ⟨(some 59), (.iaddra 8 L32 (.tmp 5) (.const (it 0))), none⟩,
                 ⟨(some 60), (.load L32 (.tmp 59)), none⟩,
                 ⟨(some 61), (.call 48 [(.tmp 60), (.const (it (-13)))]), none⟩,
                 ⟨(some 62), (.bin .xor (.tmp 58) (.tmp 61)), none⟩,
                 ⟨(some 63), (.iaddra 8 L32 (.tmp 5) (.const (it 0))), none⟩,
                 ⟨(some 64), (.load L32 (.tmp 63)), none⟩,
                 ⟨(some 65), (.call 48 [(.tmp 64), (.const (it (-22)))]), none⟩,
                 ⟨(some 66), (.bin .xor (.tmp 62) (.tmp 65)), none⟩,
                 ⟨(some 11), (.mv (.tmp 66)), none⟩])
                (.seq
                 (.region false [⟨(some 67), (.iaddra 8 L32 (.tmp 5) (.const (it 0))), none⟩,
                  ⟨(some 68), (.load L32 (.tmp 67)), none⟩,
                  ⟨(some 69), (.iaddra 8 L32 (.tmp 5) (.const (it 1))), none⟩,
                  ⟨(some 70), (.load L32 (.tmp 69)), none⟩,
                  ⟨(some 71), (.bin .and (.tmp 68) (.tmp 70)), none⟩,
                  ⟨(some 72), (.iaddra 8 L32 (.tmp 5) (.const (it 0))), none⟩,
                  ⟨(some 73), (.load L32 (.tmp 72)), none⟩,
                  ⟨(some 74), (.iaddra 8 L32 (.tmp 5) (.const (it 2))), none⟩,
                  ⟨(some 75), (.load L32 (.tmp 74)), none⟩,
                  ⟨(some 76), (.bin .and (.tmp 73) (.tmp 75)), none⟩,
                  ⟨(some 77), (.bin .xor (.tmp 71) (.tmp 76)), none⟩,
                  ⟨(some 78), (.iaddra 8 L32 (.tmp 5) (.const (it 1))), none⟩,
                  ⟨(some 79), (.load L32 (.tmp 78)), none⟩,
                  ⟨(some 80), (.iaddra 8 L32 (.tmp 5) (.const (it 2))), none⟩,
                  ⟨(some 81), (.load L32 (.tmp 80)), none⟩,
                  ⟨(some 82), (.bin .and (.tmp 79) (.tmp 81)), none⟩,
                  ⟨(some 83), (.bin .xor (.tmp 77) (.tmp 82)), none⟩,
                  ⟨(some 12), (.mv (.tmp 83)), none⟩])
                 (.region false [⟨(some 84), (.mv (.tmp 10)), none⟩,
                  ⟨(some 85), (.mv (.tmp 11)), none⟩,
                  ⟨(some 86), (.bin .add (.tmp 84) (.tmp 85)), none⟩,
                  ⟨(some 87), (.mv (.tmp 12)), none⟩,
                  ⟨(some 88), (.bin .add (.tmp 86) (.tmp 87)), none⟩,
                  ⟨(some 89), (.iaddra 8 L32 (.tmp 5) (.const (it 0))), none⟩,
                  ⟨(some 90), (.load L32 (.tmp 89)), none⟩,
                  ⟨(some 91), (.iaddra 8 L32 (.tmp 5) (.const (it 1))), none⟩,
                  ⟨(some 92), (.load L32 (.tmp 91)), none⟩,
                  ⟨(some 93), (.iaddra 8 L32 (.tmp 5) (.const (it 2))), none⟩,
                  ⟨(some 94), (.load L32 (.tmp 93)), none⟩,
                  ⟨(some 95), (.iaddra 8 L32 (.tmp 5) (.const (it 3))), none⟩,
                  ⟨(some 96), (.load L32 (.tmp 95)), none⟩,
                  ⟨(some 97), (.mv (.tmp 10)), none⟩,
                  ⟨(some 98), (.bin .add (.tmp 96) (.tmp 97)), none⟩,
                  ⟨(some 99), (.iaddra 8 L32 (.tmp 5) (.const (it 4))), none⟩,
                  ⟨(some 100), (.load L32 (.tmp 99)), none⟩,
                  ⟨(some 101), (.iaddra 8 L32 (.tmp 5) (.const (it 5))), none⟩,
                  ⟨(some 102), (.load L32 (.tmp 101)), none⟩,
                  ⟨(some 103), (.iaddra 8 L32 (.tmp 5) (.const (it 6))), none⟩,
                  ⟨(some 104), (.load L32 (.tmp 103)), none⟩,
                  ⟨(some 105), (.build (.ar 8 L32) (List.replicate 8 (.raw (u32 0#32))) [(0, (.tmp 88)), (1, (.tmp 90)), (2, (.tmp 92)), (3, (.tmp 94)), (4, (.tmp 98)), (5, (.tmp 100)), (6, (.tmp 102)), (7, (.tmp 104))]), none⟩,
                  ⟨none, (.store (.ar 8 L32) (.tmp 5) (.tmp 105)), none⟩]))))))))
          (.region false [⟨(some 106), (.bin .add (.tmp 17) (.const (it 1))), none⟩,
           ⟨(some 17), (.mv (.tmp 106)), none⟩])))))))
    (.seq
     (.seq
      (.region false [⟨(some 107), (.mv (.const (it 0))), none⟩])
      (.block 2
       (.loop
        (.seq
         (.region false [⟨(some 108), (.bin .lss (.tmp 107) (.const (it 8))), none⟩])
         (.seq
          (.cond (.tmp 108)
           .skip
           (.exit 2))
          (.seq
           (.block 3
            (.seq
             (.region false [⟨(some 109), (.mv (.tmp 107)), none⟩,
              ⟨(some 13), (.mv (.tmp 109)), none⟩])
             (.region true [⟨(some 110), (.mv (.tmp 13)), none⟩,
              ⟨(some 111), (.iaddra 8 L32 (.tmp 2) (.tmp 110)), none⟩,
              ⟨(some 112), (.load L32 (.tmp 111)), none⟩,
              ⟨(some 113), (.mv (.tmp 13)), none⟩,
              ⟨(some 114), (.iaddra 8 L32 (.tmp 5) (.tmp 113)), none⟩,
              ⟨(some 115), (.load L32 (.tmp 114)), none⟩,
              ⟨(some 116), (.bin .add (.tmp 112) (.tmp 115)), none⟩,
              ⟨(some 117), (.iaddra 8 L32 (.tmp 2) (.tmp 110)), none⟩,
              ⟨none, (.store L32 (.tmp 117) (.tmp 116)), none⟩])))
           (.region false [⟨(some 118), (.bin .add (.tmp 107) (.const (it 1))), none⟩,
            ⟨(some 107), (.mv (.tmp 118)), none⟩])))))))
     (.seq
      (.region false [⟨(some 119), (.load (.ar 8 L32) (.tmp 2)), none⟩,
       ⟨none, (.store (.ar 8 L32) (.tmp 4) (.tmp 119)), none⟩])
      .ret)))))
def r_sha_Press : List ARes := [(.cell 4 (.ar 8 L32))]
theorem c_sha_Press : o2 Go.Proofs.Tryd.f39.body (comp Go.Proofs.Tryd.prog Go.Proofs.Tryd.f39.ntmps) = some a_sha_Press := by kernel_rfl
theorem s_sha_Press : cRess Go.Proofs.Tryd.prog Go.Proofs.Tryd.f39.results.toList = some r_sha_Press := by kernel_rfl
theorem m_sha_Press (C : Ctx) (hC : CtxOK C Go.Proofs.Tryd.prog) : Meets C.glob Go.Proofs.Tryd.prog 39 (afun C 2 r_sha_Press a_sha_Press) :=
  fn_sound hC Go.Proofs.Tryd.func39 c_sha_Press s_sha_Press (Nat.le_of_ble_eq_true (by kernel_rfl))

/-- curtilage/sha.Digest -/
def a_sha_Digest : ACode :=
 (.seq
  (.region false [⟨(some 1), (.box (.ar 8 L32) (.tmp 0)), none⟩,
   ⟨(some 2), (.alloc (.ar 32 L8) (.agg (.ar 32 L8) (List.replicate 32 (.raw (u8 0#8))))), none⟩])
  (.seq
   (.region false [⟨(some 3), (.alloc (.ar 32 L8) (.agg (.ar 32 L8) (List.replicate 32 (.raw (u8 0#8))))), none⟩])
   (.seq
    (.seq
     (.region false [⟨(some 6), (.load (.ar 8 L32) (.tmp 1)), none⟩,
      ⟨(some 7), (.mv (.const (it 0))), none⟩])
     (.block 0
      (.loop
       (.seq
        (.region false [⟨(some 8), (.bin .lss (.tmp 7) (.const (it 8))), none⟩])
        (.seq
         (.cond (.tmp 8)
          .skip
          (.exit 0))
         (.seq
          (.block 1
           (.seq
            (.region false [⟨(some 9), (.mv (.tmp 7)), none⟩,
             ⟨(some 10), (.index 8 L32 (.tmp 6) (.tmp 7)), none⟩,
             ⟨(some 4), (.mv (.tmp 9)), none⟩,
             ⟨(some 5), (.mv (.tmp 10)), none⟩])
            (.region false [⟨(some 11), (.mv (.tmp 4)), none⟩,
             ⟨(some 12), (.bin .mul (.const (it 4)) (.tmp 11)), none⟩,
             ⟨(some 13), (.slicea 32 L8 (.tmp 3) (some (.tmp 12)) none none), none⟩,
             ⟨(some 14), (.mv (.tmp 5)), none⟩,
             ⟨(some 15), (.bin .shr (.tmp 14) (.const (u64 24#64))), none⟩,
             ⟨(some 16), (.conv .u8 (.tmp 15)), none⟩,
             ⟨(some 17), (.mv (.tmp 5)), none⟩,
             ⟨(some 18), (.bin .shr (.tmp 17) (.const (u64 16#64))), none⟩,
             ⟨(some 19), (.conv .u8 (.tmp 18)), none⟩,
             ⟨(some 20), (.mv (.tmp 5)), none⟩,
             ⟨(some 21), (.bin .shr (.tmp 20) (.const (u64 8#64))), none⟩,
             ⟨(some 22), (.conv .u8 (.tmp 21)), none⟩,
             ⟨(some 23), (.mv (.tmp 5)), none⟩,
             ⟨(some 24), (.conv .u8 (.tmp 23)), none⟩,
             ⟨(some 25), (.bslice L8 4 (.raw (u8 0#8)) [(0, (.tmp 16)), (1, (.tmp 19)), (2, (.tmp 22)), (3, (.tmp 24))]), none⟩,
             ⟨(some 26), (.copy L8 (.tmp 13) (.tmp 25)), none⟩])))
          (.region false [⟨(some 27), (.bin .add (.tmp 7) (.const (it 1))), none⟩,
           ⟨(some 7), (.mv (.tmp 27)), none⟩])))))))
    (.seq
     (.region false [⟨(some 28), (.load (.ar 32 L8) (.tmp 3)), none⟩,
      ⟨none, (.store (.ar 32 L8) (.tmp 2) (.tmp 28)), none⟩])
     .ret))))
def r_sha_Digest : List ARes := [(.cell 2 (.ar 32 L8))]
theorem c_sha_Digest : o2 Go.Proofs.Tryd.f41.body (comp Go.Proofs.Tryd.prog Go.Proofs.Tryd.f41.ntmps) = some a_sha_Digest := by kernel_rfl
theorem s_sha_Digest : cRess Go.Proofs.Tryd.prog Go.Proofs.Tryd.f41.results.toList = some r_sha_Digest := by kernel_rfl
theorem m_sha_Digest (C : Ctx) (hC : CtxOK C Go.Proofs.Tryd.prog) : Meets C.glob Go.Proofs.Tryd.prog 41 (afun C 1 r_sha_Digest a_sha_Digest) :=
  fn_sound hC Go.Proofs.Tryd.func41 c_sha_Digest s_sha_Digest (Nat.le_of_ble_eq_true (by kernel_rfl))

/-- curtilage/sha.Pad -/
def a_sha_Pad : ACode :=
 (.seq
  (.region false [⟨(some 2), (.mv (.const (.slice none 0 0))), none⟩])
  (.seq
   (.region false [⟨(some 5), (.bslice L8 1 (.raw (u8 0#8)) [(0, (.const (u8 128#8)))]), none⟩,
    ⟨(some 3), (.mv (.tmp 5)), none⟩])
   (.seq
    (.region false [⟨(some 6), (.mv (.tmp 3)), none⟩,
     ⟨(some 7), (.mv (.tmp 0)), none⟩,
     ⟨(some 8), (.bin .rem (.tmp 7) (.const (u64 64#64))), none⟩,
     ⟨(some 9), (.bin .sub (.const (u64 119#64)) (.tmp 8)), none⟩,
     ⟨(some 10), (.bin .rem (.tmp 9) (.const (u64 64#64))), none⟩,
     ⟨(some 11), (.appendz L8 1 (.raw (u8 0#8)) (.tmp 6) (.tmp 10)), none⟩,
     ⟨(some 3), (.mv (.tmp 11)), none⟩])
    (.seq
     (.seq
      (.region false [⟨(some 4), (.mv (.const (it 56))), none⟩])
      (.block 0
       (.loop
        (.seq
         (.seq
          (.region false [⟨(some 12), (.mv (.tmp 4)), none⟩,
           ⟨(some 13), (.bin .geq (.tmp 12) (.const (it 0))), none⟩])
          (.cond (.tmp 13)
           .skip
           (.exit 0)))
         (.seq
          (.block 1
           (.region false [⟨(some 16), (.mv (.tmp 3)), none⟩,
            ⟨(some 17), (.mv (.tmp 0)), none⟩,
            ⟨(some 18), (.bin .shl (.tmp 17) (.const (u64 3#64))), none⟩,
            ⟨(some 19), (.mv (.tmp 4)), none⟩,
            ⟨(some 20), (.bin .shr (.tmp 18) (.tmp 19)), none⟩,
            ⟨(some 21), (.conv .u8 (.tmp 20)), none⟩,
            ⟨(some 22), (.bslice L8 1 (.raw (u8 0#8)) [(0, (.tmp 21))]), none⟩,
            ⟨(some 23), (.append L8 1 (.tmp 16) (.tmp 22)), none⟩,
            ⟨(some 3), (.mv (.tmp 23)), none⟩]))
          (.region false [⟨(some 14), (.mv (.tmp 4)), none⟩,
           ⟨(some 15), (.bin .sub (.tmp 14) (.const (it 8))), none⟩,
           ⟨(some 4), (.mv (.tmp 15)), none⟩]))))))
     (.seq
      (.region false [⟨(some 24), (.mv (.tmp 3)), none⟩,
       ⟨(some 2), (.mv (.tmp 24)), none⟩])
      .ret)))))
def r_sha_Pad : List ARes := [(.tmp 2)]
theorem c_sha_Pad : o2 Go.Proofs.Tryd.f42.body (comp Go.Proofs.Tryd.prog Go.Proofs.Tryd.f42.ntmps) = some a_sha_Pad := by kernel_rfl
theorem s_sha_Pad : cRess Go.Proofs.Tryd.prog Go.Proofs.Tryd.f42.results.toList = some r_sha_Pad := by kernel_rfl
theorem m_sha_Pad (C : Ctx) (hC : CtxOK C Go.Proofs.Tryd.prog) : Meets C.glob Go.Proofs.Tryd.prog 42 (afun C 1 r_sha_Pad a_sha_Pad) :=
  fn_sound hC Go.Proofs.Tryd.func42 c_sha_Pad s_sha_Pad (Nat.le_of_ble_eq_true (by kernel_rfl))

/-- curtilage/curtilageref01.Value -/
def a_ref01_Value : ACode :=
 (.seq
  (.region false [⟨(some 2), (.mv (.const (u64 0#64))), none⟩])
  (.seq
   (.region false [⟨(some 3), (.mv (.const (u64 0#64))), none⟩])
   (.seq
    (.seq
     (.region false [⟨(some 6), (.mv (.tmp 0)), none⟩,
      ⟨(some 7), (.len (.tmp 6)), none⟩,
      ⟨(some 8), (.mv (.const (it 0))), none⟩])
     (.block 0
      (.loop
       (.seq
        (.region false [⟨(some 9), (.bin .lss (.tmp 8) (.tmp 7)), none⟩])
        (.seq
         (.cond (.tmp 9)
          .skip
          (.exit 0))
         (.seq
          (.block 1
           (.seq
            (.region false [⟨(some 10), (.iaddrs L8 (.tmp 6) (.tmp 8)), none⟩,
             ⟨(some 11), (.load L8 (.tmp 10)), none⟩,
             ⟨(some 5), (.mv (.tmp 11)), none⟩])
            (.region false [⟨(some 12), (.mv (.tmp 3)), none⟩,
             ⟨(some 13), (.bin .mul (.const (u64 256#64)) (.tmp 12)), none⟩,
             ⟨(some 14), (.mv (.tmp 5)), none⟩,
             ⟨(some 15), (.conv .u64 (.tmp 14)), none⟩,
             ⟨(some 16), (.bin .add (.tmp 13) (.tmp 15)), none⟩,
             ⟨(some 3), (.mv (.tmp 16)), none⟩])))
          (.region false [⟨(some 17), (.bin .add (.tmp 8) (.const (it 1))), none⟩,
           ⟨(some 8), (.mv (.tmp 17)), none⟩])))))))
    (.seq
     (.region false [⟨(some 18), (.mv (.tmp 3)), none⟩,
      ⟨(some 2), (.mv (.tmp 18)), none⟩])
     .ret))))
def r_ref01_Value : List ARes := [(.tmp 2)]
theorem c_ref01_Value : o2 Go.Proofs.Tryd.f43.body (comp Go.Proofs.Tryd.prog Go.Proofs.Tryd.f43.ntmps) = some a_ref01_Value := by kernel_rfl
theorem s_ref01_Value : cRess Go.Proofs.Tryd.prog Go.Proofs.Tryd.f43.results.toList = some r_ref01_Value := by kernel_rfl
theorem m_ref01_Value (C : Ctx) (hC : CtxOK C Go.Proofs.Tryd.prog) : Meets C.glob Go.Proofs.Tryd.prog 43 (afun C 1 r_ref01_Value a_ref01_Value) :=
  fn_sound hC Go.Proofs.Tryd.func43 c_ref01_Value s_ref01_Value (Nat.le_of_ble_eq_true (by kernel_rfl))

/-- curtilage/curtilageref01.turn -/
def a_ref01_turn : ACode :=
 (.seq
  (.region false [⟨(some 4), (.mv (.const (u32 0#32))), none⟩])
  (.seq
   (.region true [⟨(some 5), (.mv (.tmp 0)), none⟩,
    ⟨(some 6), (.mv (.tmp 1)), none⟩,
    ⟨(some 7), (.bin .shr (.tmp 5) (.tmp 6)), none⟩,
    ⟨(some 8), (.mv (.tmp 0)), none⟩,
    ⟨(some 9), (.mv (.tmp 1)), none⟩,
    ⟨(some 10), (.bin .sub (.const (it 32)) (.tmp 9)), none⟩,
    ⟨(some 11), (.bin .shl (.tmp 8) (.tmp 10)), none⟩,
    ⟨(some 12), (.bin .add (.tmp 7) (.tmp 11)), none⟩,
    ⟨(some 4), (.mv (.tmp 12)), none⟩])
   .ret))
def r_ref01_turn : List ARes := [(.tmp 4)]
theorem c_ref01_turn : o2 Go.Proofs.Tryd.f44.body (comp Go.Proofs.Tryd.prog Go.Proofs.Tryd.f44.ntmps) = some a_ref01_turn := by kernel_rfl
theorem s_ref01_turn : cRess Go.Proofs.Tryd.prog Go.Proofs.Tryd.f44.results.toList = some r_ref01_turn := by kernel_rfl
theorem m_ref01_turn (C : Ctx) (hC : CtxOK C Go.Proofs.Tryd.prog) : Meets C.glob Go.Proofs.Tryd.prog 44 (afun C 2 r_ref01_turn a_ref01_turn) :=
  fn_sound hC Go.Proofs.Tryd.func44 c_ref01_turn s_ref01_turn (Nat.le_of_ble_eq_true (by kernel_rfl))

/-- curtilage/curtilageref01.roots -/
def a_ref01_roots : ACode :=
 (.seq
  (.region false [⟨(some 0), (.alloc (.ar 64 L32) (.agg (.ar 64 L32) (List.replicate 64 (.raw (u32 0#32))))), none⟩])
  (.seq
   (.region false [⟨(some 1), (.build (.ar 64 L32) (List.replicate 64 (.raw (u32 0#32))) [(0, (.const (u32 1116352408#32))), (1, (.const (u32 1899447441#32))), (2, (.const (u32 3049323471#32))), (3, (.const (u32 3921009573#32))), (4, (.const (u32 961987163#32))), (5, (.const (u32 1508970993#32))), (6, (.const (u32 2453635748#32))), (7, (.const (u32 2870763221#32))), (8, (.const (u32 3624381080#32))), (9, (.const (u32 310598401#32))), (10, (.const (u32 607225278#32))), (11, (.const (u32 1426881987#32))), (12, (.const (u32 1925078388#32))), (13, (.const (u32 2162078206#32))), (14, (.const (u32 2614888103#32))), (15, (.const (u32 3248222580#32))), (16, (.const (u32 3835390401#32))), (17, (.const (u32 4022224774#32))), (18, (.const (u32 264347078#32))), (19, (.const (u32 604807628#32))), (20, (.const (u32 770255983#32))), (21, (.const (u32 1249150122#32))), (22, (.const (u32 1555081692#32))), (23, (.const (u32 1996064986#32))), (24, (.const (u32 2554220882#32))), (25, (.const (u32 2821834349#32))), (26, (.const (u32 2952996808#32))), (27, (.const (u32 3210313671#32))), (28, (.const (u32 3336571891#32))), (29, (.const (u32 3584528711#32))), (30, (.const (u32 113926993#32))), (31, (.const (u32 338241895#32))), (32, (.const (u32 666307205#32))), (33, (.const (u32 773529912#32))), (34, (.const (u32 1294757372#32))), (35, (.const (u32 1396182291#32))), (36, (.const (u32 1695183700#32))), (37, (.const (u32 1986661051#32))), (38, (.const (u32 2177026350#32))), (39, (.const (u32 2456956037#32))), (40, (.const (u32 2730485921#32))), (41, (.const (u32 2820302411#32))), (42, (.const (u32 3259730800#32))), (43, (.const (u32 3345764771#32))), (44, (.const (u32 3516065817#32))), (45, (.const (u32 3600352804#32))), (46, (.const (u32 4094571909#32))), (47, (.const (u32 275423344#32))), (48, (.const (u32 430227734#32))), (49, (.const (u32 506948616#32))), (50, (.const (u32 659060556#32))), (51, (.const (u32 883997877#32))), (52, (.const (u32 958139571#32))), (53, (.const (u32 1322822218#32))), (54, (.const (u32 1537002063#32))), (55, (.const (u32 1747873779#32))), (56, (.const (u32 1955562222#32))), (57, (.const (u32 2024104815#32))), (58, (.const (u32 2227730452#32))), (59, (.const (u32 2361852424#32))), (60, (.const (u32 2428436474#32))), (61, (.const (u32 2756734187#32))), (62, (.const (u32 3204031479#32))), (63, (.const (u32 3329325298#32)))]), none⟩,
    ⟨none, (.store (.ar 64 L32) (.tmp 0) (.tmp 1)), none⟩])
   .ret))
def r_ref01_roots : List ARes := [(.cell 0 (.ar 64 L32))]
theorem c_ref01_roots : o2 Go.Proofs.Tryd.f45.body (comp Go.Proofs.Tryd.prog Go.Proofs.Tryd.f45.ntmps) = some a_ref01_roots := by kernel_rfl
theorem s_ref01_roots : cRess Go.Proofs.Tryd.prog Go.Proofs.Tryd.f45.results.toList = some r_ref01_roots := by kernel_rfl
theorem m_ref01_roots (C : Ctx) (hC : CtxOK C Go.Proofs.Tryd.prog) : Meets C.glob Go.Proofs.Tryd.prog 45 (afun C 0 r_ref01_roots a_ref01_roots) :=
  fn_sound hC Go.Proofs.Tryd.func45 c_ref01_roots s_ref01_roots (Nat.le_of_ble_eq_true (by kernel_rfl))

/-- curtilage/mac.pad -/
def a_mac_pad : ACode :=
 (.seq
  (.region false [⟨(some 2), (.box (.ar 64 L8) (.tmp 0)), none⟩,
   ⟨(some 4), (.mv (.const (.slice none 0 0))), none⟩])
  (.seq
   (.seq
    (.region false [⟨(some 6), (.mv (.const (it 0))), none⟩])
    (.block 0
     (.loop
      (.seq
       (.region false [⟨(some 7), (.bin .lss (.tmp 6) (.const (it 64))), none⟩])
       (.seq
        (.cond (.tmp 7)
         .skip
         (.exit 0))
        (.seq
         (.block 1
          (.seq
           (.region false [⟨(some 8), (.mv (.tmp 6)), none⟩,
            ⟨(some 5), (.mv (.tmp 8)), none⟩])
           (.region false [⟨(some 9), (.mv (.tmp 5)), none⟩,
            ⟨(some 10), (.iaddra 64 L8 (.tmp 2) (.tmp 9)), none⟩,
            ⟨(some 11), (.load L8 (.tmp 10)), none⟩,
            ⟨(some 12), (.mv (.tmp 1)), none⟩,
            ⟨(some 13), (.bin .xor (.tmp 11) (.tmp 12)), none⟩,
            ⟨(some 14), (.iaddra 64 L8 (.tmp 2) (.tmp 9)), none⟩,
            ⟨none, (.store L8 (.tmp 14) (.tmp 13)), none⟩])))
         (.region false [⟨(some 15), (.bin .add (.tmp 6) (.const (it 1))), none⟩,
          ⟨(some 6), (.mv (.tmp 15)), none⟩])))))))
   (.seq
    (.region false [⟨(some 16), (.slicea 64 L8 (.tmp 2) none none none), none⟩,
     ⟨(some 4), (.mv (.tmp 16)), none⟩])
    .ret)))
def r_mac_pad : List ARes := [(.tmp 4)]
theorem c_mac_pad : o2 Go.Proofs.Tryd.f46.body (comp Go.Proofs.Tryd.prog Go.Proofs.Tryd.f46.ntmps) = some a_mac_pad := by kernel_rfl
theorem s_mac_pad : cRess Go.Proofs.Tryd.prog Go.Proofs.Tryd.f46.results.toList = some r_mac_pad := by kernel_rfl
theorem m_mac_pad (C : Ctx) (hC : CtxOK C Go.Proofs.Tryd.prog) : Meets C.glob Go.Proofs.Tryd.prog 46 (afun C 2 r_mac_pad a_mac_pad) :=
  fn_sound hC Go.Proofs.Tryd.func46 c_mac_pad s_mac_pad (Nat.le_of_ble_eq_true (by kernel_rfl))

/-- curtilage/sha.spread -/
def a_sha_spread : ACode :=
 (.seq
  (.region false [⟨(some 1), (.box (.ar 64 L8) (.tmp 0)), none⟩,
   ⟨(some 2), (.alloc (.ar 64 L32) (.agg (.ar 64 L32) (List.replicate 64 (.raw (u32 0#32))))), none⟩])
  (.seq
   (.region false [⟨(some 3), (.alloc (.ar 64 L32) (.agg (.ar 64 L32) (List.replicate 64 (.raw (u32 0#32))))), none⟩])
   (.seq
    (.seq
     (.region false [⟨(some 10), (.mv (.const (it 0))), none⟩])
     (.block 0
      (.loop
       (.seq
        (.region false [⟨(some 11), (.bin .lss (.tmp 10) (.const (it 16))), none⟩])
        (.seq
         (.cond (.tmp 11)
          .skip
          (.exit 0))
         (.seq
          (.block 1
           (.seq
            (.region false [⟨(some 12), (.mv (.tmp 10)), none⟩,
             ⟨(some 4), (.mv (.tmp 12)), none⟩])
            (.region false [⟨(some 13), (.mv (.tmp 4)), none⟩,
             ⟨(some 14), (.mv (.tmp 4)), none⟩,
             ⟨(some 15), (.bin .mul (.const (it 4)) (.tmp 14)), none⟩,
             ⟨(some 16), (.mv (.tmp 4)), none⟩,
             ⟨(some 17), (.bin .mul (.const (it 4)) (.tmp 16)), none⟩,
             ⟨(some 18), (.bin .add (.tmp 17) (.const (it 4))), none⟩,
             ⟨(some 19), (.slicea 64 L8 (.tmp 1) (some (.tmp 15)) (some (.tmp 18)) none), none⟩,
             ⟨(some 20), (.call 49 [(.tmp 19)]), none⟩,
             ⟨(some 21), (.iaddra 64 L32 (.tmp 3) (.tmp 13)), none⟩,
             ⟨none, (.store L32 (.tmp 21) (.tmp 20)), none⟩])))
          (.region false [⟨(some 22), (.bin .add (.tmp 10) (.const (it 1))), none⟩,
           ⟨(some 10), (.mv (.tmp 22)), none⟩])))))))
    (.seq
     (.seq
      (.region false [⟨(some 5), (.mv (.const (it 16))), none⟩])
      (.block 2
       (.loop
        (.seq
         (.seq
          (.region false [⟨(some 23), (.mv (.tmp 5)), none⟩,
           ⟨(some 24), (.bin .lss (.tmp 23) (.const (it 64))), none⟩])
          (.cond (.tmp 24)
           .skip
           (.exit 2)))
         (.seq
          (.block 3
           (.seq
            (.region true [⟨(some 27), (.mv (.tmp 5)), none⟩,
             ⟨(some 28), (.bin .sub (.tmp 27) (.const (it 15))), none⟩,
             ⟨(some 29), (.iaddra 64 L32 (.tmp 3) (.tmp 28)), none⟩,
             ⟨(some 30), (.load L32 (.tmp 29)), none⟩,
             ⟨(some 31), (.mv (.tmp 5)), none⟩,
             ⟨(some 32), (.bin .sub (.tmp 31) (.const (it 2))), none⟩,
             ⟨(some 33), (.iaddra 64 L32 (.tmp 3) (.tmp 32)), none⟩,
             ⟨(some 34), (.load L32 (.tmp 33)), none⟩,
             ⟨(some 6), (.mv (.tmp 30)), none⟩,
             ⟨(some 7), (.mv (.tmp 34)), none⟩])
            (.seq
             (.region false [⟨(some 35), (.mv (.tmp 6)), none⟩,
              ⟨(some 36), (.call 48 [(.tmp 35), (.const (it (-7)))]), none⟩,
              ⟨(some 37), (.mv (.tmp 6)), none⟩,
              ⟨(some 38), (.call 48 [(.tmp 37), (.const (it (-18)))]), none⟩,
              ⟨(some 39), (.bin .xor (.tmp 36) (.tmp 38)), none⟩,
              ⟨(some 40), (.mv (.tmp 6)), none⟩,
              ⟨(some 41), (.bin .shr (.tmp 40) (.const (u64 3#64))), none⟩,
              ⟨(some 42), (.bin .xor (.tmp 39) (.tmp 41)), none⟩,
              ⟨(some 8), (.mv (.tmp 42)), none⟩])
             (.seq
              (.region false [⟨(some 43), (.mv (.tmp 7)), none⟩,
               ⟨(some 44), (.call 48 [(.tmp 43), (.const (it (-17)))]), none⟩,
               ⟨(some 45), (.mv (.tmp 7)), none⟩,
               ⟨(some 46), (.call 48 [(.tmp 45), (.const (it (-19)))]), none⟩,
               ⟨(some 47), (.bin .xor (.tmp 44) (.tmp 46)), none⟩,
               ⟨(some 48), (.mv (.tmp 7)), none⟩,
               ⟨(some 49), (.bin .shr (.tmp 48) (.const (u64 10#64))), none⟩,
               ⟨(some 50), (.bin .xor (.tmp 47) (.tmp 49)), none⟩,
               ⟨(some 9), (.mv (.tmp 50)), none⟩])
              (.region true [⟨(some 51), (.mv (.tmp 5)), none⟩,
               ⟨(some 52), (.mv (.tmp 5)), none⟩,
               ⟨(some 53), (.bin .sub (.tmp 52) (.const (it 16))), none⟩,
               ⟨(some 54), (.iaddra 64 L32 (.tmp 3) (.tmp 53)), none⟩,
               ⟨(some 55), (.load L32 (.tmp 54)), none⟩,
               ⟨(some 56), (.mv (.tmp 8)), none⟩,
               ⟨(some 57), (.bin .add (.tmp 55) (.tmp 56)), none⟩,
               ⟨(some 58), (.mv (.tmp 5)), none⟩,
               ⟨(some 59), (.bin .sub (.tmp 58) (.const (it 7))), none⟩,
               ⟨(some 60), (.iaddra 64 L32 (.tmp 3) (.tmp 59)), none⟩,
               ⟨(some 61), (.load L32 (.tmp 60)), none⟩,
               ⟨(some 62), (.bin .add (.tmp 57) (.tmp 61)), none⟩,
               ⟨(some 63), (.mv (.tmp 9)), none⟩,
               ⟨(some 64), (.bin .add (.tmp 62) (.tmp 63)), none⟩,
               ⟨(some 65), (.iaddra 64 L32 (.tmp 3) (.tmp 51)), none⟩,
               ⟨none, (.store L32 (.tmp 65) (.tmp 64)), none⟩])))))
          (.region false [⟨(some 25), (.mv (.tmp 5)), none⟩,
           ⟨(some 26), (.bin .add (.tmp 25) (.const (it 1))), none⟩,
           ⟨(some 5), (.mv (.tmp 26)), none⟩]))))))
     (.seq
      (.region false [⟨(some 66), (.load (.ar 64 L32) (.tmp 3)), none⟩,
       ⟨none, (.store (.ar 64 L32) (.tmp 2) (.tmp 66)), none⟩])
      .ret)))))
def r_sha_spread : List ARes := [(.cell 2 (.ar 64 L32))]
theorem c_sha_spread : o2 Go.Proofs.Tryd.f47.body (comp Go.Proofs.Tryd.prog Go.Proofs.Tryd.f47.ntmps) = some a_sha_spread := by kernel_rfl
theorem s_sha_spread : cRess Go.Proofs.Tryd.prog Go.Proofs.Tryd.f47.results.toList = some r_sha_spread := by kernel_rfl
theorem m_sha_spread (C : Ctx) (hC : CtxOK C Go.Proofs.Tryd.prog) : Meets C.glob Go.Proofs.Tryd.prog 47 (afun C 1 r_sha_spread a_sha_spread) :=
  fn_sound hC Go.Proofs.Tryd.func47 c_sha_spread s_sha_spread (Nat.le_of_ble_eq_true (by kernel_rfl))

/-- math/bits.RotateLeft32 -/
def a_math_bits_RotateLeft32 : ACode :=
 (.seq
  (.region false [⟨(some 4), (.mv (.const (u32 0#32))), none⟩])
  (.seq
   (.region false [⟨(some 6), (.mv (.tmp 1)), none⟩,
    ⟨(some 7), (.conv .u64 (.tmp 6)), none⟩,
    ⟨(some 8), (.bin .and (.tmp 7) (.const (u64 31#64))), none⟩,
    ⟨(some 5), (.mv (.tmp 8)), none⟩])
   (.seq
    (.region false [⟨(some 9), (.mv (.tmp 0)), none⟩,
     ⟨(some 10), (.mv (.tmp 5)), none⟩,
     ⟨(some 11), (.bin .shl (.tmp 9) (.tmp 10)), none⟩,
     ⟨(some 12), (.mv (.tmp 0)), none⟩,
     ⟨(some 13), (.mv (.tmp 5)), none⟩,
     ⟨(some 14), (.bin .sub (.const (u64 32#64)) (.tmp 13)), none⟩,
     ⟨(some 15), (.bin .shr (.tmp 12) (.tmp 14)), none⟩,
     ⟨(some 16), (.bin .or (.tmp 11) (.tmp 15)), none⟩,
     ⟨(some 4), (.mv (.tmp 16)), none⟩])
    .ret)))
def r_math_bits_RotateLeft32 : List ARes := [(.tmp 4)]
theorem c_math_bits_RotateLeft32 : o2 Go.Proofs.Tryd.f48.body (comp Go.Proofs.Tryd.prog Go.Proofs.Tryd.f48.ntmps) = some a_math_bits_RotateLeft32 := by kernel_rfl
theorem s_math_bits_RotateLeft32 : cRess Go.Proofs.Tryd.prog Go.Proofs.Tryd.f48.results.toList = some r_math_bits_RotateLeft32 := by kernel_rfl
theorem m_math_bits_RotateLeft32 (C : Ctx) (hC : CtxOK C Go.Proofs.Tryd.prog) : Meets C.glob Go.Proofs.Tryd.prog 48 (afun C 2 r_math_bits_RotateLeft32 a_math_bits_RotateLeft32) :=
  fn_sound hC Go.Proofs.Tryd.func48 c_math_bits_RotateLeft32 s_math_bits_RotateLeft32 (Nat.le_of_ble_eq_true (by kernel_rfl))

/-- curtilage/sha.word -/
def a_sha_word : ACode :=
 (.seq
  (.region false [⟨(some 2), (.mv (.const (u32 0#32))), none⟩])
  (.seq
   (.region true [⟨(some 3), (.mv (.tmp 0)), none⟩,
    ⟨(some 4), (.iaddrs L8 (.tmp 3) (.const (it 0))), none⟩,
    ⟨(some 5), (.load L8 (.tmp 4)), none⟩,
    ⟨(some 6), (.conv .u32 (.tmp 5)), none⟩,
    ⟨(some 7), (.bin .shl (.tmp 6) (.const (u64 24#64))), none⟩,
    ⟨(some 8), (.mv (.tmp 0)), none⟩,
    ⟨(some 9), (.iaddrs L8 (.tmp 8) (.const (it 1))), none⟩,
    ⟨(some 10), (.load L8 (.tmp 9)), none⟩,
    ⟨(some 11), (.conv .u32 (.tmp 10)), none⟩,
    ⟨(some 12), (.bin .shl (.tmp 11) (.const (u64 16#64))), none⟩,
    ⟨(some 13), (.bin .or (.tmp 7) (.tmp 12)), none⟩,
    ⟨(some 14), (.mv (.tmp 0)), none⟩,
    ⟨(some 15), (.iaddrs L8 (.tmp 14) (.const (it 2))), none⟩,
    ⟨(some 16), (.load L8 (.tmp 15)), none⟩,
    ⟨(some 17), (.conv .u32 (.tmp 16)), none⟩,
    ⟨(some 18), (.bin .shl (.tmp 17) (.const (u64 8#64))), none⟩,
    ⟨(some 19), (.bin .or (.tmp 13) (.tmp 18)), none⟩,
    ⟨(some 20), (.mv (.tmp 0)), none⟩,
    ⟨(some 21), (.iaddrs L8 (.tmp 20) (.const (it 3))), none⟩,
    ⟨(some 22), (.load L8 (.tmp 21)), none⟩,
    ⟨(some 23), (.conv .u32 (.tmp 22)), none⟩,
    ⟨(some 24), (.bin .or (.tmp 19) (.tmp 23)), none⟩,
    ⟨(some 2), (.mv (.tmp 24)), none⟩])
   .ret))
def r_sha_word : List ARes := [(.tmp 2)]
theorem c_sha_word : o2 Go.Proofs.Tryd.f49.body (comp Go.Proofs.Tryd.prog Go.Proofs.Tryd.f49.ntmps) = some a_sha_word := by kernel_rfl
theorem s_sha_word : cRess Go.Proofs.Tryd.prog Go.Proofs.Tryd.f49.results.toList = some r_sha_word := by kernel_rfl
theorem m_sha_word (C : Ctx) (hC : CtxOK C Go.Proofs.Tryd.prog) : Meets C.glob Go.Proofs.Tryd.prog 49 (afun C 1 r_sha_word a_sha_word) :=
  fn_sound hC Go.Proofs.Tryd.func49 c_sha_word s_sha_word (Nat.le_of_ble_eq_true (by kernel_rfl))

/-- gosem.cut.vars -/
def a_gosem_cut_vars : ACode :=
 (.seq
  (.region false [⟨(some 0), (.build (.ar 8 L32) (List.replicate 8 (.raw (u32 0#32))) [(0, (.const (u32 1779033703#32))), (1, (.const (u32 3144134277#32))), (2, (.const (u32 1013904242#32))), (3, (.const (u32 2773480762#32))), (4, (.const (u32 1359893119#32))), (5, (.const (u32 2600822924#32))), (6, (.const (u32 528734635#32))), (7, (.const (u32 1541459225#32)))]), none⟩,
   ⟨none, (.store (.ar 8 L32) (.glob 0) (.tmp 0)), none⟩])
  (.region false [⟨(some 1), (.build (.ar 64 L32) (List.replicate 64 (.raw (u32 0#32))) [(0, (.const (u32 1116352408#32))), (1, (.const (u32 1899447441#32))), (2, (.const (u32 3049323471#32))), (3, (.const (u32 3921009573#32))), (4, (.const (u32 961987163#32))), (5, (.const (u32 1508970993#32))), (6, (.const (u32 2453635748#32))), (7, (.const (u32 2870763221#32))), (8, (.const (u32 3624381080#32))), (9, (.const (u32 310598401#32))), (10, (.const (u32 607225278#32))), (11, (.const (u32 1426881987#32))), (12, (.const (u32 1925078388#32))), (13, (.const (u32 2162078206#32))), (14, (.const (u32 2614888103#32))), (15, (.const (u32 3248222580#32))), (16, (.const (u32 3835390401#32))), (17, (.const (u32 4022224774#32))), (18, (.const (u32 264347078#32))), (19, (.const (u32 604807628#32))), (20, (.const (u32 770255983#32))), (21, (.const (u32 1249150122#32))), (22, (.const (u32 1555081692#32))), (23, (.const (u32 1996064986#32))), (24, (.const (u32 2554220882#32))), (25, (.const (u32 2821834349#32))), (26, (.const (u32 2952996808#32))), (27, (.const (u32 3210313671#32))), (28, (.const (u32 3336571891#32))), (29, (.const (u32 3584528711#32))), (30, (.const (u32 113926993#32))), (31, (.const (u32 338241895#32))), (32, (.const (u32 666307205#32))), (33, (.const (u32 773529912#32))), (34, (.const (u32 1294757372#32))), (35, (.const (u32 1396182291#32))), (36, (.const (u32 1695183700#32))), (37, (.const (u32 1986661051#32))), (38, (.const (u32 2177026350#32))), (39, (.const (u32 2456956037#32))), (40, (.const (u32 2730485921#32))), (41, (.const (u32 2820302411#32))), (42, (.const (u32 3259730800#32))), (43, (.const (u32 3345764771#32))), (44, (.const (u32 3516065817#32))), (45, (.const (u32 3600352804#32))), (46, (.const (u32 4094571909#32))), (47, (.const (u32 275423344#32))), (48, (.const (u32 430227734#32))), (49, (.const (u32 506948616#32))), (50, (.const (u32 659060556#32))), (51, (.const (u32 883997877#32))), (52, (.const (u32 958139571#32))), (53, (.const (u32 1322822218#32))), (54, (.const (u32 1537002063#32))), (55, (.const (u32 1747873779#32))), (56, (.const (u32 1955562222#32))), (57, (.const (u32 2024104815#32))), (58, (.const (u32 2227730452#32))), (59, (.const (u32 2361852424#32))), (60, (.const (u32 2428436474#32))), (61, (.const (u32 2756734187#32))), (62, (.const (u32 3204031479#32))), (63, (.const (u32 3329325298#32)))]), none⟩,
   ⟨none, (.store (.ar 64 L32) (.glob 1) (.tmp 1)), none⟩]))
def r_gosem_cut_vars : List ARes := []
theorem c_gosem_cut_vars : o2 Go.Proofs.Tryd.f72.body (comp Go.Proofs.Tryd.prog Go.Proofs.Tryd.f72.ntmps) = some a_gosem_cut_vars := by kernel_rfl
theorem s_gosem_cut_vars : cRess Go.Proofs.Tryd.prog Go.Proofs.Tryd.f72.results.toList = some r_gosem_cut_vars := by kernel_rfl
theorem m_gosem_cut_vars (C : Ctx) (hC : CtxOK C Go.Proofs.Tryd.prog) : Meets C.glob Go.Proofs.Tryd.prog 72 (afun C 0 r_gosem_cut_vars a_gosem_cut_vars) :=
  fn_sound hC Go.Proofs.Tryd.func72 c_gosem_cut_vars s_gosem_cut_vars (Nat.le_of_ble_eq_true (by kernel_rfl))

end Go.Am.F
