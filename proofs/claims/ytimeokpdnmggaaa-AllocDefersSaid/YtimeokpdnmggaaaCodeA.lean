/- The evaluator's code of the functions that are reached (printed by a program of ours, gen.py, off our own compiler), and the facts that it is so. -/
import Derived.Test.YtimeokpdnmggaaaChecked
import Derived.Test.YtimeokpdnmggaaaEwA
import Derived.Test.YtimeokpdnmggaaaEvV
import Derived.KernelRfl
set_option linter.unusedVariables false
set_option maxRecDepth 20000
namespace Go.Ev
open Go Go.Proofs

def pol : Pol := fun f => (!([16, 32, 37, 38, 39, 40, 41] : List Nat).contains f, match f with | 10 => [(6, [3])] | _ => [])
noncomputable def tab : FuncId → Option AFn := tabOf Try.prog pol
/-- downspout/downspoutlaw25.AllocMatchesReference -/
def A3 : AFn where
  isPure := true
  ntmps := 135
  res := [(4, none)]
  body := (.seq (.reg [⟨(some 2), .box, [.tmp 0], none⟩,
        ⟨(some 3), .box, [.tmp 1], none⟩,
        ⟨(some 4), .mv, [.const (.bool false)], none⟩])
    (.seq (.reg [⟨(some 20), .call, [.func 9], none⟩,
         ⟨(some 5), .mv, [.tmp 20], none⟩])
     (.seq (.reg [⟨(some 21), .load true 4, [.tmp 2], none⟩,
          ⟨(some 22), .call, [.func 10, .tmp 21], none⟩,
          ⟨(some 6), .new [.sl true 0 (some 0) [], .sl true 0 (some 0) [], .lit (.int .i64 0)], [], none⟩,
          ⟨none, .store 3, [.tmp 6, .tmp 22], none⟩])
      (.seq (.reg [⟨(some 24), .load true 3, [.tmp 6], none⟩,
           ⟨(some 25), .iaddr (some 2) 1, [.tmp 3, .const (.int .i64 0)], none⟩,
           ⟨(some 26), .load false 1, [.tmp 25], none⟩,
           ⟨(some 27), .conv .i64, [.tmp 26], none⟩,
           ⟨(some 28), .call, [.func 11, .tmp 24, .tmp 27], none⟩,
           ⟨(some 23), .mv, [.tmp 28], none⟩,
           ⟨(some 29), .ext 0, [.tmp 23], none⟩,
           ⟨(some 30), .ext 1, [.tmp 23], none⟩,
           ⟨(some 7), .new [.sl true 0 (some 0) [], .sl true 0 (some 0) [], .lit (.int .i64 0)], [], none⟩,
           ⟨none, .store 3, [.tmp 7, .tmp 29], none⟩,
           ⟨(some 8), .mv, [.tmp 30], none⟩])
       (.seq (.reg [⟨(some 32), .load true 3, [.tmp 6], none⟩,
            ⟨(some 33), .iaddr (some 2) 1, [.tmp 3, .const (.int .i64 0)], none⟩,
            ⟨(some 34), .load false 1, [.tmp 33], none⟩,
            ⟨(some 35), .conv .i64, [.tmp 34], none⟩,
            ⟨(some 36), .call, [.func 12, .tmp 32, .tmp 35], none⟩,
            ⟨(some 31), .mv, [.tmp 36], none⟩,
            ⟨(some 37), .ext 0, [.tmp 31], none⟩,
            ⟨(some 38), .ext 1, [.tmp 31], none⟩,
            ⟨(some 9), .new [.sl true 0 (some 0) [], .sl true 0 (some 0) [], .lit (.int .i64 0)], [], none⟩,
            ⟨none, .store 3, [.tmp 9, .tmp 37], none⟩,
            ⟨(some 10), .mv, [.tmp 38], none⟩])
        (.seq (.reg [⟨(some 40), .load true 3, [.tmp 6], none⟩,
             ⟨(some 41), .iaddr (some 2) 1, [.tmp 3, .const (.int .i64 1)], none⟩,
             ⟨(some 42), .load false 1, [.tmp 41], none⟩,
             ⟨(some 43), .conv .i64, [.tmp 42], none⟩,
             ⟨(some 44), .call, [.func 13, .tmp 40, .tmp 43], none⟩,
             ⟨(some 39), .mv, [.tmp 44], none⟩,
             ⟨(some 45), .ext 0, [.tmp 39], none⟩,
             ⟨(some 46), .ext 1, [.tmp 39], none⟩,
             ⟨(some 11), .new [.sl true 0 (some 0) [], .sl true 0 (some 0) [], .lit (.int .i64 0)], [], none⟩,
             ⟨none, .store 3, [.tmp 11, .tmp 45], none⟩,
             ⟨(some 12), .mv, [.tmp 46], none⟩])
         (.seq (.reg [⟨(some 48), .load true 3, [.tmp 6], none⟩,
              ⟨(some 49), .iaddr (some 2) 1, [.tmp 3, .const (.int .i64 1)], none⟩,
              ⟨(some 50), .load false 1, [.tmp 49], none⟩,
              ⟨(some 51), .conv .i64, [.tmp 50], none⟩,
              ⟨(some 52), .call, [.func 14, .tmp 48, .tmp 51], none⟩,
              ⟨(some 47), .mv, [.tmp 52], none⟩,
              ⟨(some 53), .ext 0, [.tmp 47], none⟩,
              ⟨(some 54), .ext 1, [.tmp 47], none⟩,
              ⟨(some 13), .new [.sl true 0 (some 0) [], .sl true 0 (some 0) [], .lit (.int .i64 0)], [], none⟩,
              ⟨none, .store 3, [.tmp 13, .tmp 53], none⟩,
              ⟨(some 14), .mv, [.tmp 54], none⟩])
          (.seq (.reg [⟨(some 56), .iaddr (some 2) 1, [.tmp 3, .const (.int .i64 0)], none⟩,
               ⟨(some 57), .load false 1, [.tmp 56], none⟩,
               ⟨(some 58), .conv .i64, [.tmp 57], none⟩,
               ⟨(some 59), .iaddr (some 2) 1, [.tmp 3, .const (.int .i64 1)], none⟩,
               ⟨(some 60), .load false 1, [.tmp 59], none⟩,
               ⟨(some 61), .conv .i64, [.tmp 60], none⟩,
               ⟨(some 62), .call, [.func 15, .tmp 58, .tmp 61], none⟩,
               ⟨(some 55), .mv, [.tmp 62], none⟩,
               ⟨(some 63), .ext 0, [.tmp 55], none⟩,
               ⟨(some 64), .ext 1, [.tmp 55], none⟩,
               ⟨(some 15), .new [.sl true 0 (some 0) [], .sl true 0 (some 0) [], .lit (.int .i64 0)], [], none⟩,
               ⟨none, .store 3, [.tmp 15, .tmp 63], none⟩,
               ⟨(some 16), .mv, [.tmp 64], none⟩])
           (.seq (.reg [⟨(some 66), .iaddr (some 2) 1, [.tmp 3, .const (.int .i64 0)], none⟩,
                ⟨(some 67), .load false 1, [.tmp 66], none⟩,
                ⟨(some 68), .conv .i64, [.tmp 67], none⟩,
                ⟨(some 69), .iaddr (some 2) 1, [.tmp 3, .const (.int .i64 1)], none⟩,
                ⟨(some 70), .load false 1, [.tmp 69], none⟩,
                ⟨(some 71), .conv .i64, [.tmp 70], none⟩,
                ⟨(some 72), .call, [.func 16, .tmp 68, .tmp 71], none⟩,
                ⟨(some 65), .mv, [.tmp 72], none⟩,
                ⟨(some 73), .ext 0, [.tmp 65], none⟩,
                ⟨(some 74), .ext 1, [.tmp 65], none⟩,
                ⟨(some 17), .new [.sl true 0 (some 0) [], .sl true 0 (some 0) [], .lit (.int .i64 0)], [], none⟩,
                ⟨none, .store 3, [.tmp 17, .tmp 73], none⟩,
                ⟨(some 18), .mv, [.tmp 74], none⟩])
            (.seq (.reg [⟨(some 75), .load true 3, [.tmp 7], none⟩,
                 ⟨(some 76), .load true 3, [.tmp 9], none⟩,
                 ⟨(some 77), .call, [.func 17, .tmp 75, .tmp 76], none⟩,
                 ⟨(some 78), .mv, [.tmp 77], none⟩,
                 ⟨(some 79), .mv, [.tmp 8], (some (78, true))⟩,
                 ⟨(some 80), .mv, [.tmp 10], (some (78, true))⟩,
                 ⟨(some 81), .bin .eql, [.tmp 79, .tmp 80], (some (78, true))⟩,
                 ⟨(some 82), .pick, [.tmp 78, .tmp 81, .const (.bool false)], none⟩,
                 ⟨(some 83), .mv, [.tmp 82], none⟩,
                 ⟨(some 84), .load true 3, [.tmp 11], (some (83, true))⟩,
                 ⟨(some 85), .load true 3, [.tmp 13], (some (83, true))⟩,
                 ⟨(some 86), .call, [.func 17, .tmp 84, .tmp 85], (some (83, true))⟩,
                 ⟨(some 87), .pick, [.tmp 83, .tmp 86, .const (.bool false)], none⟩,
                 ⟨(some 88), .mv, [.tmp 87], none⟩,
                 ⟨(some 89), .mv, [.tmp 12], (some (88, true))⟩,
                 ⟨(some 90), .mv, [.tmp 14], (some (88, true))⟩,
                 ⟨(some 91), .bin .eql, [.tmp 89, .tmp 90], (some (88, true))⟩,
                 ⟨(some 92), .pick, [.tmp 88, .tmp 91, .const (.bool false)], none⟩,
                 ⟨(some 93), .mv, [.tmp 92], none⟩,
                 ⟨(some 94), .load true 3, [.tmp 15], (some (93, true))⟩,
                 ⟨(some 95), .load true 3, [.tmp 17], (some (93, true))⟩,
                 ⟨(some 96), .call, [.func 17, .tmp 94, .tmp 95], (some (93, true))⟩,
                 ⟨(some 97), .pick, [.tmp 93, .tmp 96, .const (.bool false)], none⟩,
                 ⟨(some 98), .mv, [.tmp 97], none⟩,
                 ⟨(some 99), .mv, [.tmp 16], (some (98, true))⟩,
                 ⟨(some 100), .mv, [.tmp 18], (some (98, true))⟩,
                 ⟨(some 101), .bin .eql, [.tmp 99, .tmp 100], (some (98, true))⟩,
                 ⟨(some 102), .pick, [.tmp 98, .tmp 101, .const (.bool false)], none⟩,
                 ⟨(some 19), .mv, [.tmp 102], none⟩])
             (.seq (.dreg [⟨⟨(some 103), .mv, [.tmp 19], none⟩, [], none⟩,
                  ⟨⟨(some 104), .mv, [.tmp 103], none⟩, [], none⟩,
                  ⟨⟨(some 105), .load true 3, [.tmp 6], (some (104, true))⟩, [], none⟩,
                  ⟨⟨(some 106), .call, [.func 19, .tmp 105], (some (104, true))⟩, [], none⟩,
                  ⟨⟨(some 107), .load true 3, [.tmp 6], (some (104, true))⟩, [], none⟩,
                  ⟨⟨(some 108), .call, [.func 20, .tmp 107], (some (104, true))⟩, [], none⟩,
                  ⟨⟨(some 109), .call, [.func 18, .tmp 106, .tmp 108], (some (104, true))⟩, [], none⟩,
                  ⟨⟨(some 110), .pick, [.tmp 104, .tmp 109, .const (.bool false)], none⟩, [], none⟩,
                  ⟨⟨(some 111), .mv, [.tmp 110], none⟩, [], none⟩,
                  ⟨⟨(some 112), .load true 3, [.tmp 6], (some (111, true))⟩, [], none⟩,
                  ⟨⟨(some 113), .call, [.func 21, .tmp 112], (some (111, true))⟩, [], none⟩,
                  ⟨⟨(some 114), .load true 3, [.tmp 6], (some (111, true))⟩, [], none⟩,
                  ⟨⟨(some 115), .call, [.func 22, .tmp 114], (some (111, true))⟩, [], none⟩,
                  ⟨⟨(some 116), .call, [.func 18, .tmp 113, .tmp 115], (some (111, true))⟩, [], none⟩,
                  ⟨⟨(some 117), .pick, [.tmp 111, .tmp 116, .const (.bool false)], none⟩, [], none⟩,
                  ⟨⟨(some 118), .mv, [.tmp 117], none⟩, [], none⟩,
                  ⟨⟨(some 119), .load true 3, [.tmp 6], (some (118, true))⟩, [], none⟩,
                  ⟨⟨(some 120), .call, [.func 23, .tmp 119], (some (118, true))⟩, [], none⟩,
                  ⟨⟨(some 121), .load true 3, [.tmp 6], (some (118, true))⟩, [], none⟩,
                  ⟨⟨(some 122), .call, [.func 24, .tmp 121], (some (118, true))⟩, [], none⟩,
                  ⟨⟨(some 123), .call, [.func 17, .tmp 120, .tmp 122], (some (118, true))⟩, [], none⟩,
                  ⟨⟨(some 124), .pick, [.tmp 118, .tmp 123, .const (.bool false)], none⟩, [], none⟩,
                  ⟨⟨(some 125), .mv, [.tmp 124], none⟩, [], none⟩,
                  ⟨⟨(some 126), .load true 3, [.tmp 6], (some (125, true))⟩, [], none⟩,
                  ⟨⟨(some 127), .call, [.func 25, .tmp 126], (some (125, true))⟩, [], none⟩,
                  ⟨⟨(some 128), .load true 3, [.tmp 6], (some (125, true))⟩, [], none⟩,
                  ⟨⟨(some 129), .call, [.func 26, .tmp 128], (some (125, true))⟩, [], none⟩,
                  ⟨⟨(some 130), .bin .eql, [.tmp 127, .tmp 129], (some (125, true))⟩, [], none⟩,
                  ⟨⟨(some 131), .pick, [.tmp 125, .tmp 130, .const (.bool false)], none⟩, [], none⟩,
                  ⟨⟨(some 132), .mv, [.tmp 131], none⟩, [], none⟩,
                  ⟨⟨(some 133), .mv, [.tmp 5], (some (132, true))⟩, [], none⟩,
                  ⟨⟨(some 134), .pick, [.tmp 132, .tmp 133, .const (.bool false)], none⟩, [], none⟩,
                  ⟨⟨(some 4), .mv, [.tmp 134], none⟩, [], none⟩])
              .ret)))))))))))

theorem tab3 : tab 3 = some A3 := by unfold tab; kernel_rfl

/-- downspout/downspoutlaw25.AllocKeeps -/
def A4 : AFn where
  isPure := true
  ntmps := 57
  res := [(4, none)]
  body := (.seq (.reg [⟨(some 2), .box, [.tmp 0], none⟩,
        ⟨(some 4), .mv, [.const (.bool false)], none⟩])
    (.seq (.reg [⟨(some 9), .call, [.func 9], none⟩,
         ⟨(some 5), .mv, [.tmp 9], none⟩])
     (.seq (.reg [⟨(some 10), .load true 4, [.tmp 2], none⟩,
          ⟨(some 11), .call, [.func 10, .tmp 10], none⟩,
          ⟨(some 6), .new [.sl true 0 (some 0) [], .sl true 0 (some 0) [], .lit (.int .i64 0)], [], none⟩,
          ⟨none, .store 3, [.tmp 6, .tmp 11], none⟩])
      (.seq (.seq (.reg [⟨(some 7), .mv, [.const (.int .i64 0)], none⟩])
        (.block 0 (.loop (.seq (.seq (.reg [⟨(some 12), .mv, [.tmp 7], none⟩,
                ⟨(some 13), .mv, [.tmp 1], none⟩,
                ⟨(some 14), .len false, [.tmp 13], none⟩,
                ⟨(some 15), .bin .lss, [.tmp 12, .tmp 14], none⟩,
                ⟨(some 16), .mv, [.tmp 15], none⟩,
                ⟨(some 17), .mv, [.tmp 7], (some (16, true))⟩,
                ⟨(some 18), .bin .lss, [.tmp 17, .const (.int .i64 20)], (some (16, true))⟩,
                ⟨(some 19), .pick, [.tmp 16, .tmp 18, .const (.bool false)], none⟩])
            (.cond (.tmp 19)
             .skip
             (.exit 0)))
           (.seq (.block 1 (.seq (.dreg [⟨⟨(some 22), .load true 3, [.tmp 6], none⟩, [6], none⟩,
                  ⟨⟨(some 23), .mv, [.tmp 1], none⟩, [6], none⟩,
                  ⟨⟨(some 24), .mv, [.tmp 7], none⟩, [6], none⟩,
                  ⟨⟨(some 25), .iaddr none 2, [.tmp 23, .tmp 24], none⟩, [6], none⟩,
                  ⟨⟨(some 26), .load true 2, [.tmp 25], none⟩, [6], none⟩,
                  ⟨⟨(some 27), .call, [.func 27, .tmp 22, .tmp 26], none⟩, [6], none⟩,
                  ⟨⟨(some 8), .new [.sl true 0 (some 0) [], .sl true 0 (some 0) [], .lit (.int .i64 0)], [], none⟩, [], none⟩,
                  ⟨⟨none, .store 3, [.tmp 8, .tmp 27], none⟩, [], none⟩])
              (.seq (.seq (.dreg [⟨⟨(some 28), .load true 3, [.tmp 8], none⟩, [], none⟩,
                    ⟨⟨(some 29), .call, [.func 28, .tmp 28], none⟩, [], none⟩,
                    ⟨⟨(some 30), .un .not, [.tmp 29], none⟩, [], none⟩,
                    ⟨⟨(some 31), .mv, [.tmp 30], none⟩, [], none⟩,
                    ⟨⟨(some 32), .faddr 0, [.tmp 8], (some (31, false))⟩, [], none⟩,
                    ⟨⟨(some 33), .load false 1, [.tmp 32], (some (31, false))⟩, [], none⟩,
                    ⟨⟨(some 34), .len false, [.tmp 33], (some (31, false))⟩, [], none⟩,
                    ⟨⟨(some 35), .faddr 0, [.tmp 6], (some (31, false))⟩, [], none⟩,
                    ⟨⟨(some 36), .load false 1, [.tmp 35], (some (31, false))⟩, [], none⟩,
                    ⟨⟨(some 37), .len false, [.tmp 36], (some (31, false))⟩, [], none⟩,
                    ⟨⟨(some 38), .bin .neq, [.tmp 34, .tmp 37], (some (31, false))⟩, [], none⟩,
                    ⟨⟨(some 39), .pick, [.tmp 31, .const (.bool true), .tmp 38], none⟩, [], none⟩,
                    ⟨⟨(some 40), .mv, [.tmp 39], none⟩, [], none⟩,
                    ⟨⟨(some 41), .load true 3, [.tmp 8], (some (40, false))⟩, [], none⟩,
                    ⟨⟨(some 42), .call, [.func 25, .tmp 41], (some (40, false))⟩, [], none⟩,
                    ⟨⟨(some 43), .faddr 2, [.tmp 8], (some (40, false))⟩, [], none⟩,
                    ⟨⟨(some 44), .load false 1, [.tmp 43], (some (40, false))⟩, [], none⟩,
                    ⟨⟨(some 45), .bin .add, [.tmp 42, .tmp 44], (some (40, false))⟩, [], none⟩,
                    ⟨⟨(some 46), .load true 3, [.tmp 8], (some (40, false))⟩, [], none⟩,
                    ⟨⟨(some 47), .call, [.func 29, .tmp 46], (some (40, false))⟩, [], none⟩,
                    ⟨⟨(some 48), .bin .neq, [.tmp 45, .tmp 47], (some (40, false))⟩, [], none⟩,
                    ⟨⟨(some 49), .pick, [.tmp 40, .const (.bool true), .tmp 48], none⟩, [], none⟩,
                    ⟨⟨(some 50), .mv, [.tmp 49], none⟩, [], none⟩,
                    ⟨⟨(some 51), .load true 3, [.tmp 8], (some (50, false))⟩, [], none⟩,
                    ⟨⟨(some 52), .call, [.func 25, .tmp 51], (some (50, false))⟩, [], none⟩,
                    ⟨⟨(some 53), .bin .lss, [.tmp 52, .const (.int .i64 0)], (some (50, false))⟩, [], none⟩,
                    ⟨⟨(some 54), .pick, [.tmp 50, .const (.bool true), .tmp 53], none⟩, [], none⟩])
                (.cond (.tmp 54)
                 (.seq (.reg [⟨(some 4), .mv, [.const (.bool false)], none⟩])
                  .ret)
                 .skip))
               (.reg [⟨(some 55), .load true 3, [.tmp 8], none⟩,
                   ⟨none, .store 3, [.tmp 6, .tmp 55], none⟩]))))
            (.reg [⟨(some 20), .mv, [.tmp 7], none⟩,
                ⟨(some 21), .bin .add, [.tmp 20, .const (.int .i64 1)], none⟩,
                ⟨(some 7), .mv, [.tmp 21], none⟩]))))))
       (.seq (.reg [⟨(some 56), .mv, [.tmp 5], none⟩,
            ⟨(some 4), .mv, [.tmp 56], none⟩])
        .ret)))))

theorem tab4 : tab 4 = some A4 := by unfold tab; kernel_rfl

/-- downspout/downspoutlaw25.AllocTakes -/
def A5 : AFn where
  isPure := true
  ntmps := 134
  res := [(2, none)]
  body := (.seq (.reg [⟨(some 1), .box, [.tmp 0], none⟩,
        ⟨(some 2), .mv, [.const (.bool false)], none⟩])
    (.seq (.reg [⟨(some 10), .call, [.func 9], none⟩,
         ⟨(some 3), .mv, [.tmp 10], none⟩])
     (.seq (.reg [⟨(some 11), .load true 4, [.tmp 1], none⟩,
          ⟨(some 12), .call, [.func 10, .tmp 11], none⟩,
          ⟨(some 4), .new [.sl true 0 (some 0) [], .sl true 0 (some 0) [], .lit (.int .i64 0)], [], none⟩,
          ⟨none, .store 3, [.tmp 4, .tmp 12], none⟩])
      (.seq (.reg [⟨(some 13), .load true 3, [.tmp 4], none⟩,
           ⟨(some 14), .call, [.func 25, .tmp 13], none⟩,
           ⟨(some 5), .mv, [.tmp 14], none⟩])
       (.seq (.seq (.reg [⟨(some 6), .mv, [.const (.int .i64 0)], none⟩])
         (.block 0 (.loop (.seq (.seq (.reg [⟨(some 15), .mv, [.tmp 6], none⟩,
                 ⟨(some 16), .mv, [.tmp 5], none⟩,
                 ⟨(some 17), .bin .lss, [.tmp 15, .tmp 16], none⟩])
             (.cond (.tmp 17)
              .skip
              (.exit 0)))
            (.seq (.block 1 (.seq (.reg [⟨(some 20), .load true 3, [.tmp 4], none⟩,
                   ⟨(some 21), .call, [.func 19, .tmp 20], none⟩,
                   ⟨(some 7), .new [.sl true 0 (some 0) [], .sl true 0 (some 0) [], .lit (.int .i64 0), .lit (.int .i64 0), .lit (.int .i64 0)], [], none⟩,
                   ⟨none, .store 5, [.tmp 7, .tmp 21], none⟩])
               (.seq (.seq (.reg [⟨(some 22), .faddr 4, [.tmp 7], none⟩,
                     ⟨(some 23), .load false 1, [.tmp 22], none⟩,
                     ⟨(some 24), .bin .neq, [.tmp 23, .const (.int .i64 0)], none⟩,
                     ⟨(some 25), .mv, [.tmp 24], none⟩,
                     ⟨(some 26), .faddr 3, [.tmp 7], (some (25, false))⟩,
                     ⟨(some 27), .load false 1, [.tmp 26], (some (25, false))⟩,
                     ⟨(some 28), .bin .lss, [.tmp 27, .const (.int .i64 0)], (some (25, false))⟩,
                     ⟨(some 29), .pick, [.tmp 25, .const (.bool true), .tmp 28], none⟩,
                     ⟨(some 30), .mv, [.tmp 29], none⟩,
                     ⟨(some 31), .faddr 3, [.tmp 7], (some (30, false))⟩,
                     ⟨(some 32), .load false 1, [.tmp 31], (some (30, false))⟩,
                     ⟨(some 33), .faddr 0, [.tmp 4], (some (30, false))⟩,
                     ⟨(some 34), .load false 1, [.tmp 33], (some (30, false))⟩,
                     ⟨(some 35), .len false, [.tmp 34], (some (30, false))⟩,
                     ⟨(some 36), .bin .geq, [.tmp 32, .tmp 35], (some (30, false))⟩,
                     ⟨(some 37), .pick, [.tmp 30, .const (.bool true), .tmp 36], none⟩,
                     ⟨(some 38), .mv, [.tmp 37], none⟩,
                     ⟨(some 39), .faddr 0, [.tmp 4], (some (38, false))⟩,
                     ⟨(some 40), .load false 1, [.tmp 39], (some (38, false))⟩,
                     ⟨(some 41), .faddr 3, [.tmp 7], (some (38, false))⟩,
                     ⟨(some 42), .load false 1, [.tmp 41], (some (38, false))⟩,
                     ⟨(some 43), .iaddr none 1, [.tmp 40, .tmp 42], (some (38, false))⟩,
                     ⟨(some 44), .load false 1, [.tmp 43], (some (38, false))⟩,
                     ⟨(some 45), .pick, [.tmp 38, .const (.bool true), .tmp 44], none⟩,
                     ⟨(some 46), .mv, [.tmp 45], none⟩,
                     ⟨(some 47), .faddr 0, [.tmp 7], (some (46, false))⟩,
                     ⟨(some 48), .faddr 0, [.tmp 47], (some (46, false))⟩,
                     ⟨(some 49), .load false 1, [.tmp 48], (some (46, false))⟩,
                     ⟨(some 50), .len false, [.tmp 49], (some (46, false))⟩,
                     ⟨(some 51), .faddr 0, [.tmp 4], (some (46, false))⟩,
                     ⟨(some 52), .load false 1, [.tmp 51], (some (46, false))⟩,
                     ⟨(some 53), .len false, [.tmp 52], (some (46, false))⟩,
                     ⟨(some 54), .bin .neq, [.tmp 50, .tmp 53], (some (46, false))⟩,
                     ⟨(some 55), .pick, [.tmp 46, .const (.bool true), .tmp 54], none⟩,
                     ⟨(some 56), .mv, [.tmp 55], none⟩,
                     ⟨(some 57), .faddr 0, [.tmp 7], (some (56, false))⟩,
                     ⟨(some 58), .faddr 2, [.tmp 57], (some (56, false))⟩,
                     ⟨(some 59), .load false 1, [.tmp 58], (some (56, false))⟩,
                     ⟨(some 60), .faddr 2, [.tmp 4], (some (56, false))⟩,
                     ⟨(some 61), .load false 1, [.tmp 60], (some (56, false))⟩,
                     ⟨(some 62), .bin .neq, [.tmp 59, .tmp 61], (some (56, false))⟩,
                     ⟨(some 63), .pick, [.tmp 56, .const (.bool true), .tmp 62], none⟩,
                     ⟨(some 64), .mv, [.tmp 63], none⟩,
                     ⟨(some 65), .faddr 0, [.tmp 7], (some (64, false))⟩,
                     ⟨(some 66), .faddr 1, [.tmp 65], (some (64, false))⟩,
                     ⟨(some 67), .load false 1, [.tmp 66], (some (64, false))⟩,
                     ⟨(some 68), .len false, [.tmp 67], (some (64, false))⟩,
                     ⟨(some 69), .faddr 1, [.tmp 4], (some (64, false))⟩,
                     ⟨(some 70), .load false 1, [.tmp 69], (some (64, false))⟩,
                     ⟨(some 71), .len false, [.tmp 70], (some (64, false))⟩,
                     ⟨(some 72), .bin .neq, [.tmp 68, .tmp 71], (some (64, false))⟩,
                     ⟨(some 73), .pick, [.tmp 64, .const (.bool true), .tmp 72], none⟩])
                 (.cond (.tmp 73)
                  (.seq (.reg [⟨(some 2), .mv, [.const (.bool false)], none⟩])
                   .ret)
                  .skip))
                (.seq (.seq (.reg [⟨(some 8), .mv, [.const (.int .i64 0)], none⟩])
                  (.block 2 (.loop (.seq (.seq (.reg [⟨(some 74), .mv, [.tmp 8], none⟩,
                          ⟨(some 75), .faddr 0, [.tmp 4], none⟩,
                          ⟨(some 76), .load false 1, [.tmp 75], none⟩,
                          ⟨(some 77), .len false, [.tmp 76], none⟩,
                          ⟨(some 78), .bin .lss, [.tmp 74, .tmp 77], none⟩])
                      (.cond (.tmp 78)
                       .skip
                       (.exit 2)))
                     (.seq (.block 3 (.seq (.dreg [⟨⟨(some 81), .mv, [.tmp 8], none⟩, [], none⟩,
                            ⟨⟨(some 82), .faddr 3, [.tmp 7], none⟩, [], none⟩,
                            ⟨⟨(some 83), .load false 1, [.tmp 82], none⟩, [], none⟩,
                            ⟨⟨(some 84), .bin .lss, [.tmp 81, .tmp 83], none⟩, [], none⟩,
                            ⟨⟨(some 85), .mv, [.tmp 84], none⟩, [], none⟩,
                            ⟨⟨(some 86), .faddr 0, [.tmp 4], (some (85, true))⟩, [], none⟩,
                            ⟨⟨(some 87), .load false 1, [.tmp 86], (some (85, true))⟩, [], none⟩,
                            ⟨⟨(some 88), .mv, [.tmp 8], (some (85, true))⟩, [], none⟩,
                            ⟨⟨(some 89), .iaddr none 1, [.tmp 87, .tmp 88], (some (85, true))⟩, [], none⟩,
                            ⟨⟨(some 90), .load false 1, [.tmp 89], (some (85, true))⟩, [], none⟩,
                            ⟨⟨(some 91), .un .not, [.tmp 90], (some (85, true))⟩, [], none⟩,
                            ⟨⟨(some 92), .pick, [.tmp 85, .tmp 91, .const (.bool false)], none⟩, [], none⟩,
                            ⟨⟨(some 93), .mv, [.tmp 92], none⟩, [], none⟩,
                            ⟨⟨(some 94), .faddr 0, [.tmp 7], (some (93, false))⟩, [], none⟩,
                            ⟨⟨(some 95), .faddr 0, [.tmp 94], (some (93, false))⟩, [], none⟩,
                            ⟨⟨(some 96), .load false 1, [.tmp 95], (some (93, false))⟩, [], none⟩,
                            ⟨⟨(some 97), .mv, [.tmp 8], (some (93, false))⟩, [], none⟩,
                            ⟨⟨(some 98), .iaddr none 1, [.tmp 96, .tmp 97], (some (93, false))⟩, [], none⟩,
                            ⟨⟨(some 99), .load false 1, [.tmp 98], (some (93, false))⟩, [], none⟩,
                            ⟨⟨(some 100), .faddr 0, [.tmp 4], (some (93, false))⟩, [], none⟩,
                            ⟨⟨(some 101), .load false 1, [.tmp 100], (some (93, false))⟩, [], none⟩,
                            ⟨⟨(some 102), .mv, [.tmp 8], (some (93, false))⟩, [], none⟩,
                            ⟨⟨(some 103), .iaddr none 1, [.tmp 101, .tmp 102], (some (93, false))⟩, [], none⟩,
                            ⟨⟨(some 104), .load false 1, [.tmp 103], (some (93, false))⟩, [], none⟩,
                            ⟨⟨(some 105), .mv, [.tmp 104], (some (93, false))⟩, [], none⟩,
                            ⟨⟨(some 106), .mv, [.tmp 8], (some (105, false))⟩, [], none⟩,
                            ⟨⟨(some 107), .faddr 3, [.tmp 7], (some (105, false))⟩, [], none⟩,
                            ⟨⟨(some 108), .load false 1, [.tmp 107], (some (105, false))⟩, [], none⟩,
                            ⟨⟨(some 109), .bin .eql, [.tmp 106, .tmp 108], (some (105, false))⟩, [], none⟩,
                            ⟨⟨(some 110), .pick, [.tmp 105, .const (.bool true), .tmp 109], (some (93, false))⟩, [], none⟩,
                            ⟨⟨(some 111), .beq true, [.tmp 99, .tmp 110], (some (93, false))⟩, [], none⟩,
                            ⟨⟨(some 112), .pick, [.tmp 93, .const (.bool true), .tmp 111], none⟩, [], none⟩])
                        (.cond (.tmp 112)
                         (.seq (.reg [⟨(some 2), .mv, [.const (.bool false)], none⟩])
                          .ret)
                         .skip)))
                      (.reg [⟨(some 79), .mv, [.tmp 8], none⟩,
                          ⟨(some 80), .bin .add, [.tmp 79, .const (.int .i64 1)], none⟩,
                          ⟨(some 8), .mv, [.tmp 80], none⟩]))))))
                 (.reg [⟨(some 113), .faddr 0, [.tmp 7], none⟩,
                     ⟨(some 114), .load true 3, [.tmp 113], none⟩,
                     ⟨none, .store 3, [.tmp 4, .tmp 114], none⟩])))))
             (.reg [⟨(some 18), .mv, [.tmp 6], none⟩,
                 ⟨(some 19), .bin .add, [.tmp 18, .const (.int .i64 1)], none⟩,
                 ⟨(some 6), .mv, [.tmp 19], none⟩]))))))
        (.seq (.reg [⟨(some 115), .load true 3, [.tmp 4], none⟩,
             ⟨(some 116), .call, [.func 19, .tmp 115], none⟩,
             ⟨(some 9), .new [.sl true 0 (some 0) [], .sl true 0 (some 0) [], .lit (.int .i64 0), .lit (.int .i64 0), .lit (.int .i64 0)], [], none⟩,
             ⟨none, .store 5, [.tmp 9, .tmp 116], none⟩])
         (.seq (.reg [⟨(some 117), .faddr 4, [.tmp 9], none⟩,
              ⟨(some 118), .load false 1, [.tmp 117], none⟩,
              ⟨(some 119), .bin .eql, [.tmp 118, .const (.int .i64 250)], none⟩,
              ⟨(some 120), .mv, [.tmp 119], none⟩,
              ⟨(some 121), .faddr 0, [.tmp 9], (some (120, true))⟩,
              ⟨(some 122), .load true 3, [.tmp 121], (some (120, true))⟩,
              ⟨(some 123), .load true 3, [.tmp 4], (some (120, true))⟩,
              ⟨(some 124), .call, [.func 17, .tmp 122, .tmp 123], (some (120, true))⟩,
              ⟨(some 125), .pick, [.tmp 120, .tmp 124, .const (.bool false)], none⟩,
              ⟨(some 126), .mv, [.tmp 125], none⟩,
              ⟨(some 127), .faddr 3, [.tmp 9], (some (126, true))⟩,
              ⟨(some 128), .load false 1, [.tmp 127], (some (126, true))⟩,
              ⟨(some 129), .bin .eql, [.tmp 128, .const (.int .i64 0)], (some (126, true))⟩,
              ⟨(some 130), .pick, [.tmp 126, .tmp 129, .const (.bool false)], none⟩,
              ⟨(some 131), .mv, [.tmp 130], none⟩,
              ⟨(some 132), .mv, [.tmp 3], (some (131, true))⟩,
              ⟨(some 133), .pick, [.tmp 131, .tmp 132, .const (.bool false)], none⟩,
              ⟨(some 2), .mv, [.tmp 133], none⟩])
          .ret)))))))

theorem tab5 : tab 5 = some A5 := by unfold tab; kernel_rfl

/-- downspout/downspoutlaw25.AllocDefers -/
def A6 : AFn where
  isPure := true
  ntmps := 167
  res := [(4, none)]
  body := (.seq (.reg [⟨(some 2), .box, [.tmp 0], none⟩,
        ⟨(some 4), .mv, [.const (.bool false)], none⟩])
    (.seq (.reg [⟨(some 18), .call, [.func 9], none⟩,
         ⟨(some 5), .mv, [.tmp 18], none⟩])
     (.seq (.reg [⟨(some 19), .load true 4, [.tmp 2], none⟩,
          ⟨(some 20), .call, [.func 10, .tmp 19], none⟩,
          ⟨(some 6), .new [.sl true 0 (some 0) [], .sl true 0 (some 0) [], .lit (.int .i64 0)], [], none⟩,
          ⟨none, .store 3, [.tmp 6, .tmp 20], none⟩])
      (.seq (.reg [⟨(some 21), .faddr 1, [.tmp 6], none⟩,
           ⟨none, .store 1, [.tmp 21, .const (.slice none 0 0)], none⟩])
       (.seq (.dreg [⟨⟨(some 22), .load true 3, [.tmp 6], none⟩, [2, 3], none⟩,
            ⟨⟨(some 23), .load true 3, [.tmp 6], none⟩, [2, 3], none⟩,
            ⟨⟨(some 7), .new [.sl true 0 (some 0) [], .sl true 0 (some 0) [], .lit (.int .i64 0)], [], none⟩, [3], none⟩,
            ⟨⟨(some 8), .new [.sl true 0 (some 0) [], .sl true 0 (some 0) [], .lit (.int .i64 0)], [], none⟩, [2], none⟩,
            ⟨⟨none, .store 3, [.tmp 7, .tmp 22], none⟩, [], (some [2, 3])⟩,
            ⟨⟨none, .store 3, [.tmp 8, .tmp 23], none⟩, [], none⟩])
        (.seq (.seq (.reg [⟨(some 9), .mv, [.const (.int .i64 0)], none⟩])
          (.block 0 (.loop (.seq (.seq (.reg [⟨(some 24), .mv, [.tmp 9], none⟩,
                  ⟨(some 25), .mv, [.tmp 1], none⟩,
                  ⟨(some 26), .len false, [.tmp 25], none⟩,
                  ⟨(some 27), .bin .lss, [.tmp 24, .tmp 26], none⟩,
                  ⟨(some 28), .mv, [.tmp 27], none⟩,
                  ⟨(some 29), .mv, [.tmp 9], (some (28, true))⟩,
                  ⟨(some 30), .bin .lss, [.tmp 29, .const (.int .i64 16)], (some (28, true))⟩,
                  ⟨(some 31), .pick, [.tmp 28, .tmp 30, .const (.bool false)], none⟩])
              (.cond (.tmp 31)
               .skip
               (.exit 0)))
             (.seq (.block 1 (.seq (.dreg [⟨⟨(some 35), .load true 3, [.tmp 7], none⟩, [11], none⟩,
                    ⟨⟨(some 36), .mv, [.tmp 1], none⟩, [11], none⟩,
                    ⟨⟨(some 37), .mv, [.tmp 9], none⟩, [11], none⟩,
                    ⟨⟨(some 38), .iaddr none 1, [.tmp 36, .tmp 37], none⟩, [11], none⟩,
                    ⟨⟨(some 39), .load false 1, [.tmp 38], none⟩, [11], none⟩,
                    ⟨⟨(some 40), .conv .i64, [.tmp 39], none⟩, [11], none⟩,
                    ⟨⟨(some 41), .bin .rem, [.tmp 40, .const (.int .i64 16)], none⟩, [11], none⟩,
                    ⟨⟨(some 42), .call, [.func 11, .tmp 35, .tmp 41], none⟩, [11], none⟩,
                    ⟨⟨(some 34), .mv, [.tmp 42], none⟩, [11], none⟩,
                    ⟨⟨(some 43), .ext 0, [.tmp 34], none⟩, [11], none⟩,
                    ⟨⟨(some 44), .ext 1, [.tmp 34], none⟩, [11], none⟩,
                    ⟨⟨(some 10), .new [.sl true 0 (some 0) [], .sl true 0 (some 0) [], .lit (.int .i64 0)], [], none⟩, [], none⟩,
                    ⟨⟨none, .store 3, [.tmp 10, .tmp 43], none⟩, [], none⟩,
                    ⟨⟨(some 11), .mv, [.tmp 44], none⟩, [], none⟩])
                (.seq (.reg [⟨(some 45), .mv, [.tmp 11], none⟩,
                     ⟨(some 46), .bin .eql, [.tmp 45, .const (.int .i64 0)], none⟩])
                 (.cond (.tmp 46)
                  (.reg [⟨(some 47), .load true 3, [.tmp 10], none⟩,
                      ⟨none, .store 3, [.tmp 7, .tmp 47], none⟩])
                  .skip))))
              (.reg [⟨(some 32), .mv, [.tmp 9], none⟩,
                  ⟨(some 33), .bin .add, [.tmp 32, .const (.int .i64 1)], none⟩,
                  ⟨(some 9), .mv, [.tmp 33], none⟩]))))))
         (.seq (.seq (.reg [⟨(some 48), .load true 3, [.tmp 7], none⟩,
               ⟨(some 49), .call, [.func 28, .tmp 48], none⟩,
               ⟨(some 50), .un .not, [.tmp 49], none⟩,
               ⟨(some 51), .mv, [.tmp 50], none⟩,
               ⟨(some 52), .faddr 0, [.tmp 7], (some (51, false))⟩,
               ⟨(some 53), .load false 1, [.tmp 52], (some (51, false))⟩,
               ⟨(some 54), .len false, [.tmp 53], (some (51, false))⟩,
               ⟨(some 55), .faddr 0, [.tmp 6], (some (51, false))⟩,
               ⟨(some 56), .load false 1, [.tmp 55], (some (51, false))⟩,
               ⟨(some 57), .len false, [.tmp 56], (some (51, false))⟩,
               ⟨(some 58), .bin .neq, [.tmp 54, .tmp 57], (some (51, false))⟩,
               ⟨(some 59), .pick, [.tmp 51, .const (.bool true), .tmp 58], none⟩])
           (.cond (.tmp 59)
            (.seq (.reg [⟨(some 4), .mv, [.const (.bool false)], none⟩])
             .ret)
            .skip))
          (.seq (.seq (.reg [⟨(some 60), .faddr 1, [.tmp 7], none⟩,
                ⟨(some 61), .load false 1, [.tmp 60], none⟩,
                ⟨(some 62), .len false, [.tmp 61], none⟩,
                ⟨(some 63), .bin .sub, [.tmp 62, .const (.int .i64 1)], none⟩,
                ⟨(some 12), .mv, [.tmp 63], none⟩])
            (.block 2 (.loop (.seq (.seq (.reg [⟨(some 64), .mv, [.tmp 12], none⟩,
                    ⟨(some 65), .bin .geq, [.tmp 64, .const (.int .i64 0)], none⟩])
                (.cond (.tmp 65)
                 .skip
                 (.exit 2)))
               (.seq (.block 3 (.seq (.dreg [⟨⟨(some 69), .load true 3, [.tmp 8], none⟩, [10], none⟩,
                      ⟨⟨(some 70), .faddr 1, [.tmp 7], none⟩, [10], none⟩,
                      ⟨⟨(some 71), .load false 1, [.tmp 70], none⟩, [10], none⟩,
                      ⟨⟨(some 72), .mv, [.tmp 12], none⟩, [10], none⟩,
                      ⟨⟨(some 73), .iaddr none 1, [.tmp 71, .tmp 72], none⟩, [10], none⟩,
                      ⟨⟨(some 74), .load false 1, [.tmp 73], none⟩, [10], none⟩,
                      ⟨⟨(some 75), .call, [.func 11, .tmp 69, .tmp 74], none⟩, [10], none⟩,
                      ⟨⟨(some 68), .mv, [.tmp 75], none⟩, [10], none⟩,
                      ⟨⟨(some 76), .ext 0, [.tmp 68], none⟩, [10], none⟩,
                      ⟨⟨(some 77), .ext 1, [.tmp 68], none⟩, [10], none⟩,
                      ⟨⟨(some 13), .new [.sl true 0 (some 0) [], .sl true 0 (some 0) [], .lit (.int .i64 0)], [], none⟩, [], none⟩,
                      ⟨⟨none, .store 3, [.tmp 13, .tmp 76], none⟩, [], none⟩,
                      ⟨⟨(some 14), .mv, [.tmp 77], none⟩, [], none⟩])
                  (.seq (.seq (.reg [⟨(some 78), .mv, [.tmp 14], none⟩,
                        ⟨(some 79), .bin .neq, [.tmp 78, .const (.int .i64 0)], none⟩])
                    (.cond (.tmp 79)
                     (.seq (.reg [⟨(some 4), .mv, [.const (.bool false)], none⟩])
                      .ret)
                     .skip))
                   (.reg [⟨(some 80), .load true 3, [.tmp 13], none⟩,
                       ⟨none, .store 3, [.tmp 8, .tmp 80], none⟩]))))
                (.reg [⟨(some 66), .mv, [.tmp 12], none⟩,
                    ⟨(some 67), .bin .sub, [.tmp 66, .const (.int .i64 1)], none⟩,
                    ⟨(some 12), .mv, [.tmp 67], none⟩]))))))
           (.seq (.reg [⟨(some 81), .load true 3, [.tmp 7], none⟩,
                ⟨(some 82), .call, [.func 19, .tmp 81], none⟩,
                ⟨(some 15), .new [.sl true 0 (some 0) [], .sl true 0 (some 0) [], .lit (.int .i64 0), .lit (.int .i64 0), .lit (.int .i64 0)], [], none⟩,
                ⟨none, .store 5, [.tmp 15, .tmp 82], none⟩])
            (.seq (.seq (.dreg [⟨⟨(some 83), .faddr 4, [.tmp 15], none⟩, [], none⟩,
                  ⟨⟨(some 84), .load false 1, [.tmp 83], none⟩, [], none⟩,
                  ⟨⟨(some 85), .bin .eql, [.tmp 84, .const (.int .i64 0)], none⟩, [], none⟩,
                  ⟨⟨(some 86), .mv, [.tmp 85], none⟩, [], none⟩,
                  ⟨⟨(some 87), .faddr 1, [.tmp 7], (some (86, true))⟩, [], none⟩,
                  ⟨⟨(some 88), .load false 1, [.tmp 87], (some (86, true))⟩, [], none⟩,
                  ⟨⟨(some 89), .faddr 3, [.tmp 15], (some (86, true))⟩, [], none⟩,
                  ⟨⟨(some 90), .load false 1, [.tmp 89], (some (86, true))⟩, [], none⟩,
                  ⟨⟨(some 91), .call, [.func 30, .tmp 88, .tmp 90], (some (86, true))⟩, [], none⟩,
                  ⟨⟨(some 92), .pick, [.tmp 86, .tmp 91, .const (.bool false)], none⟩, [], none⟩,
                  ⟨⟨(some 93), .mv, [.tmp 92], none⟩, [], none⟩,
                  ⟨⟨(some 94), .load true 3, [.tmp 7], (some (93, false))⟩, [], none⟩,
                  ⟨⟨(some 95), .call, [.func 25, .tmp 94], (some (93, false))⟩, [], none⟩,
                  ⟨⟨(some 96), .load true 3, [.tmp 6], (some (93, false))⟩, [], none⟩,
                  ⟨⟨(some 97), .call, [.func 25, .tmp 96], (some (93, false))⟩, [], none⟩,
                  ⟨⟨(some 98), .bin .neq, [.tmp 95, .tmp 97], (some (93, false))⟩, [], none⟩,
                  ⟨⟨(some 99), .pick, [.tmp 93, .const (.bool true), .tmp 98], none⟩, [], none⟩])
              (.cond (.tmp 99)
               (.seq (.reg [⟨(some 4), .mv, [.const (.bool false)], none⟩])
                .ret)
               .skip))
             (.seq (.reg [⟨(some 100), .load true 3, [.tmp 7], none⟩,
                  ⟨(some 101), .call, [.func 23, .tmp 100], none⟩,
                  ⟨(some 16), .new [.sl true 0 (some 0) [], .sl true 0 (some 0) [], .lit (.int .i64 0)], [], none⟩,
                  ⟨none, .store 3, [.tmp 16, .tmp 101], none⟩])
              (.seq (.seq (.reg [⟨(some 17), .mv, [.const (.int .i64 0)], none⟩])
                (.block 4 (.loop (.seq (.seq (.reg [⟨(some 102), .mv, [.tmp 17], none⟩,
                        ⟨(some 103), .faddr 0, [.tmp 6], none⟩,
                        ⟨(some 104), .load false 1, [.tmp 103], none⟩,
                        ⟨(some 105), .len false, [.tmp 104], none⟩,
                        ⟨(some 106), .bin .lss, [.tmp 102, .tmp 105], none⟩])
                    (.cond (.tmp 106)
                     .skip
                     (.exit 4)))
                   (.seq (.block 5 (.seq (.dreg [⟨⟨(some 109), .faddr 0, [.tmp 16], none⟩, [], none⟩,
                          ⟨⟨(some 110), .load false 1, [.tmp 109], none⟩, [], none⟩,
                          ⟨⟨(some 111), .len false, [.tmp 110], none⟩, [], none⟩,
                          ⟨⟨(some 112), .faddr 0, [.tmp 6], none⟩, [], none⟩,
                          ⟨⟨(some 113), .load false 1, [.tmp 112], none⟩, [], none⟩,
                          ⟨⟨(some 114), .len false, [.tmp 113], none⟩, [], none⟩,
                          ⟨⟨(some 115), .bin .neq, [.tmp 111, .tmp 114], none⟩, [], none⟩,
                          ⟨⟨(some 116), .mv, [.tmp 115], none⟩, [], none⟩,
                          ⟨⟨(some 117), .faddr 0, [.tmp 16], (some (116, false))⟩, [], none⟩,
                          ⟨⟨(some 118), .load false 1, [.tmp 117], (some (116, false))⟩, [], none⟩,
                          ⟨⟨(some 119), .mv, [.tmp 17], (some (116, false))⟩, [], none⟩,
                          ⟨⟨(some 120), .iaddr none 1, [.tmp 118, .tmp 119], (some (116, false))⟩, [], none⟩,
                          ⟨⟨(some 121), .load false 1, [.tmp 120], (some (116, false))⟩, [], none⟩,
                          ⟨⟨(some 122), .faddr 0, [.tmp 6], (some (116, false))⟩, [], none⟩,
                          ⟨⟨(some 123), .load false 1, [.tmp 122], (some (116, false))⟩, [], none⟩,
                          ⟨⟨(some 124), .mv, [.tmp 17], (some (116, false))⟩, [], none⟩,
                          ⟨⟨(some 125), .iaddr none 1, [.tmp 123, .tmp 124], (some (116, false))⟩, [], none⟩,
                          ⟨⟨(some 126), .load false 1, [.tmp 125], (some (116, false))⟩, [], none⟩,
                          ⟨⟨(some 127), .mv, [.tmp 126], (some (116, false))⟩, [], none⟩,
                          ⟨⟨(some 128), .faddr 1, [.tmp 7], (some (127, true))⟩, [], none⟩,
                          ⟨⟨(some 129), .load false 1, [.tmp 128], (some (127, true))⟩, [], none⟩,
                          ⟨⟨(some 130), .mv, [.tmp 17], (some (127, true))⟩, [], none⟩,
                          ⟨⟨(some 131), .call, [.func 30, .tmp 129, .tmp 130], (some (127, true))⟩, [], none⟩,
                          ⟨⟨(some 132), .un .not, [.tmp 131], (some (127, true))⟩, [], none⟩,
                          ⟨⟨(some 133), .pick, [.tmp 127, .tmp 132, .const (.bool false)], (some (116, false))⟩, [], none⟩,
                          ⟨⟨(some 134), .beq true, [.tmp 121, .tmp 133], (some (116, false))⟩, [], none⟩,
                          ⟨⟨(some 135), .pick, [.tmp 116, .const (.bool true), .tmp 134], none⟩, [], none⟩])
                      (.cond (.tmp 135)
                       (.seq (.reg [⟨(some 4), .mv, [.const (.bool false)], none⟩])
                        .ret)
                       .skip)))
                    (.reg [⟨(some 107), .mv, [.tmp 17], none⟩,
                        ⟨(some 108), .bin .add, [.tmp 107, .const (.int .i64 1)], none⟩,
                        ⟨(some 17), .mv, [.tmp 108], none⟩]))))))
               (.seq (.dreg [⟨⟨(some 136), .faddr 1, [.tmp 16], none⟩, [], none⟩,
                    ⟨⟨(some 137), .load false 1, [.tmp 136], none⟩, [], none⟩,
                    ⟨⟨(some 138), .len false, [.tmp 137], none⟩, [], none⟩,
                    ⟨⟨(some 139), .bin .eql, [.tmp 138, .const (.int .i64 0)], none⟩, [], none⟩,
                    ⟨⟨(some 140), .mv, [.tmp 139], none⟩, [], none⟩,
                    ⟨⟨(some 141), .faddr 2, [.tmp 16], (some (140, true))⟩, [], none⟩,
                    ⟨⟨(some 142), .load false 1, [.tmp 141], (some (140, true))⟩, [], none⟩,
                    ⟨⟨(some 143), .faddr 2, [.tmp 6], (some (140, true))⟩, [], none⟩,
                    ⟨⟨(some 144), .load false 1, [.tmp 143], (some (140, true))⟩, [], none⟩,
                    ⟨⟨(some 145), .bin .eql, [.tmp 142, .tmp 144], (some (140, true))⟩, [], none⟩,
                    ⟨⟨(some 146), .pick, [.tmp 140, .tmp 145, .const (.bool false)], none⟩, [], none⟩,
                    ⟨⟨(some 147), .mv, [.tmp 146], none⟩, [], none⟩,
                    ⟨⟨(some 148), .load true 3, [.tmp 16], (some (147, true))⟩, [], none⟩,
                    ⟨⟨(some 149), .load true 3, [.tmp 8], (some (147, true))⟩, [], none⟩,
                    ⟨⟨(some 150), .call, [.func 23, .tmp 149], (some (147, true))⟩, [], none⟩,
                    ⟨⟨(some 151), .call, [.func 17, .tmp 148, .tmp 150], (some (147, true))⟩, [], none⟩,
                    ⟨⟨(some 152), .pick, [.tmp 147, .tmp 151, .const (.bool false)], none⟩, [], none⟩,
                    ⟨⟨(some 153), .mv, [.tmp 152], none⟩, [], none⟩,
                    ⟨⟨(some 154), .load true 3, [.tmp 16], (some (153, true))⟩, [], none⟩,
                    ⟨⟨(some 155), .call, [.func 25, .tmp 154], (some (153, true))⟩, [], none⟩,
                    ⟨⟨(some 156), .load true 3, [.tmp 6], (some (153, true))⟩, [], none⟩,
                    ⟨⟨(some 157), .call, [.func 25, .tmp 156], (some (153, true))⟩, [], none⟩,
                    ⟨⟨(some 158), .faddr 1, [.tmp 7], (some (153, true))⟩, [], none⟩,
                    ⟨⟨(some 159), .load false 1, [.tmp 158], (some (153, true))⟩, [], none⟩,
                    ⟨⟨(some 160), .len false, [.tmp 159], (some (153, true))⟩, [], none⟩,
                    ⟨⟨(some 161), .bin .add, [.tmp 157, .tmp 160], (some (153, true))⟩, [], none⟩,
                    ⟨⟨(some 162), .bin .eql, [.tmp 155, .tmp 161], (some (153, true))⟩, [], none⟩,
                    ⟨⟨(some 163), .pick, [.tmp 153, .tmp 162, .const (.bool false)], none⟩, [], none⟩,
                    ⟨⟨(some 164), .mv, [.tmp 163], none⟩, [], none⟩,
                    ⟨⟨(some 165), .mv, [.tmp 5], (some (164, true))⟩, [], none⟩,
                    ⟨⟨(some 166), .pick, [.tmp 164, .tmp 165, .const (.bool false)], none⟩, [], none⟩,
                    ⟨⟨(some 4), .mv, [.tmp 166], none⟩, [], none⟩])
                .ret)))))))))))))

theorem tab6 : tab 6 = some A6 := by unfold tab; kernel_rfl

/-- downspout/downspoutlaw25.AllocReserves -/
def A7 : AFn where
  isPure := true
  ntmps := 123
  res := [(6, none)]
  body := (.seq (.reg [⟨(some 3), .box, [.tmp 0], none⟩,
        ⟨(some 6), .mv, [.const (.bool false)], none⟩])
    (.seq (.reg [⟨(some 15), .call, [.func 9], none⟩,
         ⟨(some 7), .mv, [.tmp 15], none⟩])
     (.seq (.reg [⟨(some 17), .load true 4, [.tmp 3], none⟩,
          ⟨(some 18), .call, [.func 10, .tmp 17], none⟩,
          ⟨(some 19), .mv, [.tmp 1], none⟩,
          ⟨(some 20), .conv .i64, [.tmp 19], none⟩,
          ⟨(some 21), .bin .rem, [.tmp 20, .const (.int .i64 17)], none⟩,
          ⟨(some 22), .call, [.func 13, .tmp 18, .tmp 21], none⟩,
          ⟨(some 16), .mv, [.tmp 22], none⟩,
          ⟨(some 23), .ext 0, [.tmp 16], none⟩,
          ⟨(some 24), .ext 1, [.tmp 16], none⟩,
          ⟨(some 8), .new [.sl true 0 (some 0) [], .sl true 0 (some 0) [], .lit (.int .i64 0)], [], none⟩,
          ⟨none, .store 3, [.tmp 8, .tmp 23], none⟩,
          ⟨(some 9), .mv, [.tmp 24], none⟩])
      (.seq (.seq (.reg [⟨(some 25), .mv, [.tmp 9], none⟩,
            ⟨(some 26), .bin .neq, [.tmp 25, .const (.int .i64 0)], none⟩])
        (.cond (.tmp 26)
         (.seq (.reg [⟨(some 27), .mv, [.tmp 9], none⟩,
              ⟨(some 28), .bin .eql, [.tmp 27, .const (.int .i64 250)], none⟩,
              ⟨(some 29), .mv, [.tmp 28], none⟩,
              ⟨(some 30), .mv, [.tmp 7], (some (29, true))⟩,
              ⟨(some 31), .pick, [.tmp 29, .tmp 30, .const (.bool false)], none⟩,
              ⟨(some 6), .mv, [.tmp 31], none⟩])
          .ret)
         .skip))
       (.seq (.reg [⟨(some 32), .mv, [.tmp 1], none⟩,
            ⟨(some 33), .conv .i64, [.tmp 32], none⟩,
            ⟨(some 34), .bin .rem, [.tmp 33, .const (.int .i64 17)], none⟩,
            ⟨(some 10), .mv, [.tmp 34], none⟩])
        (.seq (.seq (.reg [⟨(some 11), .mv, [.const (.int .i64 0)], none⟩])
          (.block 0 (.loop (.seq (.seq (.reg [⟨(some 35), .mv, [.tmp 11], none⟩,
                  ⟨(some 36), .mv, [.tmp 2], none⟩,
                  ⟨(some 37), .len false, [.tmp 36], none⟩,
                  ⟨(some 38), .bin .lss, [.tmp 35, .tmp 37], none⟩,
                  ⟨(some 39), .mv, [.tmp 38], none⟩,
                  ⟨(some 40), .mv, [.tmp 11], (some (39, true))⟩,
                  ⟨(some 41), .bin .lss, [.tmp 40, .const (.int .i64 20)], (some (39, true))⟩,
                  ⟨(some 42), .pick, [.tmp 39, .tmp 41, .const (.bool false)], none⟩])
              (.cond (.tmp 42)
               .skip
               (.exit 0)))
             (.seq (.block 1 (.seq (.seq (.reg [⟨(some 45), .mv, [.tmp 2], none⟩,
                     ⟨(some 46), .mv, [.tmp 11], none⟩,
                     ⟨(some 47), .iaddr none 2, [.tmp 45, .tmp 46], none⟩,
                     ⟨(some 48), .iaddr (some 2) 1, [.tmp 47, .const (.int .i64 0)], none⟩,
                     ⟨(some 49), .load false 1, [.tmp 48], none⟩,
                     ⟨(some 50), .bin .rem, [.tmp 49, .const (.int .u8 6)], none⟩,
                     ⟨(some 51), .bin .eql, [.tmp 50, .const (.int .u8 2)], none⟩,
                     ⟨(some 52), .mv, [.tmp 51], none⟩,
                     ⟨(some 53), .mv, [.tmp 2], (some (52, false))⟩,
                     ⟨(some 54), .mv, [.tmp 11], (some (52, false))⟩,
                     ⟨(some 55), .iaddr none 2, [.tmp 53, .tmp 54], (some (52, false))⟩,
                     ⟨(some 56), .iaddr (some 2) 1, [.tmp 55, .const (.int .i64 0)], (some (52, false))⟩,
                     ⟨(some 57), .load false 1, [.tmp 56], (some (52, false))⟩,
                     ⟨(some 58), .bin .rem, [.tmp 57, .const (.int .u8 6)], (some (52, false))⟩,
                     ⟨(some 59), .bin .eql, [.tmp 58, .const (.int .u8 4)], (some (52, false))⟩,
                     ⟨(some 60), .pick, [.tmp 52, .const (.bool true), .tmp 59], none⟩])
                 (.cond (.tmp 60)
                  (.exit 1)
                  .skip))
                (.seq (.dreg [⟨⟨(some 61), .load true 3, [.tmp 8], none⟩, [], none⟩,
                     ⟨⟨(some 62), .mv, [.tmp 2], none⟩, [], none⟩,
                     ⟨⟨(some 63), .mv, [.tmp 11], none⟩, [], none⟩,
                     ⟨⟨(some 64), .iaddr none 2, [.tmp 62, .tmp 63], none⟩, [], none⟩,
                     ⟨⟨(some 65), .load true 2, [.tmp 64], none⟩, [], none⟩,
                     ⟨⟨(some 66), .call, [.func 27, .tmp 61, .tmp 65], none⟩, [], none⟩,
                     ⟨⟨none, .store 3, [.tmp 8, .tmp 66], none⟩, [], none⟩])
                 (.seq (.reg [⟨(some 67), .load true 3, [.tmp 8], none⟩,
                      ⟨(some 68), .call, [.func 28, .tmp 67], none⟩,
                      ⟨(some 69), .un .not, [.tmp 68], none⟩])
                  (.cond (.tmp 69)
                   (.seq (.reg [⟨(some 6), .mv, [.const (.bool false)], none⟩])
                    .ret)
                   .skip)))))
              (.reg [⟨(some 43), .mv, [.tmp 11], none⟩,
                  ⟨(some 44), .bin .add, [.tmp 43, .const (.int .i64 1)], none⟩,
                  ⟨(some 11), .mv, [.tmp 44], none⟩]))))))
         (.seq (.seq (.reg [⟨(some 12), .mv, [.const (.int .i64 0)], none⟩])
           (.block 2 (.loop (.seq (.seq (.reg [⟨(some 70), .mv, [.tmp 12], none⟩,
                   ⟨(some 71), .mv, [.tmp 10], none⟩,
                   ⟨(some 72), .bin .lss, [.tmp 70, .tmp 71], none⟩])
               (.cond (.tmp 72)
                .skip
                (.exit 2)))
              (.seq (.block 3 (.seq (.reg [⟨(some 75), .load true 3, [.tmp 8], none⟩,
                     ⟨(some 76), .call, [.func 21, .tmp 75], none⟩,
                     ⟨(some 13), .new [.sl true 0 (some 0) [], .sl true 0 (some 0) [], .lit (.int .i64 0), .lit (.int .i64 0), .lit (.int .i64 0)], [], none⟩,
                     ⟨none, .store 5, [.tmp 13, .tmp 76], none⟩])
                 (.seq (.seq (.reg [⟨(some 77), .faddr 4, [.tmp 13], none⟩,
                       ⟨(some 78), .load false 1, [.tmp 77], none⟩,
                       ⟨(some 79), .bin .neq, [.tmp 78, .const (.int .i64 0)], none⟩,
                       ⟨(some 80), .mv, [.tmp 79], none⟩,
                       ⟨(some 81), .faddr 3, [.tmp 13], (some (80, false))⟩,
                       ⟨(some 82), .load false 1, [.tmp 81], (some (80, false))⟩,
                       ⟨(some 83), .bin .lss, [.tmp 82, .const (.int .i64 0)], (some (80, false))⟩,
                       ⟨(some 84), .pick, [.tmp 80, .const (.bool true), .tmp 83], none⟩,
                       ⟨(some 85), .mv, [.tmp 84], none⟩,
                       ⟨(some 86), .faddr 3, [.tmp 13], (some (85, false))⟩,
                       ⟨(some 87), .load false 1, [.tmp 86], (some (85, false))⟩,
                       ⟨(some 88), .faddr 0, [.tmp 8], (some (85, false))⟩,
                       ⟨(some 89), .load false 1, [.tmp 88], (some (85, false))⟩,
                       ⟨(some 90), .len false, [.tmp 89], (some (85, false))⟩,
                       ⟨(some 91), .bin .geq, [.tmp 87, .tmp 90], (some (85, false))⟩,
                       ⟨(some 92), .pick, [.tmp 85, .const (.bool true), .tmp 91], none⟩,
                       ⟨(some 93), .mv, [.tmp 92], none⟩,
                       ⟨(some 94), .faddr 0, [.tmp 8], (some (93, false))⟩,
                       ⟨(some 95), .load false 1, [.tmp 94], (some (93, false))⟩,
                       ⟨(some 96), .faddr 3, [.tmp 13], (some (93, false))⟩,
                       ⟨(some 97), .load false 1, [.tmp 96], (some (93, false))⟩,
                       ⟨(some 98), .iaddr none 1, [.tmp 95, .tmp 97], (some (93, false))⟩,
                       ⟨(some 99), .load false 1, [.tmp 98], (some (93, false))⟩,
                       ⟨(some 100), .pick, [.tmp 93, .const (.bool true), .tmp 99], none⟩,
                       ⟨(some 101), .mv, [.tmp 100], none⟩,
                       ⟨(some 102), .faddr 0, [.tmp 13], (some (101, false))⟩,
                       ⟨(some 103), .load true 3, [.tmp 102], (some (101, false))⟩,
                       ⟨(some 104), .call, [.func 28, .tmp 103], (some (101, false))⟩,
                       ⟨(some 105), .un .not, [.tmp 104], (some (101, false))⟩,
                       ⟨(some 106), .pick, [.tmp 101, .const (.bool true), .tmp 105], none⟩])
                   (.cond (.tmp 106)
                    (.seq (.reg [⟨(some 6), .mv, [.const (.bool false)], none⟩])
                     .ret)
                    .skip))
                  (.reg [⟨(some 107), .faddr 0, [.tmp 13], none⟩,
                      ⟨(some 108), .load true 3, [.tmp 107], none⟩,
                      ⟨none, .store 3, [.tmp 8, .tmp 108], none⟩]))))
               (.reg [⟨(some 73), .mv, [.tmp 12], none⟩,
                   ⟨(some 74), .bin .add, [.tmp 73, .const (.int .i64 1)], none⟩,
                   ⟨(some 12), .mv, [.tmp 74], none⟩]))))))
          (.seq (.reg [⟨(some 109), .load true 3, [.tmp 8], none⟩,
               ⟨(some 110), .call, [.func 21, .tmp 109], none⟩,
               ⟨(some 14), .new [.sl true 0 (some 0) [], .sl true 0 (some 0) [], .lit (.int .i64 0), .lit (.int .i64 0), .lit (.int .i64 0)], [], none⟩,
               ⟨none, .store 5, [.tmp 14, .tmp 110], none⟩])
           (.seq (.reg [⟨(some 111), .faddr 4, [.tmp 14], none⟩,
                ⟨(some 112), .load false 1, [.tmp 111], none⟩,
                ⟨(some 113), .bin .eql, [.tmp 112, .const (.int .i64 250)], none⟩,
                ⟨(some 114), .mv, [.tmp 113], none⟩,
                ⟨(some 115), .faddr 0, [.tmp 14], (some (114, true))⟩,
                ⟨(some 116), .load true 3, [.tmp 115], (some (114, true))⟩,
                ⟨(some 117), .load true 3, [.tmp 8], (some (114, true))⟩,
                ⟨(some 118), .call, [.func 17, .tmp 116, .tmp 117], (some (114, true))⟩,
                ⟨(some 119), .pick, [.tmp 114, .tmp 118, .const (.bool false)], none⟩,
                ⟨(some 120), .mv, [.tmp 119], none⟩,
                ⟨(some 121), .mv, [.tmp 7], (some (120, true))⟩,
                ⟨(some 122), .pick, [.tmp 120, .tmp 121, .const (.bool false)], none⟩,
                ⟨(some 6), .mv, [.tmp 122], none⟩])
            .ret)))))))))

theorem tab7 : tab 7 = some A7 := by unfold tab; kernel_rfl

/-- downspout/downspoutlaw25.AllocRefuses -/
def A8 : AFn where
  isPure := true
  ntmps := 138
  res := [(6, none)]
  body := (.seq (.reg [⟨(some 3), .box, [.tmp 0], none⟩,
        ⟨(some 6), .mv, [.const (.bool false)], none⟩])
    (.seq (.reg [⟨(some 18), .call, [.func 9], none⟩,
         ⟨(some 7), .mv, [.tmp 18], none⟩])
     (.seq (.reg [⟨(some 19), .load true 4, [.tmp 3], none⟩,
          ⟨(some 20), .call, [.func 10, .tmp 19], none⟩,
          ⟨(some 8), .new [.sl true 0 (some 0) [], .sl true 0 (some 0) [], .lit (.int .i64 0)], [], none⟩,
          ⟨none, .store 3, [.tmp 8, .tmp 20], none⟩])
      (.seq (.reg [⟨(some 22), .load true 3, [.tmp 8], none⟩,
           ⟨(some 23), .mv, [.tmp 1], none⟩,
           ⟨(some 24), .conv .i64, [.tmp 23], none⟩,
           ⟨(some 25), .call, [.func 11, .tmp 22, .tmp 24], none⟩,
           ⟨(some 21), .mv, [.tmp 25], none⟩,
           ⟨(some 26), .ext 0, [.tmp 21], none⟩,
           ⟨(some 27), .ext 1, [.tmp 21], none⟩,
           ⟨(some 9), .new [.sl true 0 (some 0) [], .sl true 0 (some 0) [], .lit (.int .i64 0)], [], none⟩,
           ⟨none, .store 3, [.tmp 9, .tmp 26], none⟩,
           ⟨(some 10), .mv, [.tmp 27], none⟩])
       (.seq (.reg [⟨(some 28), .mv, [.tmp 1], none⟩,
            ⟨(some 29), .bin .geq, [.tmp 28, .const (.int .i16 0)], none⟩,
            ⟨(some 30), .mv, [.tmp 29], none⟩,
            ⟨(some 31), .mv, [.tmp 1], (some (30, true))⟩,
            ⟨(some 32), .conv .i64, [.tmp 31], (some (30, true))⟩,
            ⟨(some 33), .faddr 0, [.tmp 8], (some (30, true))⟩,
            ⟨(some 34), .load false 1, [.tmp 33], (some (30, true))⟩,
            ⟨(some 35), .len false, [.tmp 34], (some (30, true))⟩,
            ⟨(some 36), .bin .lss, [.tmp 32, .tmp 35], (some (30, true))⟩,
            ⟨(some 37), .pick, [.tmp 30, .tmp 36, .const (.bool false)], none⟩,
            ⟨(some 11), .mv, [.tmp 37], none⟩])
        (.seq (.reg [⟨(some 38), .mv, [.tmp 11], none⟩,
             ⟨(some 39), .mv, [.tmp 38], none⟩,
             ⟨(some 40), .faddr 0, [.tmp 8], (some (39, true))⟩,
             ⟨(some 41), .load false 1, [.tmp 40], (some (39, true))⟩,
             ⟨(some 42), .mv, [.tmp 1], (some (39, true))⟩,
             ⟨(some 43), .conv .i64, [.tmp 42], (some (39, true))⟩,
             ⟨(some 44), .faddr 0, [.tmp 8], (some (39, true))⟩,
             ⟨(some 45), .load false 1, [.tmp 44], (some (39, true))⟩,
             ⟨(some 46), .len false, [.tmp 45], (some (39, true))⟩,
             ⟨(some 47), .bin .sub, [.tmp 46, .const (.int .i64 1)], (some (39, true))⟩,
             ⟨(some 48), .min, [.tmp 43, .tmp 47], (some (39, true))⟩,
             ⟨(some 49), .max, [.const (.int .i64 0), .tmp 48], (some (39, true))⟩,
             ⟨(some 50), .iaddr none 1, [.tmp 41, .tmp 49], (some (39, true))⟩,
             ⟨(some 51), .load false 1, [.tmp 50], (some (39, true))⟩,
             ⟨(some 52), .pick, [.tmp 39, .tmp 51, .const (.bool false)], none⟩,
             ⟨(some 53), .mv, [.tmp 52], none⟩,
             ⟨(some 54), .faddr 1, [.tmp 8], (some (53, true))⟩,
             ⟨(some 55), .load false 1, [.tmp 54], (some (53, true))⟩,
             ⟨(some 56), .mv, [.tmp 1], (some (53, true))⟩,
             ⟨(some 57), .conv .i64, [.tmp 56], (some (53, true))⟩,
             ⟨(some 58), .call, [.func 30, .tmp 55, .tmp 57], (some (53, true))⟩,
             ⟨(some 59), .un .not, [.tmp 58], (some (53, true))⟩,
             ⟨(some 60), .pick, [.tmp 53, .tmp 59, .const (.bool false)], none⟩,
             ⟨(some 12), .mv, [.tmp 60], none⟩])
         (.seq (.seq (.reg [⟨(some 61), .mv, [.tmp 10], none⟩,
               ⟨(some 62), .bin .eql, [.tmp 61, .const (.int .i64 0)], none⟩,
               ⟨(some 63), .mv, [.tmp 12], none⟩,
               ⟨(some 64), .beq true, [.tmp 62, .tmp 63], none⟩,
               ⟨(some 65), .mv, [.tmp 64], none⟩,
               ⟨(some 66), .mv, [.tmp 12], (some (65, false))⟩,
               ⟨(some 67), .un .not, [.tmp 66], (some (65, false))⟩,
               ⟨(some 68), .mv, [.tmp 67], (some (65, false))⟩,
               ⟨(some 69), .mv, [.tmp 10], (some (68, true))⟩,
               ⟨(some 70), .bin .neq, [.tmp 69, .const (.int .i64 230)], (some (68, true))⟩,
               ⟨(some 71), .mv, [.tmp 70], (some (68, true))⟩,
               ⟨(some 72), .load true 3, [.tmp 9], (some (71, false))⟩,
               ⟨(some 73), .load true 3, [.tmp 8], (some (71, false))⟩,
               ⟨(some 74), .call, [.func 17, .tmp 72, .tmp 73], (some (71, false))⟩,
               ⟨(some 75), .un .not, [.tmp 74], (some (71, false))⟩,
               ⟨(some 76), .pick, [.tmp 71, .const (.bool true), .tmp 75], (some (68, true))⟩,
               ⟨(some 77), .pick, [.tmp 68, .tmp 76, .const (.bool false)], (some (65, false))⟩,
               ⟨(some 78), .pick, [.tmp 65, .const (.bool true), .tmp 77], none⟩])
           (.cond (.tmp 78)
            (.seq (.reg [⟨(some 6), .mv, [.const (.bool false)], none⟩])
             .ret)
            .skip))
          (.seq (.reg [⟨(some 80), .load true 3, [.tmp 8], none⟩,
               ⟨(some 81), .mv, [.tmp 2], none⟩,
               ⟨(some 82), .conv .i64, [.tmp 81], none⟩,
               ⟨(some 83), .call, [.func 13, .tmp 80, .tmp 82], none⟩,
               ⟨(some 79), .mv, [.tmp 83], none⟩,
               ⟨(some 84), .ext 0, [.tmp 79], none⟩,
               ⟨(some 85), .ext 1, [.tmp 79], none⟩,
               ⟨(some 13), .new [.sl true 0 (some 0) [], .sl true 0 (some 0) [], .lit (.int .i64 0)], [], none⟩,
               ⟨none, .store 3, [.tmp 13, .tmp 84], none⟩,
               ⟨(some 14), .mv, [.tmp 85], none⟩])
           (.seq (.reg [⟨(some 15), .mv, [.const (.int .i64 0)], none⟩])
            (.seq (.seq (.reg [⟨(some 86), .mv, [.tmp 2], none⟩,
                  ⟨(some 87), .bin .lss, [.tmp 86, .const (.int .i16 0)], none⟩])
              (.cond (.tmp 87)
               (.reg [⟨(some 15), .mv, [.const (.int .i64 1)], none⟩])
               (.seq (.reg [⟨(some 88), .mv, [.tmp 2], none⟩,
                    ⟨(some 89), .conv .i64, [.tmp 88], none⟩,
                    ⟨(some 90), .load true 3, [.tmp 8], none⟩,
                    ⟨(some 91), .call, [.func 29, .tmp 90], none⟩,
                    ⟨(some 92), .bin .gtr, [.tmp 89, .tmp 91], none⟩])
                (.cond (.tmp 92)
                 (.reg [⟨(some 15), .mv, [.const (.int .i64 250)], none⟩])
                 .skip))))
             (.seq (.seq (.reg [⟨(some 93), .mv, [.tmp 14], none⟩,
                   ⟨(some 94), .mv, [.tmp 15], none⟩,
                   ⟨(some 95), .bin .neq, [.tmp 93, .tmp 94], none⟩,
                   ⟨(some 96), .mv, [.tmp 95], none⟩,
                   ⟨(some 97), .mv, [.tmp 14], (some (96, false))⟩,
                   ⟨(some 98), .bin .neq, [.tmp 97, .const (.int .i64 0)], (some (96, false))⟩,
                   ⟨(some 99), .mv, [.tmp 98], (some (96, false))⟩,
                   ⟨(some 100), .load true 3, [.tmp 13], (some (99, true))⟩,
                   ⟨(some 101), .load true 3, [.tmp 8], (some (99, true))⟩,
                   ⟨(some 102), .call, [.func 17, .tmp 100, .tmp 101], (some (99, true))⟩,
                   ⟨(some 103), .un .not, [.tmp 102], (some (99, true))⟩,
                   ⟨(some 104), .pick, [.tmp 99, .tmp 103, .const (.bool false)], (some (96, false))⟩,
                   ⟨(some 105), .pick, [.tmp 96, .const (.bool true), .tmp 104], none⟩,
                   ⟨(some 106), .mv, [.tmp 105], none⟩,
                   ⟨(some 107), .mv, [.tmp 14], (some (106, false))⟩,
                   ⟨(some 108), .bin .eql, [.tmp 107, .const (.int .i64 0)], (some (106, false))⟩,
                   ⟨(some 109), .mv, [.tmp 108], (some (106, false))⟩,
                   ⟨(some 110), .faddr 2, [.tmp 13], (some (109, true))⟩,
                   ⟨(some 111), .load false 1, [.tmp 110], (some (109, true))⟩,
                   ⟨(some 112), .mv, [.tmp 2], (some (109, true))⟩,
                   ⟨(some 113), .conv .i64, [.tmp 112], (some (109, true))⟩,
                   ⟨(some 114), .bin .neq, [.tmp 111, .tmp 113], (some (109, true))⟩,
                   ⟨(some 115), .pick, [.tmp 109, .tmp 114, .const (.bool false)], (some (106, false))⟩,
                   ⟨(some 116), .pick, [.tmp 106, .const (.bool true), .tmp 115], none⟩])
               (.cond (.tmp 116)
                (.seq (.reg [⟨(some 6), .mv, [.const (.bool false)], none⟩])
                 .ret)
                .skip))
              (.seq (.reg [⟨(some 118), .call, [.func 15, .const (.int .i64 4096), .const (.int .i64 4096)], none⟩,
                   ⟨(some 117), .mv, [.tmp 118], none⟩,
                   ⟨(some 119), .ext 0, [.tmp 117], none⟩,
                   ⟨(some 120), .ext 1, [.tmp 117], none⟩,
                   ⟨(some 16), .new [.sl true 0 (some 0) [], .sl true 0 (some 0) [], .lit (.int .i64 0)], [], none⟩,
                   ⟨none, .store 3, [.tmp 16, .tmp 119], none⟩,
                   ⟨(some 17), .mv, [.tmp 120], none⟩])
               (.seq (.reg [⟨(some 121), .mv, [.tmp 17], none⟩,
                    ⟨(some 122), .bin .eql, [.tmp 121, .const (.int .i64 0)], none⟩,
                    ⟨(some 123), .mv, [.tmp 122], none⟩,
                    ⟨(some 124), .faddr 0, [.tmp 16], (some (123, true))⟩,
                    ⟨(some 125), .load false 1, [.tmp 124], (some (123, true))⟩,
                    ⟨(some 126), .len false, [.tmp 125], (some (123, true))⟩,
                    ⟨(some 127), .bin .eql, [.tmp 126, .const (.int .i64 4096)], (some (123, true))⟩,
                    ⟨(some 128), .pick, [.tmp 123, .tmp 127, .const (.bool false)], none⟩,
                    ⟨(some 129), .mv, [.tmp 128], none⟩,
                    ⟨(some 130), .load true 3, [.tmp 16], (some (129, true))⟩,
                    ⟨(some 131), .call, [.func 19, .tmp 130], (some (129, true))⟩,
                    ⟨(some 132), .field false 4 1, [.tmp 131], (some (129, true))⟩,
                    ⟨(some 133), .bin .eql, [.tmp 132, .const (.int .i64 250)], (some (129, true))⟩,
                    ⟨(some 134), .pick, [.tmp 129, .tmp 133, .const (.bool false)], none⟩,
                    ⟨(some 135), .mv, [.tmp 134], none⟩,
                    ⟨(some 136), .mv, [.tmp 7], (some (135, true))⟩,
                    ⟨(some 137), .pick, [.tmp 135, .tmp 136, .const (.bool false)], none⟩,
                    ⟨(some 6), .mv, [.tmp 137], none⟩])
                .ret)))))))))))))

theorem tab8 : tab 8 = some A8 := by unfold tab; kernel_rfl

/-- downspout/downspoutref25.Made -/
def A10 : AFn where
  isPure := true
  ntmps := 66
  res := [(2, some (true, 3))]
  body := (.seq (.reg [⟨(some 1), .box, [.tmp 0], none⟩,
        ⟨(some 2), .new [.sl true 0 (some 0) [], .sl true 0 (some 0) [], .lit (.int .i64 0)], [], none⟩])
    (.seq (.reg [⟨(some 10), .faddr 0, [.tmp 1], none⟩,
         ⟨(some 11), .load false 1, [.tmp 10], none⟩,
         ⟨(some 12), .conv .i64, [.tmp 11], none⟩,
         ⟨(some 13), .bin .rem, [.tmp 12, .const (.int .i64 16)], none⟩,
         ⟨(some 14), .bin .add, [.const (.int .i64 1), .tmp 13], none⟩,
         ⟨(some 15), .call, [.func 16, .tmp 14, .const (.int .i64 0)], none⟩,
         ⟨(some 9), .mv, [.tmp 15], none⟩,
         ⟨(some 16), .ext 0, [.tmp 9], none⟩,
         ⟨(some 17), .ext 1, [.tmp 9], none⟩,
         ⟨(some 3), .new [.sl true 0 (some 0) [], .sl true 0 (some 0) [], .lit (.int .i64 0)], [], none⟩,
         ⟨none, .store 3, [.tmp 3, .tmp 16], none⟩,
         ⟨(some 4), .mv, [.tmp 17], none⟩])
     (.seq (.seq (.reg [⟨(some 5), .mv, [.const (.int .i64 0)], none⟩])
       (.block 0 (.loop (.seq (.seq (.reg [⟨(some 18), .mv, [.tmp 5], none⟩,
               ⟨(some 19), .faddr 0, [.tmp 3], none⟩,
               ⟨(some 20), .load false 1, [.tmp 19], none⟩,
               ⟨(some 21), .len false, [.tmp 20], none⟩,
               ⟨(some 22), .bin .lss, [.tmp 18, .tmp 21], none⟩])
           (.cond (.tmp 22)
            .skip
            (.exit 0)))
          (.seq (.block 1 (.dreg [⟨⟨(some 25), .faddr 0, [.tmp 3], none⟩, [], none⟩,
                ⟨⟨(some 26), .load false 1, [.tmp 25], none⟩, [], none⟩,
                ⟨⟨(some 27), .mv, [.tmp 5], none⟩, [], none⟩,
                ⟨⟨(some 28), .faddr 1, [.tmp 1], none⟩, [], none⟩,
                ⟨⟨(some 29), .load false 1, [.tmp 28], none⟩, [], none⟩,
                ⟨⟨(some 30), .mv, [.tmp 5], none⟩, [], none⟩,
                ⟨⟨(some 31), .bin .shr, [.tmp 29, .tmp 30], none⟩, [], none⟩,
                ⟨⟨(some 32), .bin .and, [.tmp 31, .const (.int .u16 1)], none⟩, [], none⟩,
                ⟨⟨(some 33), .bin .eql, [.tmp 32, .const (.int .u16 1)], none⟩, [], none⟩,
                ⟨⟨(some 34), .iaddr none 1, [.tmp 26, .tmp 27], none⟩, [], none⟩,
                ⟨⟨none, .store 1, [.tmp 34, .tmp 33], none⟩, [], none⟩]))
           (.reg [⟨(some 23), .mv, [.tmp 5], none⟩,
               ⟨(some 24), .bin .add, [.tmp 23, .const (.int .i64 1)], none⟩,
               ⟨(some 5), .mv, [.tmp 24], none⟩]))))))
      (.seq (.seq (.seq (.frz [3])
         (.reg [⟨(some 6), .mv, [.const (.int .i64 0)], none⟩]))
        (.block 2 (.loop (.seq (.seq (.reg [⟨(some 35), .mv, [.tmp 6], none⟩,
                ⟨(some 36), .faddr 2, [.tmp 1], none⟩,
                ⟨(some 37), .load false 1, [.tmp 36], none⟩,
                ⟨(some 38), .len false, [.tmp 37], none⟩,
                ⟨(some 39), .bin .lss, [.tmp 35, .tmp 38], none⟩])
            (.cond (.tmp 39)
             .skip
             (.exit 2)))
           (.seq (.block 3 (.seq (.dreg [⟨⟨(some 43), .load true 3, [.tmp 3], none⟩, [12], none⟩,
                  ⟨⟨(some 44), .faddr 2, [.tmp 1], none⟩, [12], none⟩,
                  ⟨⟨(some 45), .load false 1, [.tmp 44], none⟩, [12], none⟩,
                  ⟨⟨(some 46), .mv, [.tmp 6], none⟩, [12], none⟩,
                  ⟨⟨(some 47), .iaddr none 1, [.tmp 45, .tmp 46], none⟩, [12], none⟩,
                  ⟨⟨(some 48), .load false 1, [.tmp 47], none⟩, [12], none⟩,
                  ⟨⟨(some 49), .conv .i64, [.tmp 48], none⟩, [12], none⟩,
                  ⟨⟨(some 50), .bin .rem, [.tmp 49, .const (.int .i64 16)], none⟩, [12], none⟩,
                  ⟨⟨(some 51), .call, [.func 12, .tmp 43, .tmp 50], none⟩, [12], none⟩,
                  ⟨⟨(some 42), .mv, [.tmp 51], none⟩, [12], none⟩,
                  ⟨⟨(some 52), .ext 0, [.tmp 42], none⟩, [12], none⟩,
                  ⟨⟨(some 53), .ext 1, [.tmp 42], none⟩, [12], none⟩,
                  ⟨⟨(some 7), .new [.sl true 0 (some 0) [], .sl true 0 (some 0) [], .lit (.int .i64 0)], [], none⟩, [], none⟩,
                  ⟨⟨none, .store 3, [.tmp 7, .tmp 52], none⟩, [], none⟩,
                  ⟨⟨(some 8), .mv, [.tmp 53], none⟩, [], none⟩])
              (.seq (.reg [⟨(some 54), .mv, [.tmp 8], none⟩,
                   ⟨(some 55), .bin .eql, [.tmp 54, .const (.int .i64 0)], none⟩])
               (.cond (.tmp 55)
                (.reg [⟨(some 56), .load true 3, [.tmp 7], none⟩,
                    ⟨none, .store 3, [.tmp 3, .tmp 56], none⟩])
                .skip))))
            (.reg [⟨(some 40), .mv, [.tmp 6], none⟩,
                ⟨(some 41), .bin .add, [.tmp 40, .const (.int .i64 1)], none⟩,
                ⟨(some 6), .mv, [.tmp 41], none⟩]))))))
       (.seq (.dreg [⟨⟨(some 57), .faddr 3, [.tmp 1], none⟩, [], none⟩,
            ⟨⟨(some 58), .load false 1, [.tmp 57], none⟩, [], none⟩,
            ⟨⟨(some 59), .conv .i64, [.tmp 58], none⟩, [], none⟩,
            ⟨⟨(some 60), .load true 3, [.tmp 3], none⟩, [], none⟩,
            ⟨⟨(some 61), .call, [.func 29, .tmp 60], none⟩, [], none⟩,
            ⟨⟨(some 62), .bin .add, [.tmp 61, .const (.int .i64 1)], none⟩, [], none⟩,
            ⟨⟨(some 63), .bin .rem, [.tmp 59, .tmp 62], none⟩, [], none⟩,
            ⟨⟨(some 64), .faddr 2, [.tmp 3], none⟩, [], none⟩,
            ⟨⟨none, .store 1, [.tmp 64, .tmp 63], none⟩, [], none⟩])
        (.seq (.reg [⟨(some 65), .load true 3, [.tmp 3], none⟩,
             ⟨none, .store 3, [.tmp 2, .tmp 65], none⟩])
         .ret))))))

theorem tab10 : tab 10 = some A10 := by unfold tab; kernel_rfl

/-- downspout/alloc.Free -/
def A11 : AFn where
  isPure := true
  ntmps := 38
  res := [(4, some (true, 3)), (5, none)]
  body := (.seq (.reg [⟨(some 2), .box, [.tmp 0], none⟩,
        ⟨(some 4), .new [.sl true 0 (some 0) [], .sl true 0 (some 0) [], .lit (.int .i64 0)], [], none⟩,
        ⟨(some 5), .mv, [.const (.int .i64 0)], none⟩])
    (.seq (.seq (.reg [⟨(some 6), .mv, [.tmp 1], none⟩,
          ⟨(some 7), .bin .lss, [.tmp 6, .const (.int .i64 0)], none⟩,
          ⟨(some 8), .mv, [.tmp 7], none⟩,
          ⟨(some 9), .mv, [.tmp 1], (some (8, false))⟩,
          ⟨(some 10), .faddr 0, [.tmp 2], (some (8, false))⟩,
          ⟨(some 11), .load false 1, [.tmp 10], (some (8, false))⟩,
          ⟨(some 12), .len false, [.tmp 11], (some (8, false))⟩,
          ⟨(some 13), .bin .geq, [.tmp 9, .tmp 12], (some (8, false))⟩,
          ⟨(some 14), .pick, [.tmp 8, .const (.bool true), .tmp 13], none⟩,
          ⟨(some 15), .mv, [.tmp 14], none⟩,
          ⟨(some 16), .faddr 0, [.tmp 2], (some (15, false))⟩,
          ⟨(some 17), .load false 1, [.tmp 16], (some (15, false))⟩,
          ⟨(some 18), .mv, [.tmp 1], (some (15, false))⟩,
          ⟨(some 19), .iaddr none 1, [.tmp 17, .tmp 18], (some (15, false))⟩,
          ⟨(some 20), .load false 1, [.tmp 19], (some (15, false))⟩,
          ⟨(some 21), .un .not, [.tmp 20], (some (15, false))⟩,
          ⟨(some 22), .pick, [.tmp 15, .const (.bool true), .tmp 21], none⟩,
          ⟨(some 23), .mv, [.tmp 22], none⟩,
          ⟨(some 24), .faddr 1, [.tmp 2], (some (23, false))⟩,
          ⟨(some 25), .load false 1, [.tmp 24], (some (23, false))⟩,
          ⟨(some 26), .mv, [.tmp 1], (some (23, false))⟩,
          ⟨(some 27), .call, [.func 31, .tmp 25, .tmp 26], (some (23, false))⟩,
          ⟨(some 28), .pick, [.tmp 23, .const (.bool true), .tmp 27], none⟩])
      (.cond (.tmp 28)
       (.seq (.reg [⟨(some 29), .load true 3, [.tmp 2], none⟩,
            ⟨none, .store 3, [.tmp 4, .tmp 29], none⟩,
            ⟨(some 5), .mv, [.const (.int .i64 230)], none⟩])
        .ret)
       .skip))
     (.seq (.reg [⟨(some 30), .faddr 1, [.tmp 2], none⟩,
          ⟨(some 31), .load false 1, [.tmp 30], none⟩,
          ⟨(some 32), .call, [.func 32, .tmp 31], none⟩,
          ⟨(some 33), .mv, [.tmp 1], none⟩,
          ⟨(some 34), .bslice 1 1 [.lit (.int .i64 0)] [(0, 1)], [.tmp 33], none⟩,
          ⟨(some 35), .append 1 8, [.tmp 32, .tmp 34], none⟩,
          ⟨(some 36), .faddr 1, [.tmp 2], none⟩,
          ⟨none, .store 1, [.tmp 36, .tmp 35], none⟩])
      (.seq (.reg [⟨(some 37), .load true 3, [.tmp 2], none⟩,
           ⟨none, .store 3, [.tmp 4, .tmp 37], none⟩,
           ⟨(some 5), .mv, [.const (.int .i64 0)], none⟩])
       .ret))))

theorem tab11 : tab 11 = some A11 := by unfold tab; kernel_rfl

/-- downspout/downspoutref25.Free -/
def A12 : AFn where
  isPure := true
  ntmps := 41
  res := [(4, some (true, 3)), (5, none)]
  body := (.seq (.reg [⟨(some 2), .box, [.tmp 0], none⟩,
        ⟨(some 4), .new [.sl true 0 (some 0) [], .sl true 0 (some 0) [], .lit (.int .i64 0)], [], none⟩,
        ⟨(some 5), .mv, [.const (.int .i64 0)], none⟩])
    (.seq (.seq (.reg [⟨(some 7), .mv, [.tmp 1], none⟩,
          ⟨(some 8), .bin .lss, [.tmp 7, .const (.int .i64 0)], none⟩,
          ⟨(some 9), .mv, [.tmp 8], none⟩,
          ⟨(some 10), .mv, [.tmp 1], (some (9, false))⟩,
          ⟨(some 11), .faddr 0, [.tmp 2], (some (9, false))⟩,
          ⟨(some 12), .load false 1, [.tmp 11], (some (9, false))⟩,
          ⟨(some 13), .len false, [.tmp 12], (some (9, false))⟩,
          ⟨(some 14), .bin .geq, [.tmp 10, .tmp 13], (some (9, false))⟩,
          ⟨(some 15), .pick, [.tmp 9, .const (.bool true), .tmp 14], none⟩,
          ⟨(some 16), .mv, [.tmp 15], none⟩,
          ⟨(some 17), .faddr 0, [.tmp 2], (some (16, false))⟩,
          ⟨(some 18), .load false 1, [.tmp 17], (some (16, false))⟩,
          ⟨(some 19), .mv, [.tmp 1], (some (16, false))⟩,
          ⟨(some 20), .iaddr none 1, [.tmp 18, .tmp 19], (some (16, false))⟩,
          ⟨(some 21), .load false 1, [.tmp 20], (some (16, false))⟩,
          ⟨(some 22), .un .not, [.tmp 21], (some (16, false))⟩,
          ⟨(some 23), .pick, [.tmp 16, .const (.bool true), .tmp 22], none⟩,
          ⟨(some 24), .mv, [.tmp 23], none⟩,
          ⟨(some 25), .faddr 1, [.tmp 2], (some (24, false))⟩,
          ⟨(some 26), .load false 1, [.tmp 25], (some (24, false))⟩,
          ⟨(some 27), .mv, [.tmp 1], (some (24, false))⟩,
          ⟨(some 28), .call, [.func 30, .tmp 26, .tmp 27], (some (24, false))⟩,
          ⟨(some 29), .pick, [.tmp 24, .const (.bool true), .tmp 28], none⟩])
      (.cond (.tmp 29)
       (.seq (.reg [⟨(some 30), .load true 3, [.tmp 2], none⟩,
            ⟨none, .store 3, [.tmp 4, .tmp 30], none⟩,
            ⟨(some 5), .mv, [.const (.int .i64 230)], none⟩])
        .ret)
       .skip))
     (.seq (.reg [⟨(some 31), .bslice 0 1 [] [], [], none⟩,
          ⟨(some 32), .faddr 1, [.tmp 2], none⟩,
          ⟨(some 33), .load false 1, [.tmp 32], none⟩,
          ⟨(some 34), .append 1 8, [.tmp 31, .tmp 33], none⟩,
          ⟨(some 6), .mv, [.tmp 34], none⟩])
      (.seq (.reg [⟨(some 35), .mv, [.tmp 6], none⟩,
           ⟨(some 36), .mv, [.tmp 1], none⟩,
           ⟨(some 37), .bslice 1 1 [.lit (.int .i64 0)] [(0, 1)], [.tmp 36], none⟩,
           ⟨(some 38), .append 1 8, [.tmp 35, .tmp 37], none⟩,
           ⟨(some 39), .faddr 1, [.tmp 2], none⟩,
           ⟨none, .store 1, [.tmp 39, .tmp 38], none⟩])
       (.seq (.reg [⟨(some 40), .load true 3, [.tmp 2], none⟩,
            ⟨none, .store 3, [.tmp 4, .tmp 40], none⟩,
            ⟨(some 5), .mv, [.const (.int .i64 0)], none⟩])
        .ret)))))

theorem tab12 : tab 12 = some A12 := by unfold tab; kernel_rfl

/-- downspout/alloc.Keep -/
def A13 : AFn where
  isPure := true
  ntmps := 19
  res := [(4, some (true, 3)), (5, none)]
  body := (.seq (.reg [⟨(some 2), .box, [.tmp 0], none⟩,
        ⟨(some 4), .new [.sl true 0 (some 0) [], .sl true 0 (some 0) [], .lit (.int .i64 0)], [], none⟩,
        ⟨(some 5), .mv, [.const (.int .i64 0)], none⟩])
    (.seq (.block 0 (.seq (.reg [⟨(some 7), .mv, [.tmp 1], none⟩,
           ⟨(some 8), .bin .lss, [.tmp 7, .const (.int .i64 0)], none⟩,
           ⟨(some 6), .mv, [.tmp 8], none⟩])
       (.cond (.tmp 6)
        (.seq (.reg [⟨(some 9), .load true 3, [.tmp 2], none⟩,
             ⟨none, .store 3, [.tmp 4, .tmp 9], none⟩,
             ⟨(some 5), .mv, [.const (.int .i64 1)], none⟩])
         .ret)
        (.seq (.reg [⟨(some 11), .mv, [.tmp 1], none⟩,
             ⟨(some 12), .load true 3, [.tmp 2], none⟩,
             ⟨(some 13), .call, [.func 33, .tmp 12], none⟩,
             ⟨(some 14), .bin .gtr, [.tmp 11, .tmp 13], none⟩,
             ⟨(some 10), .mv, [.tmp 14], none⟩])
         (.cond (.tmp 10)
          (.seq (.reg [⟨(some 15), .load true 3, [.tmp 2], none⟩,
               ⟨none, .store 3, [.tmp 4, .tmp 15], none⟩,
               ⟨(some 5), .mv, [.const (.int .i64 250)], none⟩])
           .ret)
          .skip)))))
     (.seq (.reg [⟨(some 16), .mv, [.tmp 1], none⟩,
          ⟨(some 17), .faddr 2, [.tmp 2], none⟩,
          ⟨none, .store 1, [.tmp 17, .tmp 16], none⟩])
      (.seq (.reg [⟨(some 18), .load true 3, [.tmp 2], none⟩,
           ⟨none, .store 3, [.tmp 4, .tmp 18], none⟩,
           ⟨(some 5), .mv, [.const (.int .i64 0)], none⟩])
       .ret))))

theorem tab13 : tab 13 = some A13 := by unfold tab; kernel_rfl

/-- downspout/downspoutref25.Keep -/
def A14 : AFn where
  isPure := true
  ntmps := 17
  res := [(4, some (true, 3)), (5, none)]
  body := (.seq (.reg [⟨(some 2), .box, [.tmp 0], none⟩,
        ⟨(some 4), .new [.sl true 0 (some 0) [], .sl true 0 (some 0) [], .lit (.int .i64 0)], [], none⟩,
        ⟨(some 5), .mv, [.const (.int .i64 0)], none⟩])
    (.seq (.seq (.reg [⟨(some 6), .mv, [.tmp 1], none⟩,
          ⟨(some 7), .bin .lss, [.tmp 6, .const (.int .i64 0)], none⟩])
      (.cond (.tmp 7)
       (.seq (.reg [⟨(some 8), .load true 3, [.tmp 2], none⟩,
            ⟨none, .store 3, [.tmp 4, .tmp 8], none⟩,
            ⟨(some 5), .mv, [.const (.int .i64 1)], none⟩])
        .ret)
       .skip))
     (.seq (.seq (.reg [⟨(some 9), .mv, [.tmp 1], none⟩,
           ⟨(some 10), .load true 3, [.tmp 2], none⟩,
           ⟨(some 11), .call, [.func 29, .tmp 10], none⟩,
           ⟨(some 12), .bin .gtr, [.tmp 9, .tmp 11], none⟩])
       (.cond (.tmp 12)
        (.seq (.reg [⟨(some 13), .load true 3, [.tmp 2], none⟩,
             ⟨none, .store 3, [.tmp 4, .tmp 13], none⟩,
             ⟨(some 5), .mv, [.const (.int .i64 250)], none⟩])
         .ret)
        .skip))
      (.seq (.reg [⟨(some 14), .mv, [.tmp 1], none⟩,
           ⟨(some 15), .faddr 2, [.tmp 2], none⟩,
           ⟨none, .store 1, [.tmp 15, .tmp 14], none⟩])
       (.seq (.reg [⟨(some 16), .load true 3, [.tmp 2], none⟩,
            ⟨none, .store 3, [.tmp 4, .tmp 16], none⟩,
            ⟨(some 5), .mv, [.const (.int .i64 0)], none⟩])
        .ret)))))

theorem tab14 : tab 14 = some A14 := by unfold tab; kernel_rfl

/-- downspout/alloc.New -/
def A15 : AFn where
  isPure := true
  ntmps := 36
  res := [(4, some (true, 3)), (5, none)]
  body := (.seq (.reg [⟨(some 4), .new [.sl true 0 (some 0) [], .sl true 0 (some 0) [], .lit (.int .i64 0)], [], none⟩,
        ⟨(some 5), .mv, [.const (.int .i64 0)], none⟩])
    (.seq (.seq (.reg [⟨(some 8), .mv, [.tmp 0], none⟩,
          ⟨(some 9), .bin .lss, [.tmp 8, .const (.int .i64 1)], none⟩,
          ⟨(some 10), .mv, [.tmp 9], none⟩,
          ⟨(some 11), .mv, [.tmp 0], (some (10, false))⟩,
          ⟨(some 12), .bin .gtr, [.tmp 11, .const (.int .i64 4096)], (some (10, false))⟩,
          ⟨(some 13), .pick, [.tmp 10, .const (.bool true), .tmp 12], none⟩,
          ⟨(some 14), .mv, [.tmp 13], none⟩,
          ⟨(some 15), .mv, [.tmp 1], (some (14, false))⟩,
          ⟨(some 16), .bin .lss, [.tmp 15, .const (.int .i64 0)], (some (14, false))⟩,
          ⟨(some 17), .pick, [.tmp 14, .const (.bool true), .tmp 16], none⟩,
          ⟨(some 18), .mv, [.tmp 17], none⟩,
          ⟨(some 19), .mv, [.tmp 1], (some (18, false))⟩,
          ⟨(some 20), .mv, [.tmp 0], (some (18, false))⟩,
          ⟨(some 21), .bin .gtr, [.tmp 19, .tmp 20], (some (18, false))⟩,
          ⟨(some 22), .pick, [.tmp 18, .const (.bool true), .tmp 21], none⟩])
      (.cond (.tmp 22)
       (.seq (.reg [⟨(some 23), .build [.sl true 0 (some 0) [], .sl true 0 (some 0) [], .lit (.int .i64 0)] [], [], none⟩,
            ⟨none, .store 3, [.tmp 4, .tmp 23], none⟩,
            ⟨(some 5), .mv, [.const (.int .i64 1)], none⟩])
        .ret)
       .skip))
     (.seq (.reg [⟨(some 24), .mv, [.tmp 0], none⟩,
          ⟨(some 25), .mkslice 1 1 [.lit (.bool false)], [.tmp 24, .tmp 24], none⟩,
          ⟨(some 6), .mv, [.tmp 25], none⟩])
      (.seq (.seq (.reg [⟨(some 26), .mv, [.tmp 1], none⟩,
            ⟨(some 27), .mv, [.const (.int .i64 0)], none⟩])
        (.block 0 (.loop (.seq (.reg [⟨(some 28), .bin .lss, [.tmp 27, .tmp 26], none⟩])
           (.seq (.cond (.tmp 28)
             .skip
             (.exit 0))
            (.seq (.block 1 (.seq (.reg [⟨(some 29), .mv, [.tmp 27], none⟩,
                   ⟨(some 7), .mv, [.tmp 29], none⟩])
               (.reg [⟨(some 30), .mv, [.tmp 6], none⟩,
                   ⟨(some 31), .mv, [.tmp 7], none⟩,
                   ⟨(some 32), .iaddr none 1, [.tmp 30, .tmp 31], none⟩,
                   ⟨none, .store 1, [.tmp 32, .const (.bool true)], none⟩])))
             (.reg [⟨(some 33), .bin .add, [.tmp 27, .const (.int .i64 1)], none⟩,
                 ⟨(some 27), .mv, [.tmp 33], none⟩])))))))
       (.seq (.reg [⟨(some 34), .mv, [.tmp 6], none⟩,
            ⟨(some 35), .build [.sl true 0 (some 0) [], .sl true 0 (some 0) [], .lit (.int .i64 0)] [(0, 1)], [.tmp 34], none⟩,
            ⟨none, .store 3, [.tmp 4, .tmp 35], none⟩,
            ⟨(some 5), .mv, [.const (.int .i64 0)], none⟩])
        .ret)))))

theorem tab15 : tab 15 = some A15 := by unfold tab; kernel_rfl

/-- downspout/downspoutref25.New -/
def A16 : AFn where
  isPure := false
  ntmps := 39
  res := [(4, some (true, 3)), (5, none)]
  body := (.seq (.reg [⟨(some 4), .new [.sl true 0 (some 0) [], .sl true 0 (some 0) [], .lit (.int .i64 0)], [], none⟩,
        ⟨(some 5), .mv, [.const (.int .i64 0)], none⟩])
    (.seq (.seq (.reg [⟨(some 8), .mv, [.tmp 0], none⟩,
          ⟨(some 9), .bin .lss, [.tmp 8, .const (.int .i64 1)], none⟩,
          ⟨(some 10), .mv, [.tmp 9], none⟩,
          ⟨(some 11), .mv, [.tmp 0], (some (10, false))⟩,
          ⟨(some 12), .bin .gtr, [.tmp 11, .const (.int .i64 4096)], (some (10, false))⟩,
          ⟨(some 13), .pick, [.tmp 10, .const (.bool true), .tmp 12], none⟩,
          ⟨(some 14), .mv, [.tmp 13], none⟩,
          ⟨(some 15), .mv, [.tmp 1], (some (14, false))⟩,
          ⟨(some 16), .bin .lss, [.tmp 15, .const (.int .i64 0)], (some (14, false))⟩,
          ⟨(some 17), .pick, [.tmp 14, .const (.bool true), .tmp 16], none⟩,
          ⟨(some 18), .mv, [.tmp 17], none⟩,
          ⟨(some 19), .mv, [.tmp 1], (some (18, false))⟩,
          ⟨(some 20), .mv, [.tmp 0], (some (18, false))⟩,
          ⟨(some 21), .bin .gtr, [.tmp 19, .tmp 20], (some (18, false))⟩,
          ⟨(some 22), .pick, [.tmp 18, .const (.bool true), .tmp 21], none⟩])
      (.cond (.tmp 22)
       (.seq (.reg [⟨(some 23), .build [.sl true 0 (some 0) [], .sl true 0 (some 0) [], .lit (.int .i64 0)] [], [], none⟩,
            ⟨none, .store 3, [.tmp 4, .tmp 23], none⟩,
            ⟨(some 5), .mv, [.const (.int .i64 1)], none⟩])
        .ret)
       .skip))
     (.seq (.reg [⟨(some 24), .build [.sl true 0 (some 0) [], .sl true 0 (some 0) [], .lit (.int .i64 0)] [], [], none⟩,
          ⟨(some 6), .new [.sl true 0 (some 0) [], .sl true 0 (some 0) [], .lit (.int .i64 0)], [], none⟩,
          ⟨none, .store 3, [.tmp 6, .tmp 24], none⟩])
      (.seq (.seq (.reg [⟨(some 7), .mv, [.const (.int .i64 0)], none⟩])
        (.block 0 (.loop (.seq (.seq (.reg [⟨(some 25), .mv, [.tmp 7], none⟩,
                ⟨(some 26), .mv, [.tmp 0], none⟩,
                ⟨(some 27), .bin .lss, [.tmp 25, .tmp 26], none⟩])
            (.cond (.tmp 27)
             .skip
             (.exit 0)))
           (.seq (.block 1 (.reg [⟨(some 30), .faddr 0, [.tmp 6], none⟩,
                 ⟨(some 31), .load false 1, [.tmp 30], none⟩,
                 ⟨(some 32), .mv, [.tmp 7], none⟩,
                 ⟨(some 33), .mv, [.tmp 1], none⟩,
                 ⟨(some 34), .bin .lss, [.tmp 32, .tmp 33], none⟩,
                 ⟨(some 35), .bslice 1 1 [.lit (.bool false)] [(0, 1)], [.tmp 34], none⟩,
                 ⟨(some 36), .append 1 1, [.tmp 31, .tmp 35], none⟩,
                 ⟨(some 37), .faddr 0, [.tmp 6], none⟩,
                 ⟨none, .store 1, [.tmp 37, .tmp 36], none⟩]))
            (.reg [⟨(some 28), .mv, [.tmp 7], none⟩,
                ⟨(some 29), .bin .add, [.tmp 28, .const (.int .i64 1)], none⟩,
                ⟨(some 7), .mv, [.tmp 29], none⟩]))))))
       (.seq (.reg [⟨(some 38), .load true 3, [.tmp 6], none⟩,
            ⟨none, .store 3, [.tmp 4, .tmp 38], none⟩,
            ⟨(some 5), .mv, [.const (.int .i64 0)], none⟩])
        .ret)))))

theorem tab16 : tab 16 = some A16 := by unfold tab; kernel_rfl

/-- downspout/downspoutref25.Same -/
def A17 : AFn where
  isPure := true
  ntmps := 66
  res := [(4, none)]
  body := (.seq (.reg [⟨(some 2), .box, [.tmp 0], none⟩,
        ⟨(some 3), .box, [.tmp 1], none⟩,
        ⟨(some 4), .mv, [.const (.bool false)], none⟩])
    (.seq (.seq (.reg [⟨(some 7), .faddr 0, [.tmp 2], none⟩,
          ⟨(some 8), .load false 1, [.tmp 7], none⟩,
          ⟨(some 9), .len false, [.tmp 8], none⟩,
          ⟨(some 10), .faddr 0, [.tmp 3], none⟩,
          ⟨(some 11), .load false 1, [.tmp 10], none⟩,
          ⟨(some 12), .len false, [.tmp 11], none⟩,
          ⟨(some 13), .bin .neq, [.tmp 9, .tmp 12], none⟩,
          ⟨(some 14), .mv, [.tmp 13], none⟩,
          ⟨(some 15), .faddr 1, [.tmp 2], (some (14, false))⟩,
          ⟨(some 16), .load false 1, [.tmp 15], (some (14, false))⟩,
          ⟨(some 17), .len false, [.tmp 16], (some (14, false))⟩,
          ⟨(some 18), .faddr 1, [.tmp 3], (some (14, false))⟩,
          ⟨(some 19), .load false 1, [.tmp 18], (some (14, false))⟩,
          ⟨(some 20), .len false, [.tmp 19], (some (14, false))⟩,
          ⟨(some 21), .bin .neq, [.tmp 17, .tmp 20], (some (14, false))⟩,
          ⟨(some 22), .pick, [.tmp 14, .const (.bool true), .tmp 21], none⟩,
          ⟨(some 23), .mv, [.tmp 22], none⟩,
          ⟨(some 24), .faddr 2, [.tmp 2], (some (23, false))⟩,
          ⟨(some 25), .load false 1, [.tmp 24], (some (23, false))⟩,
          ⟨(some 26), .faddr 2, [.tmp 3], (some (23, false))⟩,
          ⟨(some 27), .load false 1, [.tmp 26], (some (23, false))⟩,
          ⟨(some 28), .bin .neq, [.tmp 25, .tmp 27], (some (23, false))⟩,
          ⟨(some 29), .pick, [.tmp 23, .const (.bool true), .tmp 28], none⟩])
      (.cond (.tmp 29)
       (.seq (.reg [⟨(some 4), .mv, [.const (.bool false)], none⟩])
        .ret)
       .skip))
     (.seq (.seq (.reg [⟨(some 5), .mv, [.const (.int .i64 0)], none⟩])
       (.block 0 (.loop (.seq (.seq (.reg [⟨(some 30), .mv, [.tmp 5], none⟩,
               ⟨(some 31), .faddr 0, [.tmp 2], none⟩,
               ⟨(some 32), .load false 1, [.tmp 31], none⟩,
               ⟨(some 33), .len false, [.tmp 32], none⟩,
               ⟨(some 34), .bin .lss, [.tmp 30, .tmp 33], none⟩])
           (.cond (.tmp 34)
            .skip
            (.exit 0)))
          (.seq (.block 1 (.seq (.dreg [⟨⟨(some 37), .faddr 0, [.tmp 2], none⟩, [], none⟩,
                 ⟨⟨(some 38), .load false 1, [.tmp 37], none⟩, [], none⟩,
                 ⟨⟨(some 39), .mv, [.tmp 5], none⟩, [], none⟩,
                 ⟨⟨(some 40), .iaddr none 1, [.tmp 38, .tmp 39], none⟩, [], none⟩,
                 ⟨⟨(some 41), .load false 1, [.tmp 40], none⟩, [], none⟩,
                 ⟨⟨(some 42), .faddr 0, [.tmp 3], none⟩, [], none⟩,
                 ⟨⟨(some 43), .load false 1, [.tmp 42], none⟩, [], none⟩,
                 ⟨⟨(some 44), .mv, [.tmp 5], none⟩, [], none⟩,
                 ⟨⟨(some 45), .iaddr none 1, [.tmp 43, .tmp 44], none⟩, [], none⟩,
                 ⟨⟨(some 46), .load false 1, [.tmp 45], none⟩, [], none⟩,
                 ⟨⟨(some 47), .beq true, [.tmp 41, .tmp 46], none⟩, [], none⟩])
             (.cond (.tmp 47)
              (.seq (.reg [⟨(some 4), .mv, [.const (.bool false)], none⟩])
               .ret)
              .skip)))
           (.reg [⟨(some 35), .mv, [.tmp 5], none⟩,
               ⟨(some 36), .bin .add, [.tmp 35, .const (.int .i64 1)], none⟩,
               ⟨(some 5), .mv, [.tmp 36], none⟩]))))))
      (.seq (.seq (.reg [⟨(some 6), .mv, [.const (.int .i64 0)], none⟩])
        (.block 2 (.loop (.seq (.seq (.reg [⟨(some 48), .mv, [.tmp 6], none⟩,
                ⟨(some 49), .faddr 1, [.tmp 2], none⟩,
                ⟨(some 50), .load false 1, [.tmp 49], none⟩,
                ⟨(some 51), .len false, [.tmp 50], none⟩,
                ⟨(some 52), .bin .lss, [.tmp 48, .tmp 51], none⟩])
            (.cond (.tmp 52)
             .skip
             (.exit 2)))
           (.seq (.block 3 (.seq (.dreg [⟨⟨(some 55), .faddr 1, [.tmp 2], none⟩, [], none⟩,
                  ⟨⟨(some 56), .load false 1, [.tmp 55], none⟩, [], none⟩,
                  ⟨⟨(some 57), .mv, [.tmp 6], none⟩, [], none⟩,
                  ⟨⟨(some 58), .iaddr none 1, [.tmp 56, .tmp 57], none⟩, [], none⟩,
                  ⟨⟨(some 59), .load false 1, [.tmp 58], none⟩, [], none⟩,
                  ⟨⟨(some 60), .faddr 1, [.tmp 3], none⟩, [], none⟩,
                  ⟨⟨(some 61), .load false 1, [.tmp 60], none⟩, [], none⟩,
                  ⟨⟨(some 62), .mv, [.tmp 6], none⟩, [], none⟩,
                  ⟨⟨(some 63), .iaddr none 1, [.tmp 61, .tmp 62], none⟩, [], none⟩,
                  ⟨⟨(some 64), .load false 1, [.tmp 63], none⟩, [], none⟩,
                  ⟨⟨(some 65), .bin .neq, [.tmp 59, .tmp 64], none⟩, [], none⟩])
              (.cond (.tmp 65)
               (.seq (.reg [⟨(some 4), .mv, [.const (.bool false)], none⟩])
                .ret)
               .skip)))
            (.reg [⟨(some 53), .mv, [.tmp 6], none⟩,
                ⟨(some 54), .bin .add, [.tmp 53, .const (.int .i64 1)], none⟩,
                ⟨(some 6), .mv, [.tmp 54], none⟩]))))))
       (.seq (.reg [⟨(some 4), .mv, [.const (.bool true)], none⟩])
        .ret)))))

theorem tab17 : tab 17 = some A17 := by unfold tab; kernel_rfl

/-- downspout/downspoutlaw25.same -/
def A18 : AFn where
  isPure := true
  ntmps := 24
  res := [(4, none)]
  body := (.seq (.reg [⟨(some 2), .box, [.tmp 0], none⟩,
        ⟨(some 3), .box, [.tmp 1], none⟩,
        ⟨(some 4), .mv, [.const (.bool false)], none⟩])
    (.seq (.reg [⟨(some 5), .faddr 0, [.tmp 2], none⟩,
         ⟨(some 6), .load true 3, [.tmp 5], none⟩,
         ⟨(some 7), .faddr 0, [.tmp 3], none⟩,
         ⟨(some 8), .load true 3, [.tmp 7], none⟩,
         ⟨(some 9), .call, [.func 17, .tmp 6, .tmp 8], none⟩,
         ⟨(some 10), .mv, [.tmp 9], none⟩,
         ⟨(some 11), .faddr 3, [.tmp 2], (some (10, true))⟩,
         ⟨(some 12), .load false 1, [.tmp 11], (some (10, true))⟩,
         ⟨(some 13), .faddr 3, [.tmp 3], (some (10, true))⟩,
         ⟨(some 14), .load false 1, [.tmp 13], (some (10, true))⟩,
         ⟨(some 15), .bin .eql, [.tmp 12, .tmp 14], (some (10, true))⟩,
         ⟨(some 16), .pick, [.tmp 10, .tmp 15, .const (.bool false)], none⟩,
         ⟨(some 17), .mv, [.tmp 16], none⟩,
         ⟨(some 18), .faddr 4, [.tmp 2], (some (17, true))⟩,
         ⟨(some 19), .load false 1, [.tmp 18], (some (17, true))⟩,
         ⟨(some 20), .faddr 4, [.tmp 3], (some (17, true))⟩,
         ⟨(some 21), .load false 1, [.tmp 20], (some (17, true))⟩,
         ⟨(some 22), .bin .eql, [.tmp 19, .tmp 21], (some (17, true))⟩,
         ⟨(some 23), .pick, [.tmp 17, .tmp 22, .const (.bool false)], none⟩,
         ⟨(some 4), .mv, [.tmp 23], none⟩])
     .ret))

theorem tab18 : tab 18 = some A18 := by unfold tab; kernel_rfl

/-- downspout/downspoutlaw25.take -/
def A19 : AFn where
  isPure := true
  ntmps := 16
  res := [(2, some (true, 5))]
  body := (.seq (.reg [⟨(some 1), .box, [.tmp 0], none⟩,
        ⟨(some 2), .new [.sl true 0 (some 0) [], .sl true 0 (some 0) [], .lit (.int .i64 0), .lit (.int .i64 0), .lit (.int .i64 0)], [], none⟩])
    (.seq (.reg [⟨(some 7), .load true 3, [.tmp 1], none⟩,
         ⟨(some 8), .call, [.func 34, .tmp 7], none⟩,
         ⟨(some 6), .mv, [.tmp 8], none⟩,
         ⟨(some 9), .ext 0, [.tmp 6], none⟩,
         ⟨(some 10), .ext 1, [.tmp 6], none⟩,
         ⟨(some 11), .ext 2, [.tmp 6], none⟩,
         ⟨(some 3), .new [.sl true 0 (some 0) [], .sl true 0 (some 0) [], .lit (.int .i64 0)], [], none⟩,
         ⟨none, .store 3, [.tmp 3, .tmp 9], none⟩,
         ⟨(some 4), .mv, [.tmp 10], none⟩,
         ⟨(some 5), .mv, [.tmp 11], none⟩])
     (.seq (.reg [⟨(some 12), .load true 3, [.tmp 3], none⟩,
          ⟨(some 13), .mv, [.tmp 4], none⟩,
          ⟨(some 14), .mv, [.tmp 5], none⟩,
          ⟨(some 15), .build [.sl true 0 (some 0) [], .sl true 0 (some 0) [], .lit (.int .i64 0), .lit (.int .i64 0), .lit (.int .i64 0)] [(0, 3), (3, 1), (4, 1)], [.tmp 12, .tmp 13, .tmp 14], none⟩,
          ⟨none, .store 5, [.tmp 2, .tmp 15], none⟩])
      .ret)))

theorem tab19 : tab 19 = some A19 := by unfold tab; kernel_rfl

/-- downspout/downspoutref25.Take -/
def A20 : AFn where
  isPure := true
  ntmps := 10
  res := [(2, some (true, 5))]
  body := (.seq (.reg [⟨(some 1), .box, [.tmp 0], none⟩,
        ⟨(some 2), .new [.sl true 0 (some 0) [], .sl true 0 (some 0) [], .lit (.int .i64 0), .lit (.int .i64 0), .lit (.int .i64 0)], [], none⟩])
    (.seq (.seq (.reg [⟨(some 3), .load true 3, [.tmp 1], none⟩,
          ⟨(some 4), .call, [.func 26, .tmp 3], none⟩,
          ⟨(some 5), .bin .lss, [.tmp 4, .const (.int .i64 1)], none⟩])
      (.cond (.tmp 5)
       (.seq (.reg [⟨(some 6), .load true 3, [.tmp 1], none⟩,
            ⟨(some 7), .build [.sl true 0 (some 0) [], .sl true 0 (some 0) [], .lit (.int .i64 0), .lit (.int .i64 0), .lit (.int .i64 0)] [(0, 3), (4, 1)], [.tmp 6, .const (.int .i64 250)], none⟩,
            ⟨none, .store 5, [.tmp 2, .tmp 7], none⟩])
        .ret)
       .skip))
     (.seq (.reg [⟨(some 8), .load true 3, [.tmp 1], none⟩,
          ⟨(some 9), .call, [.func 35, .tmp 8], none⟩,
          ⟨none, .store 5, [.tmp 2, .tmp 9], none⟩])
      .ret)))

theorem tab20 : tab 20 = some A20 := by unfold tab; kernel_rfl

/-- downspout/downspoutlaw25.spend -/
def A21 : AFn where
  isPure := true
  ntmps := 16
  res := [(2, some (true, 5))]
  body := (.seq (.reg [⟨(some 1), .box, [.tmp 0], none⟩,
        ⟨(some 2), .new [.sl true 0 (some 0) [], .sl true 0 (some 0) [], .lit (.int .i64 0), .lit (.int .i64 0), .lit (.int .i64 0)], [], none⟩])
    (.seq (.reg [⟨(some 7), .load true 3, [.tmp 1], none⟩,
         ⟨(some 8), .call, [.func 36, .tmp 7], none⟩,
         ⟨(some 6), .mv, [.tmp 8], none⟩,
         ⟨(some 9), .ext 0, [.tmp 6], none⟩,
         ⟨(some 10), .ext 1, [.tmp 6], none⟩,
         ⟨(some 11), .ext 2, [.tmp 6], none⟩,
         ⟨(some 3), .new [.sl true 0 (some 0) [], .sl true 0 (some 0) [], .lit (.int .i64 0)], [], none⟩,
         ⟨none, .store 3, [.tmp 3, .tmp 9], none⟩,
         ⟨(some 4), .mv, [.tmp 10], none⟩,
         ⟨(some 5), .mv, [.tmp 11], none⟩])
     (.seq (.reg [⟨(some 12), .load true 3, [.tmp 3], none⟩,
          ⟨(some 13), .mv, [.tmp 4], none⟩,
          ⟨(some 14), .mv, [.tmp 5], none⟩,
          ⟨(some 15), .build [.sl true 0 (some 0) [], .sl true 0 (some 0) [], .lit (.int .i64 0), .lit (.int .i64 0), .lit (.int .i64 0)] [(0, 3), (3, 1), (4, 1)], [.tmp 12, .tmp 13, .tmp 14], none⟩,
          ⟨none, .store 5, [.tmp 2, .tmp 15], none⟩])
      .ret)))

theorem tab21 : tab 21 = some A21 := by unfold tab; kernel_rfl

/-- downspout/downspoutref25.Spend -/
def A22 : AFn where
  isPure := true
  ntmps := 18
  res := [(2, some (true, 5))]
  body := (.seq (.reg [⟨(some 1), .box, [.tmp 0], none⟩,
        ⟨(some 2), .new [.sl true 0 (some 0) [], .sl true 0 (some 0) [], .lit (.int .i64 0), .lit (.int .i64 0), .lit (.int .i64 0)], [], none⟩])
    (.seq (.seq (.reg [⟨(some 4), .faddr 2, [.tmp 1], none⟩,
          ⟨(some 5), .load false 1, [.tmp 4], none⟩,
          ⟨(some 6), .bin .lss, [.tmp 5, .const (.int .i64 1)], none⟩])
      (.cond (.tmp 6)
       (.seq (.reg [⟨(some 7), .load true 3, [.tmp 1], none⟩,
            ⟨(some 8), .build [.sl true 0 (some 0) [], .sl true 0 (some 0) [], .lit (.int .i64 0), .lit (.int .i64 0), .lit (.int .i64 0)] [(0, 3), (4, 1)], [.tmp 7, .const (.int .i64 250)], none⟩,
            ⟨none, .store 5, [.tmp 2, .tmp 8], none⟩])
        .ret)
       .skip))
     (.seq (.reg [⟨(some 9), .load true 3, [.tmp 1], none⟩,
          ⟨(some 10), .call, [.func 35, .tmp 9], none⟩,
          ⟨(some 3), .new [.sl true 0 (some 0) [], .sl true 0 (some 0) [], .lit (.int .i64 0), .lit (.int .i64 0), .lit (.int .i64 0)], [], none⟩,
          ⟨none, .store 5, [.tmp 3, .tmp 10], none⟩])
      (.seq (.reg [⟨(some 11), .faddr 0, [.tmp 3], none⟩,
           ⟨(some 12), .faddr 2, [.tmp 11], none⟩,
           ⟨(some 13), .load false 1, [.tmp 12], none⟩,
           ⟨(some 14), .bin .sub, [.tmp 13, .const (.int .i64 1)], none⟩,
           ⟨(some 15), .faddr 0, [.tmp 3], none⟩,
           ⟨(some 16), .faddr 2, [.tmp 15], none⟩,
           ⟨none, .store 1, [.tmp 16, .tmp 14], none⟩])
       (.seq (.reg [⟨(some 17), .load true 5, [.tmp 3], none⟩,
            ⟨none, .store 5, [.tmp 2, .tmp 17], none⟩])
        .ret)))))

theorem tab22 : tab 22 = some A22 := by unfold tab; kernel_rfl

/-- downspout/alloc.Commit -/
def A23 : AFn where
  isPure := true
  ntmps := 10
  res := [(2, some (true, 3))]
  body := (.seq (.reg [⟨(some 1), .box, [.tmp 0], none⟩,
        ⟨(some 2), .new [.sl true 0 (some 0) [], .sl true 0 (some 0) [], .lit (.int .i64 0)], [], none⟩])
    (.seq (.reg [⟨(some 4), .load true 3, [.tmp 1], none⟩,
         ⟨(some 5), .faddr 1, [.tmp 1], none⟩,
         ⟨(some 6), .load false 1, [.tmp 5], none⟩,
         ⟨(some 7), .call, [.func 37, .tmp 4, .tmp 6, .const (.bool false)], none⟩,
         ⟨(some 3), .new [.sl true 0 (some 0) [], .sl true 0 (some 0) [], .lit (.int .i64 0)], [], none⟩,
         ⟨none, .store 3, [.tmp 3, .tmp 7], none⟩])
     (.seq (.reg [⟨(some 8), .faddr 1, [.tmp 3], none⟩,
          ⟨none, .store 1, [.tmp 8, .const (.slice none 0 0)], none⟩])
      (.seq (.reg [⟨(some 9), .load true 3, [.tmp 3], none⟩,
           ⟨none, .store 3, [.tmp 2, .tmp 9], none⟩])
       .ret))))

theorem tab23 : tab 23 = some A23 := by unfold tab; kernel_rfl

/-- downspout/downspoutref25.Commit -/
def A24 : AFn where
  isPure := true
  ntmps := 27
  res := [(2, some (true, 3))]
  body := (.seq (.reg [⟨(some 1), .box, [.tmp 0], none⟩,
        ⟨(some 2), .new [.sl true 0 (some 0) [], .sl true 0 (some 0) [], .lit (.int .i64 0)], [], none⟩])
    (.seq (.reg [⟨(some 5), .bslice 0 1 [] [], [], none⟩,
         ⟨(some 6), .faddr 0, [.tmp 1], none⟩,
         ⟨(some 7), .load false 1, [.tmp 6], none⟩,
         ⟨(some 8), .append 1 1, [.tmp 5, .tmp 7], none⟩,
         ⟨(some 3), .mv, [.tmp 8], none⟩])
     (.seq (.seq (.reg [⟨(some 4), .mv, [.const (.int .i64 0)], none⟩])
       (.block 0 (.loop (.seq (.seq (.reg [⟨(some 9), .mv, [.tmp 4], none⟩,
               ⟨(some 10), .faddr 1, [.tmp 1], none⟩,
               ⟨(some 11), .load false 1, [.tmp 10], none⟩,
               ⟨(some 12), .len false, [.tmp 11], none⟩,
               ⟨(some 13), .bin .lss, [.tmp 9, .tmp 12], none⟩])
           (.cond (.tmp 13)
            .skip
            (.exit 0)))
          (.seq (.block 1 (.reg [⟨(some 16), .mv, [.tmp 3], none⟩,
                ⟨(some 17), .faddr 1, [.tmp 1], none⟩,
                ⟨(some 18), .load false 1, [.tmp 17], none⟩,
                ⟨(some 19), .mv, [.tmp 4], none⟩,
                ⟨(some 20), .iaddr none 1, [.tmp 18, .tmp 19], none⟩,
                ⟨(some 21), .load false 1, [.tmp 20], none⟩,
                ⟨(some 22), .iaddr none 1, [.tmp 16, .tmp 21], none⟩,
                ⟨none, .store 1, [.tmp 22, .const (.bool false)], none⟩]))
           (.reg [⟨(some 14), .mv, [.tmp 4], none⟩,
               ⟨(some 15), .bin .add, [.tmp 14, .const (.int .i64 1)], none⟩,
               ⟨(some 4), .mv, [.tmp 15], none⟩]))))))
      (.seq (.reg [⟨(some 23), .mv, [.tmp 3], none⟩,
           ⟨(some 24), .faddr 2, [.tmp 1], none⟩,
           ⟨(some 25), .load false 1, [.tmp 24], none⟩,
           ⟨(some 26), .build [.sl true 0 (some 0) [], .sl true 0 (some 0) [], .lit (.int .i64 0)] [(0, 1), (2, 1)], [.tmp 23, .tmp 25], none⟩,
           ⟨none, .store 3, [.tmp 2, .tmp 26], none⟩])
       .ret))))

theorem tab24 : tab 24 = some A24 := by unfold tab; kernel_rfl

/-- downspout/alloc.Left -/
def A25 : AFn where
  isPure := true
  ntmps := 8
  res := [(2, none)]
  body := (.seq (.reg [⟨(some 1), .box, [.tmp 0], none⟩,
        ⟨(some 2), .mv, [.const (.int .i64 0)], none⟩])
    (.seq (.dreg [⟨⟨(some 3), .load true 3, [.tmp 1], none⟩, [], none⟩,
         ⟨⟨(some 4), .call, [.func 33, .tmp 3], none⟩, [], none⟩,
         ⟨⟨(some 5), .faddr 2, [.tmp 1], none⟩, [], none⟩,
         ⟨⟨(some 6), .load false 1, [.tmp 5], none⟩, [], none⟩,
         ⟨⟨(some 7), .bin .sub, [.tmp 4, .tmp 6], none⟩, [], none⟩,
         ⟨⟨(some 2), .mv, [.tmp 7], none⟩, [], none⟩])
     .ret))

theorem tab25 : tab 25 = some A25 := by unfold tab; kernel_rfl

/-- downspout/downspoutref25.Left -/
def A26 : AFn where
  isPure := true
  ntmps := 8
  res := [(2, none)]
  body := (.seq (.reg [⟨(some 1), .box, [.tmp 0], none⟩,
        ⟨(some 2), .mv, [.const (.int .i64 0)], none⟩])
    (.seq (.dreg [⟨⟨(some 3), .load true 3, [.tmp 1], none⟩, [], none⟩,
         ⟨⟨(some 4), .call, [.func 29, .tmp 3], none⟩, [], none⟩,
         ⟨⟨(some 5), .faddr 2, [.tmp 1], none⟩, [], none⟩,
         ⟨⟨(some 6), .load false 1, [.tmp 5], none⟩, [], none⟩,
         ⟨⟨(some 7), .bin .sub, [.tmp 4, .tmp 6], none⟩, [], none⟩,
         ⟨⟨(some 2), .mv, [.tmp 7], none⟩, [], none⟩])
     .ret))

theorem tab26 : tab 26 = some A26 := by unfold tab; kernel_rfl

/-- downspout/downspoutlaw25.step -/
def A27 : AFn where
  isPure := true
  ntmps := 51
  res := [(4, some (true, 3))]
  body := (.seq (.reg [⟨(some 2), .box, [.tmp 0], none⟩,
        ⟨(some 3), .box, [.tmp 1], none⟩,
        ⟨(some 4), .new [.sl true 0 (some 0) [], .sl true 0 (some 0) [], .lit (.int .i64 0)], [], none⟩])
    (.seq (.seq (.reg [⟨(some 9), .iaddr (some 2) 1, [.tmp 3, .const (.int .i64 0)], none⟩,
          ⟨(some 10), .load false 1, [.tmp 9], none⟩,
          ⟨(some 11), .bin .rem, [.tmp 10, .const (.int .u8 6)], none⟩])
      (.block 0 (.seq (.seq (.reg [⟨(some 13), .bin .eql, [.tmp 11, .const (.int .u8 0)], none⟩,
             ⟨(some 12), .mv, [.tmp 13], none⟩])
         (.cond (.tmp 12)
          .skip
          (.reg [⟨(some 14), .bin .eql, [.tmp 11, .const (.int .u8 1)], none⟩,
              ⟨(some 12), .mv, [.tmp 14], none⟩])))
        (.cond (.tmp 12)
         (.seq (.reg [⟨(some 15), .load true 3, [.tmp 2], none⟩,
              ⟨(some 16), .call, [.func 19, .tmp 15], none⟩,
              ⟨(some 17), .field true 0 3, [.tmp 16], none⟩,
              ⟨none, .store 3, [.tmp 4, .tmp 17], none⟩])
          .ret)
         (.seq (.reg [⟨(some 19), .bin .eql, [.tmp 11, .const (.int .u8 2)], none⟩,
              ⟨(some 18), .mv, [.tmp 19], none⟩])
          (.cond (.tmp 18)
           (.seq (.reg [⟨(some 20), .load true 3, [.tmp 2], none⟩,
                ⟨(some 21), .call, [.func 21, .tmp 20], none⟩,
                ⟨(some 22), .field true 0 3, [.tmp 21], none⟩,
                ⟨none, .store 3, [.tmp 4, .tmp 22], none⟩])
            .ret)
           (.seq (.reg [⟨(some 24), .bin .eql, [.tmp 11, .const (.int .u8 3)], none⟩,
                ⟨(some 23), .mv, [.tmp 24], none⟩])
            (.cond (.tmp 23)
             (.seq (.reg [⟨(some 26), .load true 3, [.tmp 2], none⟩,
                  ⟨(some 27), .iaddr (some 2) 1, [.tmp 3, .const (.int .i64 1)], none⟩,
                  ⟨(some 28), .load false 1, [.tmp 27], none⟩,
                  ⟨(some 29), .conv .i64, [.tmp 28], none⟩,
                  ⟨(some 30), .bin .rem, [.tmp 29, .const (.int .i64 17)], none⟩,
                  ⟨(some 31), .bin .sub, [.tmp 30, .const (.int .i64 1)], none⟩,
                  ⟨(some 32), .call, [.func 11, .tmp 26, .tmp 31], none⟩,
                  ⟨(some 25), .mv, [.tmp 32], none⟩,
                  ⟨(some 33), .ext 0, [.tmp 25], none⟩,
                  ⟨(some 34), .ext 1, [.tmp 25], none⟩,
                  ⟨(some 5), .new [.sl true 0 (some 0) [], .sl true 0 (some 0) [], .lit (.int .i64 0)], [], none⟩,
                  ⟨none, .store 3, [.tmp 5, .tmp 33], none⟩,
                  ⟨(some 6), .mv, [.tmp 34], none⟩])
              (.seq (.reg [⟨(some 35), .load true 3, [.tmp 5], none⟩,
                   ⟨none, .store 3, [.tmp 4, .tmp 35], none⟩])
               .ret))
             (.seq (.reg [⟨(some 37), .bin .eql, [.tmp 11, .const (.int .u8 4)], none⟩,
                  ⟨(some 36), .mv, [.tmp 37], none⟩])
              (.cond (.tmp 36)
               (.seq (.reg [⟨(some 39), .load true 3, [.tmp 2], none⟩,
                    ⟨(some 40), .iaddr (some 2) 1, [.tmp 3, .const (.int .i64 1)], none⟩,
                    ⟨(some 41), .load false 1, [.tmp 40], none⟩,
                    ⟨(some 42), .conv .i64, [.tmp 41], none⟩,
                    ⟨(some 43), .bin .rem, [.tmp 42, .const (.int .i64 18)], none⟩,
                    ⟨(some 44), .bin .sub, [.tmp 43, .const (.int .i64 1)], none⟩,
                    ⟨(some 45), .call, [.func 13, .tmp 39, .tmp 44], none⟩,
                    ⟨(some 38), .mv, [.tmp 45], none⟩,
                    ⟨(some 46), .ext 0, [.tmp 38], none⟩,
                    ⟨(some 47), .ext 1, [.tmp 38], none⟩,
                    ⟨(some 7), .new [.sl true 0 (some 0) [], .sl true 0 (some 0) [], .lit (.int .i64 0)], [], none⟩,
                    ⟨none, .store 3, [.tmp 7, .tmp 46], none⟩,
                    ⟨(some 8), .mv, [.tmp 47], none⟩])
                (.seq (.reg [⟨(some 48), .load true 3, [.tmp 7], none⟩,
                     ⟨none, .store 3, [.tmp 4, .tmp 48], none⟩])
                 .ret))
               .skip))))))))))
     (.seq (.reg [⟨(some 49), .load true 3, [.tmp 2], none⟩,
          ⟨(some 50), .call, [.func 23, .tmp 49], none⟩,
          ⟨none, .store 3, [.tmp 4, .tmp 50], none⟩])
      .ret)))

theorem tab27 : tab 27 = some A27 := by unfold tab; kernel_rfl

/-- downspout/downspoutref25.Valid -/
def A28 : AFn where
  isPure := true
  ntmps := 74
  res := [(2, none)]
  body := (.seq (.reg [⟨(some 1), .box, [.tmp 0], none⟩,
        ⟨(some 2), .mv, [.const (.bool false)], none⟩])
    (.seq (.seq (.dreg [⟨⟨(some 4), .faddr 0, [.tmp 1], none⟩, [], none⟩,
          ⟨⟨(some 5), .load false 1, [.tmp 4], none⟩, [], none⟩,
          ⟨⟨(some 6), .len false, [.tmp 5], none⟩, [], none⟩,
          ⟨⟨(some 7), .bin .lss, [.tmp 6, .const (.int .i64 1)], none⟩, [], none⟩,
          ⟨⟨(some 8), .mv, [.tmp 7], none⟩, [], none⟩,
          ⟨⟨(some 9), .faddr 0, [.tmp 1], (some (8, false))⟩, [], none⟩,
          ⟨⟨(some 10), .load false 1, [.tmp 9], (some (8, false))⟩, [], none⟩,
          ⟨⟨(some 11), .len false, [.tmp 10], (some (8, false))⟩, [], none⟩,
          ⟨⟨(some 12), .bin .gtr, [.tmp 11, .const (.int .i64 4096)], (some (8, false))⟩, [], none⟩,
          ⟨⟨(some 13), .pick, [.tmp 8, .const (.bool true), .tmp 12], none⟩, [], none⟩,
          ⟨⟨(some 14), .mv, [.tmp 13], none⟩, [], none⟩,
          ⟨⟨(some 15), .faddr 2, [.tmp 1], (some (14, false))⟩, [], none⟩,
          ⟨⟨(some 16), .load false 1, [.tmp 15], (some (14, false))⟩, [], none⟩,
          ⟨⟨(some 17), .bin .lss, [.tmp 16, .const (.int .i64 0)], (some (14, false))⟩, [], none⟩,
          ⟨⟨(some 18), .pick, [.tmp 14, .const (.bool true), .tmp 17], none⟩, [], none⟩,
          ⟨⟨(some 19), .mv, [.tmp 18], none⟩, [], none⟩,
          ⟨⟨(some 20), .faddr 2, [.tmp 1], (some (19, false))⟩, [], none⟩,
          ⟨⟨(some 21), .load false 1, [.tmp 20], (some (19, false))⟩, [], none⟩,
          ⟨⟨(some 22), .load true 3, [.tmp 1], (some (19, false))⟩, [], none⟩,
          ⟨⟨(some 23), .call, [.func 29, .tmp 22], (some (19, false))⟩, [], none⟩,
          ⟨⟨(some 24), .bin .gtr, [.tmp 21, .tmp 23], (some (19, false))⟩, [], none⟩,
          ⟨⟨(some 25), .pick, [.tmp 19, .const (.bool true), .tmp 24], none⟩, [], none⟩])
      (.cond (.tmp 25)
       (.seq (.reg [⟨(some 2), .mv, [.const (.bool false)], none⟩])
        .ret)
       .skip))
     (.seq (.seq (.reg [⟨(some 3), .mv, [.const (.int .i64 0)], none⟩])
       (.block 0 (.loop (.seq (.seq (.reg [⟨(some 26), .mv, [.tmp 3], none⟩,
               ⟨(some 27), .faddr 1, [.tmp 1], none⟩,
               ⟨(some 28), .load false 1, [.tmp 27], none⟩,
               ⟨(some 29), .len false, [.tmp 28], none⟩,
               ⟨(some 30), .bin .lss, [.tmp 26, .tmp 29], none⟩])
           (.cond (.tmp 30)
            .skip
            (.exit 0)))
          (.seq (.block 1 (.seq (.dreg [⟨⟨(some 33), .faddr 1, [.tmp 1], none⟩, [], none⟩,
                 ⟨⟨(some 34), .load false 1, [.tmp 33], none⟩, [], none⟩,
                 ⟨⟨(some 35), .mv, [.tmp 3], none⟩, [], none⟩,
                 ⟨⟨(some 36), .iaddr none 1, [.tmp 34, .tmp 35], none⟩, [], none⟩,
                 ⟨⟨(some 37), .load false 1, [.tmp 36], none⟩, [], none⟩,
                 ⟨⟨(some 38), .bin .lss, [.tmp 37, .const (.int .i64 0)], none⟩, [], none⟩,
                 ⟨⟨(some 39), .mv, [.tmp 38], none⟩, [], none⟩,
                 ⟨⟨(some 40), .faddr 1, [.tmp 1], (some (39, false))⟩, [], none⟩,
                 ⟨⟨(some 41), .load false 1, [.tmp 40], (some (39, false))⟩, [], none⟩,
                 ⟨⟨(some 42), .mv, [.tmp 3], (some (39, false))⟩, [], none⟩,
                 ⟨⟨(some 43), .iaddr none 1, [.tmp 41, .tmp 42], (some (39, false))⟩, [], none⟩,
                 ⟨⟨(some 44), .load false 1, [.tmp 43], (some (39, false))⟩, [], none⟩,
                 ⟨⟨(some 45), .faddr 0, [.tmp 1], (some (39, false))⟩, [], none⟩,
                 ⟨⟨(some 46), .load false 1, [.tmp 45], (some (39, false))⟩, [], none⟩,
                 ⟨⟨(some 47), .len false, [.tmp 46], (some (39, false))⟩, [], none⟩,
                 ⟨⟨(some 48), .bin .geq, [.tmp 44, .tmp 47], (some (39, false))⟩, [], none⟩,
                 ⟨⟨(some 49), .pick, [.tmp 39, .const (.bool true), .tmp 48], none⟩, [], none⟩,
                 ⟨⟨(some 50), .mv, [.tmp 49], none⟩, [], none⟩,
                 ⟨⟨(some 51), .faddr 0, [.tmp 1], (some (50, false))⟩, [], none⟩,
                 ⟨⟨(some 52), .load false 1, [.tmp 51], (some (50, false))⟩, [], none⟩,
                 ⟨⟨(some 53), .faddr 1, [.tmp 1], (some (50, false))⟩, [], none⟩,
                 ⟨⟨(some 54), .load false 1, [.tmp 53], (some (50, false))⟩, [], none⟩,
                 ⟨⟨(some 55), .mv, [.tmp 3], (some (50, false))⟩, [], none⟩,
                 ⟨⟨(some 56), .iaddr none 1, [.tmp 54, .tmp 55], (some (50, false))⟩, [], none⟩,
                 ⟨⟨(some 57), .load false 1, [.tmp 56], (some (50, false))⟩, [], none⟩,
                 ⟨⟨(some 58), .iaddr none 1, [.tmp 52, .tmp 57], (some (50, false))⟩, [], none⟩,
                 ⟨⟨(some 59), .load false 1, [.tmp 58], (some (50, false))⟩, [], none⟩,
                 ⟨⟨(some 60), .un .not, [.tmp 59], (some (50, false))⟩, [], none⟩,
                 ⟨⟨(some 61), .pick, [.tmp 50, .const (.bool true), .tmp 60], none⟩, [], none⟩,
                 ⟨⟨(some 62), .mv, [.tmp 61], none⟩, [], none⟩,
                 ⟨⟨(some 63), .faddr 1, [.tmp 1], (some (62, false))⟩, [], none⟩,
                 ⟨⟨(some 64), .load false 1, [.tmp 63], (some (62, false))⟩, [], none⟩,
                 ⟨⟨(some 65), .mv, [.tmp 3], (some (62, false))⟩, [], none⟩,
                 ⟨⟨(some 66), .slice 1 false true false, [.tmp 64, .tmp 65], (some (62, false))⟩, [], none⟩,
                 ⟨⟨(some 67), .faddr 1, [.tmp 1], (some (62, false))⟩, [], none⟩,
                 ⟨⟨(some 68), .load false 1, [.tmp 67], (some (62, false))⟩, [], none⟩,
                 ⟨⟨(some 69), .mv, [.tmp 3], (some (62, false))⟩, [], none⟩,
                 ⟨⟨(some 70), .iaddr none 1, [.tmp 68, .tmp 69], (some (62, false))⟩, [], none⟩,
                 ⟨⟨(some 71), .load false 1, [.tmp 70], (some (62, false))⟩, [], none⟩,
                 ⟨⟨(some 72), .call, [.func 30, .tmp 66, .tmp 71], (some (62, false))⟩, [], none⟩,
                 ⟨⟨(some 73), .pick, [.tmp 62, .const (.bool true), .tmp 72], none⟩, [], none⟩])
             (.cond (.tmp 73)
              (.seq (.reg [⟨(some 2), .mv, [.const (.bool false)], none⟩])
               .ret)
              .skip)))
           (.reg [⟨(some 31), .mv, [.tmp 3], none⟩,
               ⟨(some 32), .bin .add, [.tmp 31, .const (.int .i64 1)], none⟩,
               ⟨(some 3), .mv, [.tmp 32], none⟩]))))))
      (.seq (.reg [⟨(some 2), .mv, [.const (.bool true)], none⟩])
       .ret))))

theorem tab28 : tab 28 = some A28 := by unfold tab; kernel_rfl

/-- downspout/downspoutref25.Count -/
def A29 : AFn where
  isPure := true
  ntmps := 21
  res := [(2, none)]
  body := (.seq (.reg [⟨(some 1), .box, [.tmp 0], none⟩,
        ⟨(some 2), .mv, [.const (.int .i64 0)], none⟩])
    (.seq (.reg [⟨(some 3), .mv, [.const (.int .i64 0)], none⟩])
     (.seq (.seq (.reg [⟨(some 4), .mv, [.const (.int .i64 0)], none⟩])
       (.block 0 (.loop (.seq (.seq (.reg [⟨(some 5), .mv, [.tmp 4], none⟩,
               ⟨(some 6), .faddr 0, [.tmp 1], none⟩,
               ⟨(some 7), .load false 1, [.tmp 6], none⟩,
               ⟨(some 8), .len false, [.tmp 7], none⟩,
               ⟨(some 9), .bin .lss, [.tmp 5, .tmp 8], none⟩])
           (.cond (.tmp 9)
            .skip
            (.exit 0)))
          (.seq (.block 1 (.seq (.reg [⟨(some 12), .faddr 0, [.tmp 1], none⟩,
                 ⟨(some 13), .load false 1, [.tmp 12], none⟩,
                 ⟨(some 14), .mv, [.tmp 4], none⟩,
                 ⟨(some 15), .iaddr none 1, [.tmp 13, .tmp 14], none⟩,
                 ⟨(some 16), .load false 1, [.tmp 15], none⟩,
                 ⟨(some 17), .un .not, [.tmp 16], none⟩])
             (.cond (.tmp 17)
              (.reg [⟨(some 18), .mv, [.tmp 3], none⟩,
                  ⟨(some 19), .bin .add, [.tmp 18, .const (.int .i64 1)], none⟩,
                  ⟨(some 3), .mv, [.tmp 19], none⟩])
              .skip)))
           (.reg [⟨(some 10), .mv, [.tmp 4], none⟩,
               ⟨(some 11), .bin .add, [.tmp 10, .const (.int .i64 1)], none⟩,
               ⟨(some 4), .mv, [.tmp 11], none⟩]))))))
      (.seq (.reg [⟨(some 20), .mv, [.tmp 3], none⟩,
           ⟨(some 2), .mv, [.tmp 20], none⟩])
       .ret))))

theorem tab29 : tab 29 = some A29 := by unfold tab; kernel_rfl

/-- downspout/downspoutref25.Has -/
def A30 : AFn where
  isPure := true
  ntmps := 18
  res := [(4, none)]
  body := (.seq (.reg [⟨(some 4), .mv, [.const (.bool false)], none⟩])
    (.seq (.seq (.reg [⟨(some 5), .mv, [.const (.int .i64 0)], none⟩])
      (.block 0 (.loop (.seq (.seq (.reg [⟨(some 6), .mv, [.tmp 5], none⟩,
              ⟨(some 7), .mv, [.tmp 0], none⟩,
              ⟨(some 8), .len false, [.tmp 7], none⟩,
              ⟨(some 9), .bin .lss, [.tmp 6, .tmp 8], none⟩])
          (.cond (.tmp 9)
           .skip
           (.exit 0)))
         (.seq (.block 1 (.seq (.reg [⟨(some 12), .mv, [.tmp 0], none⟩,
                ⟨(some 13), .mv, [.tmp 5], none⟩,
                ⟨(some 14), .iaddr none 1, [.tmp 12, .tmp 13], none⟩,
                ⟨(some 15), .load false 1, [.tmp 14], none⟩,
                ⟨(some 16), .mv, [.tmp 1], none⟩,
                ⟨(some 17), .bin .eql, [.tmp 15, .tmp 16], none⟩])
            (.cond (.tmp 17)
             (.seq (.reg [⟨(some 4), .mv, [.const (.bool true)], none⟩])
              .ret)
             .skip)))
          (.reg [⟨(some 10), .mv, [.tmp 5], none⟩,
              ⟨(some 11), .bin .add, [.tmp 10, .const (.int .i64 1)], none⟩,
              ⟨(some 5), .mv, [.tmp 11], none⟩]))))))
     (.seq (.reg [⟨(some 4), .mv, [.const (.bool false)], none⟩])
      .ret)))

theorem tab30 : tab 30 = some A30 := by unfold tab; kernel_rfl

/-- slices.Contains[[]int,int] -/
def A31 : AFn where
  isPure := true
  ntmps := 9
  res := [(4, none)]
  body := (.seq (.reg [⟨(some 4), .mv, [.const (.bool false)], none⟩])
    (.seq (.reg [⟨(some 5), .mv, [.tmp 0], none⟩,
         ⟨(some 6), .mv, [.tmp 1], none⟩,
         ⟨(some 7), .call, [.func 38, .tmp 5, .tmp 6], none⟩,
         ⟨(some 8), .bin .geq, [.tmp 7, .const (.int .i64 0)], none⟩,
         ⟨(some 4), .mv, [.tmp 8], none⟩])
     .ret))

theorem tab31 : tab 31 = some A31 := by unfold tab; kernel_rfl

/-- slices.Clone[[]int,int] -/
def A32 : AFn where
  isPure := false
  ntmps := 8
  res := [(2, none)]
  body := (.seq (.reg [⟨(some 2), .mv, [.const (.slice none 0 0)], none⟩])
    (.seq (.seq (.reg [⟨(some 3), .mv, [.tmp 0], none⟩,
          ⟨(some 4), .snil false, [.tmp 3, .const (.slice none 0 0)], none⟩])
      (.cond (.tmp 4)
       (.seq (.reg [⟨(some 2), .mv, [.const (.slice none 0 0)], none⟩])
        .ret)
       .skip))
     (.seq (.reg [⟨(some 5), .bslice 0 1 [] [], [], none⟩,
          ⟨(some 6), .mv, [.tmp 0], none⟩,
          ⟨(some 7), .append 1 8, [.tmp 5, .tmp 6], none⟩,
          ⟨(some 2), .mv, [.tmp 7], none⟩])
      .ret)))

theorem tab32 : tab 32 = some A32 := by unfold tab; kernel_rfl

/-- downspout/alloc.free -/
def A33 : AFn where
  isPure := true
  ntmps := 5
  res := [(2, none)]
  body := (.seq (.reg [⟨(some 1), .box, [.tmp 0], none⟩,
        ⟨(some 2), .mv, [.const (.int .i64 0)], none⟩])
    (.seq (.reg [⟨(some 3), .load true 3, [.tmp 1], none⟩,
         ⟨(some 4), .call, [.func 39, .tmp 3, .func 40], none⟩,
         ⟨(some 2), .mv, [.tmp 4], none⟩])
     .ret))

theorem tab33 : tab 33 = some A33 := by unfold tab; kernel_rfl

/-- downspout/alloc.Take -/
def A34 : AFn where
  isPure := true
  ntmps := 18
  res := [(2, some (true, 3)), (3, none), (4, none)]
  body := (.seq (.reg [⟨(some 1), .box, [.tmp 0], none⟩,
        ⟨(some 2), .new [.sl true 0 (some 0) [], .sl true 0 (some 0) [], .lit (.int .i64 0)], [], none⟩,
        ⟨(some 3), .mv, [.const (.int .i64 0)], none⟩,
        ⟨(some 4), .mv, [.const (.int .i64 0)], none⟩])
    (.seq (.seq (.reg [⟨(some 6), .load true 3, [.tmp 1], none⟩,
          ⟨(some 7), .call, [.func 25, .tmp 6], none⟩,
          ⟨(some 8), .bin .lss, [.tmp 7, .const (.int .i64 1)], none⟩])
      (.cond (.tmp 8)
       (.seq (.reg [⟨(some 9), .load true 3, [.tmp 1], none⟩,
            ⟨none, .store 3, [.tmp 2, .tmp 9], none⟩,
            ⟨(some 3), .mv, [.const (.int .i64 0)], none⟩,
            ⟨(some 4), .mv, [.const (.int .i64 250)], none⟩])
        .ret)
       .skip))
     (.seq (.reg [⟨(some 10), .faddr 0, [.tmp 1], none⟩,
          ⟨(some 11), .load false 1, [.tmp 10], none⟩,
          ⟨(some 12), .call, [.func 41, .tmp 11, .const (.bool false)], none⟩,
          ⟨(some 5), .mv, [.tmp 12], none⟩])
      (.seq (.reg [⟨(some 13), .load true 3, [.tmp 1], none⟩,
           ⟨(some 14), .mv, [.tmp 5], none⟩,
           ⟨(some 15), .bslice 1 1 [.lit (.int .i64 0)] [(0, 1)], [.tmp 14], none⟩,
           ⟨(some 16), .call, [.func 37, .tmp 13, .tmp 15, .const (.bool true)], none⟩,
           ⟨(some 17), .mv, [.tmp 5], none⟩,
           ⟨none, .store 3, [.tmp 2, .tmp 16], none⟩,
           ⟨(some 3), .mv, [.tmp 17], none⟩,
           ⟨(some 4), .mv, [.const (.int .i64 0)], none⟩])
       .ret))))

theorem tab34 : tab 34 = some A34 := by unfold tab; kernel_rfl

/-- downspout/downspoutref25.least -/
def A35 : AFn where
  isPure := true
  ntmps := 30
  res := [(2, some (true, 5))]
  body := (.seq (.reg [⟨(some 1), .box, [.tmp 0], none⟩,
        ⟨(some 2), .new [.sl true 0 (some 0) [], .sl true 0 (some 0) [], .lit (.int .i64 0), .lit (.int .i64 0), .lit (.int .i64 0)], [], none⟩])
    (.seq (.reg [⟨(some 5), .bslice 0 1 [] [], [], none⟩,
         ⟨(some 6), .faddr 0, [.tmp 1], none⟩,
         ⟨(some 7), .load false 1, [.tmp 6], none⟩,
         ⟨(some 8), .append 1 1, [.tmp 5, .tmp 7], none⟩,
         ⟨(some 3), .mv, [.tmp 8], none⟩])
     (.seq (.seq (.reg [⟨(some 4), .mv, [.const (.int .i64 0)], none⟩])
       (.block 0 (.loop (.seq (.seq (.reg [⟨(some 9), .mv, [.tmp 4], none⟩,
               ⟨(some 10), .mv, [.tmp 3], none⟩,
               ⟨(some 11), .len false, [.tmp 10], none⟩,
               ⟨(some 12), .bin .lss, [.tmp 9, .tmp 11], none⟩])
           (.cond (.tmp 12)
            .skip
            (.exit 0)))
          (.seq (.block 1 (.seq (.reg [⟨(some 15), .mv, [.tmp 3], none⟩,
                 ⟨(some 16), .mv, [.tmp 4], none⟩,
                 ⟨(some 17), .iaddr none 1, [.tmp 15, .tmp 16], none⟩,
                 ⟨(some 18), .load false 1, [.tmp 17], none⟩,
                 ⟨(some 19), .un .not, [.tmp 18], none⟩])
             (.cond (.tmp 19)
              (.seq (.reg [⟨(some 20), .mv, [.tmp 3], none⟩,
                   ⟨(some 21), .mv, [.tmp 4], none⟩,
                   ⟨(some 22), .iaddr none 1, [.tmp 20, .tmp 21], none⟩,
                   ⟨none, .store 1, [.tmp 22, .const (.bool true)], none⟩])
               (.seq (.reg [⟨(some 23), .mv, [.tmp 3], none⟩,
                    ⟨(some 24), .faddr 0, [.tmp 1], none⟩,
                    ⟨none, .store 1, [.tmp 24, .tmp 23], none⟩])
                (.seq (.reg [⟨(some 25), .load true 3, [.tmp 1], none⟩,
                     ⟨(some 26), .mv, [.tmp 4], none⟩,
                     ⟨(some 27), .build [.sl true 0 (some 0) [], .sl true 0 (some 0) [], .lit (.int .i64 0), .lit (.int .i64 0), .lit (.int .i64 0)] [(0, 3), (3, 1)], [.tmp 25, .tmp 26], none⟩,
                     ⟨none, .store 5, [.tmp 2, .tmp 27], none⟩])
                 .ret)))
              .skip)))
           (.reg [⟨(some 13), .mv, [.tmp 4], none⟩,
               ⟨(some 14), .bin .add, [.tmp 13, .const (.int .i64 1)], none⟩,
               ⟨(some 4), .mv, [.tmp 14], none⟩]))))))
      (.seq (.reg [⟨(some 28), .load true 3, [.tmp 1], none⟩,
           ⟨(some 29), .build [.sl true 0 (some 0) [], .sl true 0 (some 0) [], .lit (.int .i64 0), .lit (.int .i64 0), .lit (.int .i64 0)] [(0, 3), (4, 1)], [.tmp 28, .const (.int .i64 250)], none⟩,
           ⟨none, .store 5, [.tmp 2, .tmp 29], none⟩])
       .ret))))

theorem tab35 : tab 35 = some A35 := by unfold tab; kernel_rfl

/-- downspout/alloc.Spend -/
def A36 : AFn where
  isPure := true
  ntmps := 22
  res := [(2, some (true, 3)), (3, none), (4, none)]
  body := (.seq (.reg [⟨(some 1), .box, [.tmp 0], none⟩,
        ⟨(some 2), .new [.sl true 0 (some 0) [], .sl true 0 (some 0) [], .lit (.int .i64 0)], [], none⟩,
        ⟨(some 3), .mv, [.const (.int .i64 0)], none⟩,
        ⟨(some 4), .mv, [.const (.int .i64 0)], none⟩])
    (.seq (.seq (.reg [⟨(some 6), .faddr 2, [.tmp 1], none⟩,
          ⟨(some 7), .load false 1, [.tmp 6], none⟩,
          ⟨(some 8), .bin .lss, [.tmp 7, .const (.int .i64 1)], none⟩])
      (.cond (.tmp 8)
       (.seq (.reg [⟨(some 9), .load true 3, [.tmp 1], none⟩,
            ⟨none, .store 3, [.tmp 2, .tmp 9], none⟩,
            ⟨(some 3), .mv, [.const (.int .i64 0)], none⟩,
            ⟨(some 4), .mv, [.const (.int .i64 250)], none⟩])
        .ret)
       .skip))
     (.seq (.reg [⟨(some 10), .faddr 0, [.tmp 1], none⟩,
          ⟨(some 11), .load false 1, [.tmp 10], none⟩,
          ⟨(some 12), .call, [.func 41, .tmp 11, .const (.bool false)], none⟩,
          ⟨(some 5), .mv, [.tmp 12], none⟩])
      (.seq (.reg [⟨(some 13), .faddr 2, [.tmp 1], none⟩,
           ⟨(some 14), .load false 1, [.tmp 13], none⟩,
           ⟨(some 15), .bin .sub, [.tmp 14, .const (.int .i64 1)], none⟩,
           ⟨(some 16), .faddr 2, [.tmp 1], none⟩,
           ⟨none, .store 1, [.tmp 16, .tmp 15], none⟩])
       (.seq (.reg [⟨(some 17), .load true 3, [.tmp 1], none⟩,
            ⟨(some 18), .mv, [.tmp 5], none⟩,
            ⟨(some 19), .bslice 1 1 [.lit (.int .i64 0)] [(0, 1)], [.tmp 18], none⟩,
            ⟨(some 20), .call, [.func 37, .tmp 17, .tmp 19, .const (.bool true)], none⟩,
            ⟨(some 21), .mv, [.tmp 5], none⟩,
            ⟨none, .store 3, [.tmp 2, .tmp 20], none⟩,
            ⟨(some 3), .mv, [.tmp 21], none⟩,
            ⟨(some 4), .mv, [.const (.int .i64 0)], none⟩])
        .ret)))))

theorem tab36 : tab 36 = some A36 := by unfold tab; kernel_rfl

/-- downspout/alloc.with -/
def A37 : AFn where
  isPure := false
  ntmps := 32
  res := [(6, some (true, 3))]
  body := (.seq (.reg [⟨(some 3), .box, [.tmp 0], none⟩,
        ⟨(some 6), .new [.sl true 0 (some 0) [], .sl true 0 (some 0) [], .lit (.int .i64 0)], [], none⟩])
    (.seq (.reg [⟨(some 10), .faddr 0, [.tmp 3], none⟩,
         ⟨(some 11), .load false 1, [.tmp 10], none⟩,
         ⟨(some 12), .len false, [.tmp 11], none⟩,
         ⟨(some 13), .mkslice 1 1 [.lit (.bool false)], [.tmp 12, .tmp 12], none⟩,
         ⟨(some 7), .mv, [.tmp 13], none⟩])
     (.seq (.reg [⟨(some 14), .mv, [.tmp 7], none⟩,
          ⟨(some 15), .faddr 0, [.tmp 3], none⟩,
          ⟨(some 16), .load false 1, [.tmp 15], none⟩,
          ⟨(some 17), .copy 1, [.tmp 14, .tmp 16], none⟩])
      (.seq (.seq (.reg [⟨(some 18), .mv, [.tmp 1], none⟩,
            ⟨(some 19), .len false, [.tmp 18], none⟩,
            ⟨(some 20), .mv, [.const (.int .i64 0)], none⟩])
        (.block 0 (.loop (.seq (.reg [⟨(some 21), .bin .lss, [.tmp 20, .tmp 19], none⟩])
           (.seq (.cond (.tmp 21)
             .skip
             (.exit 0))
            (.seq (.block 1 (.seq (.reg [⟨(some 22), .iaddr none 1, [.tmp 18, .tmp 20], none⟩,
                   ⟨(some 23), .load false 1, [.tmp 22], none⟩,
                   ⟨(some 9), .mv, [.tmp 23], none⟩])
               (.reg [⟨(some 24), .mv, [.tmp 7], none⟩,
                   ⟨(some 25), .mv, [.tmp 9], none⟩,
                   ⟨(some 26), .mv, [.tmp 2], none⟩,
                   ⟨(some 27), .iaddr none 1, [.tmp 24, .tmp 25], none⟩,
                   ⟨none, .store 1, [.tmp 27, .tmp 26], none⟩])))
             (.reg [⟨(some 28), .bin .add, [.tmp 20, .const (.int .i64 1)], none⟩,
                 ⟨(some 20), .mv, [.tmp 28], none⟩])))))))
       (.seq (.reg [⟨(some 29), .mv, [.tmp 7], none⟩,
            ⟨(some 30), .faddr 0, [.tmp 3], none⟩,
            ⟨none, .store 1, [.tmp 30, .tmp 29], none⟩])
        (.seq (.reg [⟨(some 31), .load true 3, [.tmp 3], none⟩,
             ⟨none, .store 3, [.tmp 6, .tmp 31], none⟩])
         .ret))))))

theorem tab37 : tab 37 = some A37 := by unfold tab; kernel_rfl

/-- slices.Index[[]int,int] -/
def A38 : AFn where
  isPure := false
  ntmps := 19
  res := [(4, none)]
  body := (.seq (.reg [⟨(some 4), .mv, [.const (.int .i64 0)], none⟩])
    (.seq (.seq (.reg [⟨(some 6), .mv, [.tmp 0], none⟩,
          ⟨(some 7), .len false, [.tmp 6], none⟩,
          ⟨(some 8), .mv, [.const (.int .i64 0)], none⟩])
      (.block 0 (.loop (.seq (.reg [⟨(some 9), .bin .lss, [.tmp 8, .tmp 7], none⟩])
         (.seq (.cond (.tmp 9)
           .skip
           (.exit 0))
          (.seq (.block 1 (.seq (.reg [⟨(some 10), .mv, [.tmp 8], none⟩,
                 ⟨(some 5), .mv, [.tmp 10], none⟩])
             (.seq (.reg [⟨(some 11), .mv, [.tmp 1], none⟩,
                  ⟨(some 12), .mv, [.tmp 0], none⟩,
                  ⟨(some 13), .mv, [.tmp 5], none⟩,
                  ⟨(some 14), .iaddr none 1, [.tmp 12, .tmp 13], none⟩,
                  ⟨(some 15), .load false 1, [.tmp 14], none⟩,
                  ⟨(some 16), .bin .eql, [.tmp 11, .tmp 15], none⟩])
              (.cond (.tmp 16)
               (.seq (.reg [⟨(some 17), .mv, [.tmp 5], none⟩,
                    ⟨(some 4), .mv, [.tmp 17], none⟩])
                .ret)
               .skip))))
           (.reg [⟨(some 18), .bin .add, [.tmp 8, .const (.int .i64 1)], none⟩,
               ⟨(some 8), .mv, [.tmp 18], none⟩])))))))
     (.seq (.reg [⟨(some 4), .mv, [.const (.int .i64 (-1))], none⟩])
      .ret)))

theorem tab38 : tab 38 = some A38 := by unfold tab; kernel_rfl

/-- downspout/alloc.count -/
def A39 : AFn where
  isPure := false
  ntmps := 22
  res := [(4, none)]
  body := (.seq (.reg [⟨(some 2), .box, [.tmp 0], none⟩,
        ⟨(some 4), .mv, [.const (.int .i64 0)], none⟩])
    (.seq (.reg [⟨(some 5), .mv, [.const (.int .i64 0)], none⟩])
     (.seq (.seq (.reg [⟨(some 8), .faddr 0, [.tmp 2], none⟩,
           ⟨(some 9), .load false 1, [.tmp 8], none⟩,
           ⟨(some 10), .len false, [.tmp 9], none⟩,
           ⟨(some 11), .mv, [.const (.int .i64 0)], none⟩])
       (.block 0 (.loop (.seq (.reg [⟨(some 12), .bin .lss, [.tmp 11, .tmp 10], none⟩])
          (.seq (.cond (.tmp 12)
            .skip
            (.exit 0))
           (.seq (.block 1 (.seq (.reg [⟨(some 13), .iaddr none 1, [.tmp 9, .tmp 11], none⟩,
                  ⟨(some 14), .load false 1, [.tmp 13], none⟩,
                  ⟨(some 7), .mv, [.tmp 14], none⟩])
              (.seq (.reg [⟨(some 15), .mv, [.tmp 1], none⟩,
                   ⟨(some 16), .mv, [.tmp 7], none⟩,
                   ⟨(some 17), .call, [.tmp 15, .tmp 16], none⟩])
               (.cond (.tmp 17)
                (.reg [⟨(some 18), .mv, [.tmp 5], none⟩,
                    ⟨(some 19), .bin .add, [.tmp 18, .const (.int .i64 1)], none⟩,
                    ⟨(some 5), .mv, [.tmp 19], none⟩])
                .skip))))
            (.reg [⟨(some 20), .bin .add, [.tmp 11, .const (.int .i64 1)], none⟩,
                ⟨(some 11), .mv, [.tmp 20], none⟩])))))))
      (.seq (.reg [⟨(some 21), .mv, [.tmp 5], none⟩,
           ⟨(some 4), .mv, [.tmp 21], none⟩])
       .ret))))

theorem tab39 : tab 39 = some A39 := by unfold tab; kernel_rfl

/-- downspout/alloc.free$1 -/
def A40 : AFn where
  isPure := false
  ntmps := 5
  res := [(2, none)]
  body := (.seq (.reg [⟨(some 2), .mv, [.const (.bool false)], none⟩])
    (.seq (.reg [⟨(some 3), .mv, [.tmp 0], none⟩,
         ⟨(some 4), .un .not, [.tmp 3], none⟩,
         ⟨(some 2), .mv, [.tmp 4], none⟩])
     .ret))

theorem tab40 : tab 40 = some A40 := by unfold tab; kernel_rfl

/-- slices.Index[[]bool,bool] -/
def A41 : AFn where
  isPure := false
  ntmps := 19
  res := [(4, none)]
  body := (.seq (.reg [⟨(some 4), .mv, [.const (.int .i64 0)], none⟩])
    (.seq (.seq (.reg [⟨(some 6), .mv, [.tmp 0], none⟩,
          ⟨(some 7), .len false, [.tmp 6], none⟩,
          ⟨(some 8), .mv, [.const (.int .i64 0)], none⟩])
      (.block 0 (.loop (.seq (.reg [⟨(some 9), .bin .lss, [.tmp 8, .tmp 7], none⟩])
         (.seq (.cond (.tmp 9)
           .skip
           (.exit 0))
          (.seq (.block 1 (.seq (.reg [⟨(some 10), .mv, [.tmp 8], none⟩,
                 ⟨(some 5), .mv, [.tmp 10], none⟩])
             (.seq (.reg [⟨(some 11), .mv, [.tmp 1], none⟩,
                  ⟨(some 12), .mv, [.tmp 0], none⟩,
                  ⟨(some 13), .mv, [.tmp 5], none⟩,
                  ⟨(some 14), .iaddr none 1, [.tmp 12, .tmp 13], none⟩,
                  ⟨(some 15), .load false 1, [.tmp 14], none⟩,
                  ⟨(some 16), .beq false, [.tmp 11, .tmp 15], none⟩])
              (.cond (.tmp 16)
               (.seq (.reg [⟨(some 17), .mv, [.tmp 5], none⟩,
                    ⟨(some 4), .mv, [.tmp 17], none⟩])
                .ret)
               .skip))))
           (.reg [⟨(some 18), .bin .add, [.tmp 8, .const (.int .i64 1)], none⟩,
               ⟨(some 8), .mv, [.tmp 18], none⟩])))))))
     (.seq (.reg [⟨(some 4), .mv, [.const (.int .i64 (-1))], none⟩])
      .ret)))

theorem tab41 : tab 41 = some A41 := by unfold tab; kernel_rfl

end Go.Ev
