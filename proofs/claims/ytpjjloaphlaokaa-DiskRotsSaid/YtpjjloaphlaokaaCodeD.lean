/- The evaluator's code of the functions that are reached (printed by a program of ours, gen.py, off our own compiler), and the facts that it is so. -/
import Derived.Test.YtpjjloaphlaokaaChecked
import Derived.Test.YtpjjloaphlaokaaEwA
import Derived.Test.YtpjjloaphlaokaaEvV
import Derived.KernelRfl
import Derived.Test.YtpjjloaphlaokaaSanX
set_option linter.unusedVariables false
set_option maxRecDepth 20000
namespace Go.Ev
open Go Go.Proofs

def pol : Pol := fun f => (!([18, 29, 32, 36, 37, 41, 42, 43, 44] : List Nat).contains f, match f with | 4 => [(11, [9, 10])] | 5 => [(4, [10]), (25, [19])] | 6 => [(3, [9])] | 7 => [(28, [9, 18])] | 8 => [(1000008, [97])] | 22 => [(2000006, [42])] | _ => [])
noncomputable def tab : FuncId → Option AFn := tabOf Try.prog pol xS
/-- downspout/downspoutlaw23.DiskReads -/
def A3 : AFn where
  isPure := true
  ntmps := 133
  res := [(6, none)]
  body := (.seq (.reg [⟨(some 3), .box, [.tmp 0], none⟩,
        ⟨(some 5), .box, [.tmp 2], none⟩,
        ⟨(some 6), .mv, [.const (.bool false)], none⟩])
    (.seq (.reg [⟨(some 21), .call, [.func 9], none⟩,
         ⟨(some 7), .mv, [.tmp 21], none⟩])
     (.seq (.reg [⟨(some 22), .load true 2, [.tmp 3], none⟩,
          ⟨(some 23), .mv, [.tmp 1], none⟩,
          ⟨(some 24), .call, [.func 10, .tmp 22, .tmp 23, .const (.int .i64 12)], none⟩,
          ⟨(some 8), .new [.lit (.int .i64 0), .sl true 0 (some 0) [], .sl true 0 (some 0) []], [], none⟩,
          ⟨none, .store 3, [.tmp 8, .tmp 24], none⟩])
      (.seq (.dreg [⟨⟨(some 25), .faddr 1, [.tmp 5], none⟩, [], none⟩,
           ⟨⟨(some 26), .load false 1, [.tmp 25], none⟩, [], none⟩,
           ⟨⟨(some 27), .conv .i64, [.tmp 26], none⟩, [], none⟩,
           ⟨⟨(some 28), .faddr 1, [.tmp 8], none⟩, [], none⟩,
           ⟨⟨(some 29), .load false 1, [.tmp 28], none⟩, [], none⟩,
           ⟨⟨(some 30), .len false, [.tmp 29], none⟩, [], none⟩,
           ⟨⟨(some 31), .bin .rem, [.tmp 27, .tmp 30], none⟩, [], none⟩,
           ⟨⟨(some 32), .faddr 2, [.tmp 5], none⟩, [], none⟩,
           ⟨⟨(some 33), .load false 1, [.tmp 32], none⟩, [], none⟩,
           ⟨⟨(some 34), .faddr 2, [.tmp 5], none⟩, [], none⟩,
           ⟨⟨(some 35), .load false 1, [.tmp 34], none⟩, [], none⟩,
           ⟨⟨(some 36), .len false, [.tmp 35], none⟩, [], none⟩,
           ⟨⟨(some 37), .faddr 0, [.tmp 8], none⟩, [], none⟩,
           ⟨⟨(some 38), .load false 1, [.tmp 37], none⟩, [], none⟩,
           ⟨⟨(some 39), .min, [.tmp 36, .tmp 38], none⟩, [], none⟩,
           ⟨⟨(some 40), .slice 1 false true false, [.tmp 33, .tmp 39], none⟩, [], none⟩,
           ⟨⟨(some 9), .mv, [.tmp 31], none⟩, [], none⟩,
           ⟨⟨(some 10), .mv, [.tmp 40], none⟩, [], none⟩])
       (.seq (.reg [⟨(some 42), .load true 3, [.tmp 8], none⟩,
            ⟨(some 43), .mv, [.tmp 9], none⟩,
            ⟨(some 44), .mv, [.tmp 10], none⟩,
            ⟨(some 45), .call, [.func 11, .tmp 42, .tmp 43, .tmp 44], none⟩,
            ⟨(some 41), .mv, [.tmp 45], none⟩,
            ⟨(some 46), .ext 0, [.tmp 41], none⟩,
            ⟨(some 47), .ext 1, [.tmp 41], none⟩,
            ⟨(some 11), .new [.lit (.int .i64 0), .sl true 0 (some 0) [], .sl true 0 (some 0) []], [], none⟩,
            ⟨none, .store 3, [.tmp 11, .tmp 46], none⟩,
            ⟨(some 12), .mv, [.tmp 47], none⟩])
        (.seq (.reg [⟨(some 48), .load true 3, [.tmp 11], none⟩,
             ⟨(some 49), .call, [.func 13, .tmp 48], none⟩,
             ⟨(some 50), .call, [.func 12, .tmp 49], none⟩,
             ⟨(some 13), .new [.lit (.int .i64 0), .sl true 0 (some 0) [], .sl true 0 (some 0) []], [], none⟩,
             ⟨none, .store 3, [.tmp 13, .tmp 50], none⟩])
         (.seq (.seq (.reg [⟨(some 51), .mv, [.tmp 12], none⟩,
               ⟨(some 52), .bin .neq, [.tmp 51, .const (.int .i64 0)], none⟩,
               ⟨(some 53), .mv, [.tmp 52], none⟩,
               ⟨(some 54), .faddr 2, [.tmp 13], (some (53, false))⟩,
               ⟨(some 55), .load false 1, [.tmp 54], (some (53, false))⟩,
               ⟨(some 56), .len false, [.tmp 55], (some (53, false))⟩,
               ⟨(some 57), .bin .neq, [.tmp 56, .const (.int .i64 0)], (some (53, false))⟩,
               ⟨(some 58), .pick, [.tmp 53, .const (.bool true), .tmp 57], none⟩,
               ⟨(some 59), .mv, [.tmp 58], none⟩,
               ⟨(some 60), .faddr 1, [.tmp 13], (some (59, false))⟩,
               ⟨(some 61), .load false 1, [.tmp 60], (some (59, false))⟩,
               ⟨(some 62), .len false, [.tmp 61], (some (59, false))⟩,
               ⟨(some 63), .faddr 1, [.tmp 8], (some (59, false))⟩,
               ⟨(some 64), .load false 1, [.tmp 63], (some (59, false))⟩,
               ⟨(some 65), .len false, [.tmp 64], (some (59, false))⟩,
               ⟨(some 66), .bin .neq, [.tmp 62, .tmp 65], (some (59, false))⟩,
               ⟨(some 67), .pick, [.tmp 59, .const (.bool true), .tmp 66], none⟩])
           (.cond (.tmp 67)
            (.seq (.reg [⟨(some 6), .mv, [.const (.bool false)], none⟩])
             .ret)
            .skip))
          (.seq (.seq (.reg [⟨(some 14), .mv, [.const (.int .i64 0)], none⟩])
            (.block 0 (.loop (.seq (.seq (.reg [⟨(some 68), .mv, [.tmp 14], none⟩,
                    ⟨(some 69), .faddr 1, [.tmp 8], none⟩,
                    ⟨(some 70), .load false 1, [.tmp 69], none⟩,
                    ⟨(some 71), .len false, [.tmp 70], none⟩,
                    ⟨(some 72), .bin .lss, [.tmp 68, .tmp 71], none⟩])
                (.cond (.tmp 72)
                 .skip
                 (.exit 0)))
               (.seq (.block 1 (.seq (.reg [⟨(some 76), .load true 3, [.tmp 8], none⟩,
                      ⟨(some 77), .mv, [.tmp 14], none⟩,
                      ⟨(some 78), .call, [.func 14, .tmp 76, .tmp 77], none⟩,
                      ⟨(some 75), .mv, [.tmp 78], none⟩,
                      ⟨(some 79), .ext 0, [.tmp 75], none⟩,
                      ⟨(some 80), .ext 1, [.tmp 75], none⟩,
                      ⟨(some 15), .mv, [.tmp 79], none⟩,
                      ⟨(some 16), .mv, [.tmp 80], none⟩])
                  (.seq (.seq (.reg [⟨(some 81), .mv, [.tmp 14], none⟩,
                        ⟨(some 82), .mv, [.tmp 9], none⟩,
                        ⟨(some 83), .bin .eql, [.tmp 81, .tmp 82], none⟩])
                    (.cond (.tmp 83)
                     (.reg [⟨(some 84), .mv, [.tmp 10], none⟩,
                         ⟨(some 15), .mv, [.tmp 84], none⟩])
                     .skip))
                   (.seq (.reg [⟨(some 86), .load true 3, [.tmp 11], none⟩,
                        ⟨(some 87), .mv, [.tmp 14], none⟩,
                        ⟨(some 88), .call, [.func 14, .tmp 86, .tmp 87], none⟩,
                        ⟨(some 85), .mv, [.tmp 88], none⟩,
                        ⟨(some 89), .ext 0, [.tmp 85], none⟩,
                        ⟨(some 90), .ext 1, [.tmp 85], none⟩,
                        ⟨(some 17), .mv, [.tmp 89], none⟩,
                        ⟨(some 18), .mv, [.tmp 90], none⟩])
                    (.seq (.reg [⟨(some 92), .load true 3, [.tmp 13], none⟩,
                         ⟨(some 93), .mv, [.tmp 14], none⟩,
                         ⟨(some 94), .call, [.func 14, .tmp 92, .tmp 93], none⟩,
                         ⟨(some 91), .mv, [.tmp 94], none⟩,
                         ⟨(some 95), .ext 0, [.tmp 91], none⟩,
                         ⟨(some 96), .ext 1, [.tmp 91], none⟩,
                         ⟨(some 19), .mv, [.tmp 95], none⟩,
                         ⟨(some 20), .mv, [.tmp 96], none⟩])
                     (.seq (.dreg [⟨⟨(some 97), .mv, [.tmp 16], none⟩, [], none⟩,
                          ⟨⟨(some 98), .bin .neq, [.tmp 97, .const (.int .i64 0)], none⟩, [], none⟩,
                          ⟨⟨(some 99), .mv, [.tmp 98], none⟩, [], none⟩,
                          ⟨⟨(some 100), .mv, [.tmp 18], (some (99, false))⟩, [], none⟩,
                          ⟨⟨(some 101), .bin .neq, [.tmp 100, .const (.int .i64 0)], (some (99, false))⟩, [], none⟩,
                          ⟨⟨(some 102), .pick, [.tmp 99, .const (.bool true), .tmp 101], none⟩, [], none⟩,
                          ⟨⟨(some 103), .mv, [.tmp 102], none⟩, [], none⟩,
                          ⟨⟨(some 104), .mv, [.tmp 20], (some (103, false))⟩, [], none⟩,
                          ⟨⟨(some 105), .bin .neq, [.tmp 104, .const (.int .i64 0)], (some (103, false))⟩, [], none⟩,
                          ⟨⟨(some 106), .pick, [.tmp 103, .const (.bool true), .tmp 105], none⟩, [], none⟩,
                          ⟨⟨(some 107), .mv, [.tmp 106], none⟩, [], none⟩,
                          ⟨⟨(some 108), .mv, [.tmp 17], (some (107, false))⟩, [], none⟩,
                          ⟨⟨(some 109), .b2s, [.tmp 108], (some (107, false))⟩, [], none⟩,
                          ⟨⟨(some 110), .mv, [.tmp 15], (some (107, false))⟩, [], none⟩,
                          ⟨⟨(some 111), .b2s, [.tmp 110], (some (107, false))⟩, [], none⟩,
                          ⟨⟨(some 112), .bin .neq, [.tmp 109, .tmp 111], (some (107, false))⟩, [], none⟩,
                          ⟨⟨(some 113), .pick, [.tmp 107, .const (.bool true), .tmp 112], none⟩, [], none⟩,
                          ⟨⟨(some 114), .mv, [.tmp 113], none⟩, [], none⟩,
                          ⟨⟨(some 115), .mv, [.tmp 19], (some (114, false))⟩, [], none⟩,
                          ⟨⟨(some 116), .b2s, [.tmp 115], (some (114, false))⟩, [], none⟩,
                          ⟨⟨(some 117), .mv, [.tmp 15], (some (114, false))⟩, [], none⟩,
                          ⟨⟨(some 118), .b2s, [.tmp 117], (some (114, false))⟩, [], none⟩,
                          ⟨⟨(some 119), .bin .neq, [.tmp 116, .tmp 118], (some (114, false))⟩, [], none⟩,
                          ⟨⟨(some 120), .pick, [.tmp 114, .const (.bool true), .tmp 119], none⟩, [], none⟩,
                          ⟨⟨(some 121), .mv, [.tmp 120], none⟩, [], none⟩,
                          ⟨⟨(some 122), .faddr 1, [.tmp 13], (some (121, false))⟩, [], none⟩,
                          ⟨⟨(some 123), .load false 1, [.tmp 122], (some (121, false))⟩, [], none⟩,
                          ⟨⟨(some 124), .mv, [.tmp 14], (some (121, false))⟩, [], none⟩,
                          ⟨⟨(some 125), .iaddr none 1, [.tmp 123, .tmp 124], (some (121, false))⟩, [], none⟩,
                          ⟨⟨(some 126), .load false 1, [.tmp 125], (some (121, false))⟩, [], none⟩,
                          ⟨⟨(some 127), .b2s, [.tmp 126], (some (121, false))⟩, [], none⟩,
                          ⟨⟨(some 128), .mv, [.tmp 15], (some (121, false))⟩, [], none⟩,
                          ⟨⟨(some 129), .b2s, [.tmp 128], (some (121, false))⟩, [], none⟩,
                          ⟨⟨(some 130), .bin .neq, [.tmp 127, .tmp 129], (some (121, false))⟩, [], none⟩,
                          ⟨⟨(some 131), .pick, [.tmp 121, .const (.bool true), .tmp 130], none⟩, [], none⟩])
                      (.cond (.tmp 131)
                       (.seq (.reg [⟨(some 6), .mv, [.const (.bool false)], none⟩])
                        .ret)
                       .skip)))))))
                (.reg [⟨(some 73), .mv, [.tmp 14], none⟩,
                    ⟨(some 74), .bin .add, [.tmp 73, .const (.int .i64 1)], none⟩,
                    ⟨(some 14), .mv, [.tmp 74], none⟩]))))))
           (.seq (.reg [⟨(some 132), .mv, [.tmp 7], none⟩,
                ⟨(some 6), .mv, [.tmp 132], none⟩])
            .ret)))))))))

theorem tab3 : tab 3 = some A3 := by unfold tab; kernel_rfl

/-- downspout/downspoutlaw23.DiskClean -/
def A4 : AFn where
  isPure := true
  ntmps := 82
  res := [(6, none)]
  body := (.seq (.reg [⟨(some 3), .box, [.tmp 0], none⟩,
        ⟨(some 6), .mv, [.const (.bool false)], none⟩])
    (.seq (.reg [⟨(some 16), .call, [.func 9], none⟩,
         ⟨(some 7), .mv, [.tmp 16], none⟩])
     (.seq (.reg [⟨(some 17), .load true 2, [.tmp 3], none⟩,
          ⟨(some 18), .mv, [.tmp 1], none⟩,
          ⟨(some 19), .call, [.func 10, .tmp 17, .tmp 18, .const (.int .i64 12)], none⟩,
          ⟨(some 8), .new [.lit (.int .i64 0), .sl true 0 (some 0) [], .sl true 0 (some 0) []], [], none⟩,
          ⟨none, .store 3, [.tmp 8, .tmp 19], none⟩])
      (.seq (.reg [⟨(some 20), .bslice 0 2 [] [], [], none⟩,
           ⟨(some 21), .bslice 0 2 [] [], [], none⟩,
           ⟨(some 9), .mv, [.tmp 20], none⟩,
           ⟨(some 10), .mv, [.tmp 21], none⟩])
       (.seq (.seq (.reg [⟨(some 11), .mv, [.const (.int .i64 0)], none⟩])
         (.block 0 (.loop (.seq (.seq (.reg [⟨(some 22), .mv, [.tmp 11], none⟩,
                 ⟨(some 23), .bin .lss, [.tmp 22, .const (.int .i64 12)], none⟩])
             (.cond (.tmp 23)
              .skip
              (.exit 0)))
            (.seq (.block 1 (.seq (.reg [⟨(some 26), .mv, [.tmp 2], none⟩,
                   ⟨(some 27), .conv .i64, [.tmp 26], none⟩,
                   ⟨(some 12), .mv, [.tmp 27], none⟩])
               (.seq (.seq (.reg [⟨(some 28), .mv, [.tmp 12], none⟩,
                     ⟨(some 29), .bin .eql, [.tmp 28, .const (.int .i64 0)], none⟩,
                     ⟨(some 30), .mv, [.tmp 29], none⟩,
                     ⟨(some 31), .mv, [.tmp 12], (some (30, false))⟩,
                     ⟨(some 32), .bin .eql, [.tmp 31, .const (.int .i64 2)], (some (30, false))⟩,
                     ⟨(some 33), .pick, [.tmp 30, .const (.bool true), .tmp 32], none⟩,
                     ⟨(some 34), .mv, [.tmp 33], none⟩,
                     ⟨(some 35), .mv, [.tmp 12], (some (34, false))⟩,
                     ⟨(some 36), .bin .eql, [.tmp 35, .const (.int .i64 3)], (some (34, false))⟩,
                     ⟨(some 37), .pick, [.tmp 34, .const (.bool true), .tmp 36], none⟩])
                 (.cond (.tmp 37)
                  (.reg [⟨(some 12), .mv, [.const (.int .i64 1)], none⟩])
                  .skip))
                (.reg [⟨(some 38), .mv, [.tmp 9], none⟩,
                    ⟨(some 39), .mv, [.tmp 11], none⟩,
                    ⟨(some 40), .build [.lit (.int .i64 0), .lit (.int .i64 0)] [(0, 1), (1, 1)], [.const (.int .i64 0), .tmp 39], none⟩,
                    ⟨(some 41), .bslice 1 2 [.lit (.int .i64 0), .lit (.int .i64 0)] [(0, 2)], [.tmp 40], none⟩,
                    ⟨(some 42), .append 2 16, [.tmp 38, .tmp 41], none⟩,
                    ⟨(some 43), .mv, [.tmp 10], none⟩,
                    ⟨(some 44), .mv, [.tmp 12], none⟩,
                    ⟨(some 45), .mv, [.tmp 11], none⟩,
                    ⟨(some 46), .build [.lit (.int .i64 0), .lit (.int .i64 0)] [(0, 1), (1, 1)], [.tmp 44, .tmp 45], none⟩,
                    ⟨(some 47), .bslice 1 2 [.lit (.int .i64 0), .lit (.int .i64 0)] [(0, 2)], [.tmp 46], none⟩,
                    ⟨(some 48), .append 2 16, [.tmp 43, .tmp 47], none⟩,
                    ⟨(some 9), .mv, [.tmp 42], none⟩,
                    ⟨(some 10), .mv, [.tmp 48], none⟩]))))
             (.reg [⟨(some 24), .mv, [.tmp 11], none⟩,
                 ⟨(some 25), .bin .add, [.tmp 24, .const (.int .i64 1)], none⟩,
                 ⟨(some 11), .mv, [.tmp 25], none⟩]))))))
        (.seq (.seq (.frz [9, 10])
          (.dreg [⟨⟨(some 49), .load true 3, [.tmp 8], none⟩, [8, 9, 10], none⟩,
              ⟨⟨(some 50), .mv, [.tmp 9], none⟩, [8, 9, 10], none⟩,
              ⟨⟨(some 51), .call, [.func 15, .tmp 49, .tmp 50], none⟩, [8, 9, 10], none⟩,
              ⟨⟨(some 52), .load true 3, [.tmp 8], none⟩, [8, 9, 10], none⟩,
              ⟨⟨(some 53), .mv, [.tmp 10], none⟩, [8, 9, 10], none⟩,
              ⟨⟨(some 54), .call, [.func 15, .tmp 52, .tmp 53], none⟩, [8, 9, 10], none⟩,
              ⟨⟨(some 55), .load true 3, [.tmp 8], none⟩, [8, 9, 10], none⟩,
              ⟨⟨(some 56), .call, [.func 15, .tmp 55, .const (.slice none 0 0)], none⟩, [8, 9, 10], none⟩,
              ⟨⟨(some 13), .new [.lit (.int .i64 0), .sl true 0 (some 0) [], .sl true 0 (some 0) []], [], none⟩, [9, 10], none⟩,
              ⟨⟨(some 14), .new [.lit (.int .i64 0), .sl true 0 (some 0) [], .sl true 0 (some 0) []], [], none⟩, [8, 10], none⟩,
              ⟨⟨(some 15), .new [.lit (.int .i64 0), .sl true 0 (some 0) [], .sl true 0 (some 0) []], [], none⟩, [8, 9], none⟩,
              ⟨⟨none, .store 3, [.tmp 13, .tmp 51], none⟩, [], none⟩,
              ⟨⟨none, .store 3, [.tmp 14, .tmp 54], none⟩, [], none⟩,
              ⟨⟨none, .store 3, [.tmp 15, .tmp 56], none⟩, [], none⟩]))
         (.seq (.dreg [⟨⟨(some 57), .load true 3, [.tmp 13], none⟩, [], none⟩,
              ⟨⟨(some 58), .load true 3, [.tmp 8], none⟩, [], none⟩,
              ⟨⟨(some 59), .call, [.func 12, .tmp 58], none⟩, [], none⟩,
              ⟨⟨(some 60), .call, [.func 16, .tmp 57, .tmp 59], none⟩, [], none⟩,
              ⟨⟨(some 61), .mv, [.tmp 60], none⟩, [], none⟩,
              ⟨⟨(some 62), .faddr 1, [.tmp 14], (some (61, true))⟩, [], none⟩,
              ⟨⟨(some 63), .load false 1, [.tmp 62], (some (61, true))⟩, [], none⟩,
              ⟨⟨(some 64), .faddr 1, [.tmp 8], (some (61, true))⟩, [], none⟩,
              ⟨⟨(some 65), .load false 1, [.tmp 64], (some (61, true))⟩, [], none⟩,
              ⟨⟨(some 66), .call, [.func 17, .tmp 63, .tmp 65], (some (61, true))⟩, [], none⟩,
              ⟨⟨(some 67), .pick, [.tmp 61, .tmp 66, .const (.bool false)], none⟩, [], none⟩,
              ⟨⟨(some 68), .mv, [.tmp 67], none⟩, [], none⟩,
              ⟨⟨(some 69), .load true 3, [.tmp 14], (some (68, true))⟩, [], none⟩,
              ⟨⟨(some 70), .load true 3, [.tmp 15], (some (68, true))⟩, [], none⟩,
              ⟨⟨(some 71), .call, [.func 16, .tmp 69, .tmp 70], (some (68, true))⟩, [], none⟩,
              ⟨⟨(some 72), .pick, [.tmp 68, .tmp 71, .const (.bool false)], none⟩, [], none⟩,
              ⟨⟨(some 73), .mv, [.tmp 72], none⟩, [], none⟩,
              ⟨⟨(some 74), .faddr 2, [.tmp 14], (some (73, true))⟩, [], none⟩,
              ⟨⟨(some 75), .load false 1, [.tmp 74], (some (73, true))⟩, [], none⟩,
              ⟨⟨(some 76), .len false, [.tmp 75], (some (73, true))⟩, [], none⟩,
              ⟨⟨(some 77), .bin .eql, [.tmp 76, .const (.int .i64 0)], (some (73, true))⟩, [], none⟩,
              ⟨⟨(some 78), .pick, [.tmp 73, .tmp 77, .const (.bool false)], none⟩, [], none⟩,
              ⟨⟨(some 79), .mv, [.tmp 78], none⟩, [], none⟩,
              ⟨⟨(some 80), .mv, [.tmp 7], (some (79, true))⟩, [], none⟩,
              ⟨⟨(some 81), .pick, [.tmp 79, .tmp 80, .const (.bool false)], none⟩, [], none⟩,
              ⟨⟨(some 6), .mv, [.tmp 81], none⟩, [], none⟩])
          .ret)))))))

theorem tab4 : tab 4 = some A4 := by unfold tab; kernel_rfl

/-- downspout/downspoutlaw23.DiskFences -/
def A5 : AFn where
  isPure := true
  ntmps := 141
  res := [(6, none)]
  body := (.seq (.reg [⟨(some 3), .box, [.tmp 0], none⟩,
        ⟨(some 4), .box, [.tmp 1], none⟩,
        ⟨(some 6), .mv, [.const (.bool false)], none⟩])
    (.seq (.reg [⟨(some 20), .call, [.func 9], none⟩,
         ⟨(some 7), .mv, [.tmp 20], none⟩])
     (.seq (.reg [⟨(some 21), .load true 2, [.tmp 3], none⟩,
          ⟨(some 22), .iaddr (some 2) 1, [.tmp 4, .const (.int .i64 0)], none⟩,
          ⟨(some 23), .load false 1, [.tmp 22], none⟩,
          ⟨(some 24), .call, [.func 10, .tmp 21, .tmp 23, .const (.int .i64 8)], none⟩,
          ⟨(some 8), .new [.lit (.int .i64 0), .sl true 0 (some 0) [], .sl true 0 (some 0) []], [], none⟩,
          ⟨none, .store 3, [.tmp 8, .tmp 24], none⟩])
      (.seq (.reg [⟨(some 25), .load true 3, [.tmp 8], none⟩,
           ⟨(some 26), .call, [.func 13, .tmp 25], none⟩,
           ⟨(some 27), .mv, [.tmp 2], none⟩,
           ⟨(some 28), .call, [.func 18, .tmp 27, .const (.int .i64 16)], none⟩,
           ⟨(some 9), .new [.lit (.int .i64 0), .sl true 0 (some 0) [], .sl true 0 (some 0) []], [], none⟩,
           ⟨none, .store 3, [.tmp 9, .tmp 26], none⟩,
           ⟨(some 10), .mv, [.tmp 28], none⟩])
       (.seq (.seq (.seq (.frz [10])
          (.reg [⟨(some 29), .faddr 1, [.tmp 9], none⟩,
              ⟨(some 30), .load false 1, [.tmp 29], none⟩,
              ⟨(some 31), .len false, [.tmp 30], none⟩,
              ⟨(some 32), .faddr 1, [.tmp 8], none⟩,
              ⟨(some 33), .load false 1, [.tmp 32], none⟩,
              ⟨(some 34), .len false, [.tmp 33], none⟩,
              ⟨(some 35), .bin .neq, [.tmp 31, .tmp 34], none⟩,
              ⟨(some 36), .mv, [.tmp 35], none⟩,
              ⟨(some 37), .faddr 0, [.tmp 9], (some (36, false))⟩,
              ⟨(some 38), .load false 1, [.tmp 37], (some (36, false))⟩,
              ⟨(some 39), .faddr 0, [.tmp 8], (some (36, false))⟩,
              ⟨(some 40), .load false 1, [.tmp 39], (some (36, false))⟩,
              ⟨(some 41), .bin .neq, [.tmp 38, .tmp 40], (some (36, false))⟩,
              ⟨(some 42), .pick, [.tmp 36, .const (.bool true), .tmp 41], none⟩,
              ⟨(some 43), .mv, [.tmp 42], none⟩,
              ⟨(some 44), .load true 3, [.tmp 9], (some (43, false))⟩,
              ⟨(some 45), .call, [.func 19, .tmp 44], (some (43, false))⟩,
              ⟨(some 46), .un .not, [.tmp 45], (some (43, false))⟩,
              ⟨(some 47), .pick, [.tmp 43, .const (.bool true), .tmp 46], none⟩]))
         (.cond (.tmp 47)
          (.seq (.reg [⟨(some 6), .mv, [.const (.bool false)], none⟩])
           .ret)
          .skip))
        (.seq (.reg [⟨(some 11), .mv, [.const (.int .i64 0)], none⟩,
             ⟨(some 12), .mv, [.const (.bool true)], none⟩])
         (.seq (.seq (.reg [⟨(some 13), .mv, [.const (.int .i64 0)], none⟩])
           (.block 0 (.loop (.seq (.seq (.reg [⟨(some 48), .mv, [.tmp 13], none⟩,
                   ⟨(some 49), .faddr 2, [.tmp 8], none⟩,
                   ⟨(some 50), .load false 1, [.tmp 49], none⟩,
                   ⟨(some 51), .len false, [.tmp 50], none⟩,
                   ⟨(some 52), .bin .lss, [.tmp 48, .tmp 51], none⟩])
               (.cond (.tmp 52)
                .skip
                (.exit 0)))
              (.seq (.block 1 (.seq (.seq (.reg [⟨(some 55), .faddr 2, [.tmp 8], none⟩,
                      ⟨(some 56), .load false 1, [.tmp 55], none⟩,
                      ⟨(some 57), .mv, [.tmp 13], none⟩,
                      ⟨(some 58), .iaddr none 3, [.tmp 56, .tmp 57], none⟩,
                      ⟨(some 59), .faddr 0, [.tmp 58], none⟩,
                      ⟨(some 60), .load false 1, [.tmp 59], none⟩])
                  (.cond (.tmp 60)
                   (.exit 1)
                   .skip))
                 (.seq (.reg [⟨(some 61), .mv, [.tmp 12], none⟩,
                      ⟨(some 62), .mv, [.tmp 61], none⟩,
                      ⟨(some 63), .mv, [.tmp 11], (some (62, true))⟩,
                      ⟨(some 64), .mv, [.tmp 10], (some (62, true))⟩,
                      ⟨(some 65), .len false, [.tmp 64], (some (62, true))⟩,
                      ⟨(some 66), .bin .lss, [.tmp 63, .tmp 65], (some (62, true))⟩,
                      ⟨(some 67), .pick, [.tmp 62, .tmp 66, .const (.bool false)], none⟩,
                      ⟨(some 68), .mv, [.tmp 67], none⟩,
                      ⟨(some 69), .mv, [.tmp 10], (some (68, true))⟩,
                      ⟨(some 70), .mv, [.tmp 11], (some (68, true))⟩,
                      ⟨(some 71), .iaddr none 2, [.tmp 69, .tmp 70], (some (68, true))⟩,
                      ⟨(some 72), .faddr 0, [.tmp 71], (some (68, true))⟩,
                      ⟨(some 73), .load false 1, [.tmp 72], (some (68, true))⟩,
                      ⟨(some 74), .bin .eql, [.tmp 73, .const (.int .i64 0)], (some (68, true))⟩,
                      ⟨(some 75), .pick, [.tmp 68, .tmp 74, .const (.bool false)], none⟩,
                      ⟨(some 12), .mv, [.tmp 75], none⟩])
                  (.reg [⟨(some 76), .mv, [.tmp 11], none⟩,
                      ⟨(some 77), .bin .add, [.tmp 76, .const (.int .i64 1)], none⟩,
                      ⟨(some 11), .mv, [.tmp 77], none⟩]))))
               (.reg [⟨(some 53), .mv, [.tmp 13], none⟩,
                   ⟨(some 54), .bin .add, [.tmp 53, .const (.int .i64 1)], none⟩,
                   ⟨(some 13), .mv, [.tmp 54], none⟩]))))))
          (.seq (.reg [⟨(some 78), .load true 3, [.tmp 9], none⟩,
               ⟨(some 14), .new [.lit (.int .i64 0), .sl true 0 (some 0) [], .sl true 0 (some 0) []], [], none⟩,
               ⟨none, .store 3, [.tmp 14, .tmp 78], none⟩])
           (.seq (.seq (.reg [⟨(some 15), .mv, [.const (.int .i64 0)], none⟩])
             (.block 2 (.loop (.seq (.seq (.reg [⟨(some 79), .mv, [.tmp 15], none⟩,
                     ⟨(some 80), .iaddr (some 2) 1, [.tmp 4, .const (.int .i64 1)], none⟩,
                     ⟨(some 81), .load false 1, [.tmp 80], none⟩,
                     ⟨(some 82), .len false, [.tmp 81], none⟩,
                     ⟨(some 83), .bin .lss, [.tmp 79, .tmp 82], none⟩,
                     ⟨(some 84), .mv, [.tmp 83], none⟩,
                     ⟨(some 85), .mv, [.tmp 15], (some (84, true))⟩,
                     ⟨(some 86), .bin .lss, [.tmp 85, .const (.int .i64 8)], (some (84, true))⟩,
                     ⟨(some 87), .pick, [.tmp 84, .tmp 86, .const (.bool false)], none⟩])
                 (.cond (.tmp 87)
                  .skip
                  (.exit 2)))
                (.seq (.block 3 (.seq (.reg [⟨(some 90), .iaddr (some 2) 1, [.tmp 4, .const (.int .i64 1)], none⟩,
                       ⟨(some 91), .load false 1, [.tmp 90], none⟩,
                       ⟨(some 92), .mv, [.tmp 15], none⟩,
                       ⟨(some 93), .iaddr none 3, [.tmp 91, .tmp 92], none⟩,
                       ⟨(some 94), .load true 3, [.tmp 93], none⟩,
                       ⟨(some 16), .new [.lit (.int .u8 0), .lit (.int .u8 0), .sl true 0 (some 0) []], [], none⟩,
                       ⟨none, .store 3, [.tmp 16, .tmp 94], none⟩])
                   (.seq (.reg [⟨(some 95), .faddr 0, [.tmp 16], none⟩,
                        ⟨(some 96), .load false 1, [.tmp 95], none⟩,
                        ⟨(some 97), .bin .rem, [.tmp 96, .const (.int .u8 7)], none⟩,
                        ⟨(some 98), .bin .add, [.const (.int .u8 1), .tmp 97], none⟩,
                        ⟨(some 99), .faddr 0, [.tmp 16], none⟩,
                        ⟨none, .store 1, [.tmp 99, .tmp 98], none⟩])
                    (.reg [⟨(some 100), .load true 3, [.tmp 14], none⟩,
                        ⟨(some 101), .load true 3, [.tmp 16], none⟩,
                        ⟨(some 102), .call, [.func 20, .tmp 100, .tmp 101], none⟩,
                        ⟨none, .store 3, [.tmp 14, .tmp 102], none⟩]))))
                 (.reg [⟨(some 88), .mv, [.tmp 15], none⟩,
                     ⟨(some 89), .bin .add, [.tmp 88, .const (.int .i64 1)], none⟩,
                     ⟨(some 15), .mv, [.tmp 89], none⟩]))))))
            (.seq (.dreg [⟨⟨(some 103), .load true 3, [.tmp 14], none⟩, [6, 7], none⟩,
                 ⟨⟨(some 104), .mv, [.tmp 10], none⟩, [6, 7], none⟩,
                 ⟨⟨(some 105), .call, [.func 15, .tmp 103, .tmp 104], none⟩, [6, 7], none⟩,
                 ⟨⟨(some 106), .load true 3, [.tmp 8], none⟩, [6, 7], none⟩,
                 ⟨⟨(some 107), .mv, [.tmp 10], none⟩, [6, 7], none⟩,
                 ⟨⟨(some 108), .call, [.func 15, .tmp 106, .tmp 107], none⟩, [6, 7], none⟩,
                 ⟨⟨(some 17), .new [.lit (.int .i64 0), .sl true 0 (some 0) [], .sl true 0 (some 0) []], [], none⟩, [7], none⟩,
                 ⟨⟨(some 18), .new [.lit (.int .i64 0), .sl true 0 (some 0) [], .sl true 0 (some 0) []], [], none⟩, [6], none⟩,
                 ⟨⟨none, .store 3, [.tmp 17, .tmp 105], none⟩, [], none⟩,
                 ⟨⟨none, .store 3, [.tmp 18, .tmp 108], none⟩, [], none⟩])
             (.seq (.seq (.reg [⟨(some 109), .mv, [.tmp 12], none⟩,
                   ⟨(some 110), .un .not, [.tmp 109], none⟩])
               (.cond (.tmp 110)
                (.seq (.reg [⟨(some 111), .load true 3, [.tmp 17], none⟩,
                     ⟨(some 112), .load true 3, [.tmp 18], none⟩,
                     ⟨(some 113), .call, [.func 16, .tmp 111, .tmp 112], none⟩,
                     ⟨(some 114), .mv, [.tmp 113], none⟩,
                     ⟨(some 115), .mv, [.tmp 7], (some (114, true))⟩,
                     ⟨(some 116), .pick, [.tmp 114, .tmp 115, .const (.bool false)], none⟩,
                     ⟨(some 6), .mv, [.tmp 116], none⟩])
                 .ret)
                .skip))
              (.seq (.reg [⟨(some 117), .load true 3, [.tmp 8], none⟩,
                   ⟨(some 118), .call, [.func 21, .tmp 117], none⟩,
                   ⟨(some 19), .new [.lit (.int .i64 0), .sl true 0 (some 0) [], .sl true 0 (some 0) []], [], none⟩,
                   ⟨none, .store 3, [.tmp 19, .tmp 118], none⟩])
               (.seq (.reg [⟨(some 119), .bslice 0 3 [] [], [], none⟩,
                    ⟨(some 120), .faddr 2, [.tmp 14], none⟩,
                    ⟨(some 121), .load false 1, [.tmp 120], none⟩,
                    ⟨(some 122), .faddr 2, [.tmp 9], none⟩,
                    ⟨(some 123), .load false 1, [.tmp 122], none⟩,
                    ⟨(some 124), .len false, [.tmp 123], none⟩,
                    ⟨(some 125), .slice 3 true false false, [.tmp 121, .tmp 124], none⟩,
                    ⟨(some 126), .append 3 40, [.tmp 119, .tmp 125], none⟩,
                    ⟨(some 127), .faddr 2, [.tmp 19], none⟩,
                    ⟨none, .store 1, [.tmp 127, .tmp 126], none⟩])
                (.seq (.seq (.frz [19])
                  (.dreg [⟨⟨(some 128), .load true 3, [.tmp 17], none⟩, [], none⟩,
                      ⟨⟨(some 129), .load true 3, [.tmp 19], none⟩, [], none⟩,
                      ⟨⟨(some 130), .mv, [.tmp 10], none⟩, [], none⟩,
                      ⟨⟨(some 131), .mv, [.tmp 11], none⟩, [], none⟩,
                      ⟨⟨(some 132), .mv, [.tmp 10], none⟩, [], none⟩,
                      ⟨⟨(some 133), .len false, [.tmp 132], none⟩, [], none⟩,
                      ⟨⟨(some 134), .min, [.tmp 131, .tmp 133], none⟩, [], none⟩,
                      ⟨⟨(some 135), .slice 2 true false false, [.tmp 130, .tmp 134], none⟩, [], none⟩,
                      ⟨⟨(some 136), .call, [.func 15, .tmp 129, .tmp 135], none⟩, [], none⟩,
                      ⟨⟨(some 137), .call, [.func 16, .tmp 128, .tmp 136], none⟩, [], none⟩,
                      ⟨⟨(some 138), .mv, [.tmp 137], none⟩, [], none⟩,
                      ⟨⟨(some 139), .mv, [.tmp 7], (some (138, true))⟩, [], none⟩,
                      ⟨⟨(some 140), .pick, [.tmp 138, .tmp 139, .const (.bool false)], none⟩, [], none⟩,
                      ⟨⟨(some 6), .mv, [.tmp 140], none⟩, [], none⟩]))
                 .ret))))))))))))))

theorem tab5 : tab 5 = some A5 := by unfold tab; kernel_rfl

/-- downspout/downspoutlaw23.DiskCells -/
def A6 : AFn where
  isPure := true
  ntmps := 191
  res := [(6, none)]
  body := (.seq (.reg [⟨(some 3), .box, [.tmp 0], none⟩,
        ⟨(some 6), .mv, [.const (.bool false)], none⟩])
    (.seq (.reg [⟨(some 20), .call, [.func 9], none⟩,
         ⟨(some 7), .mv, [.tmp 20], none⟩])
     (.seq (.reg [⟨(some 21), .load true 2, [.tmp 3], none⟩,
          ⟨(some 22), .mv, [.tmp 1], none⟩,
          ⟨(some 23), .call, [.func 10, .tmp 21, .tmp 22, .const (.int .i64 12)], none⟩,
          ⟨(some 24), .mv, [.tmp 2], none⟩,
          ⟨(some 25), .call, [.func 18, .tmp 24, .const (.int .i64 12)], none⟩,
          ⟨(some 8), .new [.lit (.int .i64 0), .sl true 0 (some 0) [], .sl true 0 (some 0) []], [], none⟩,
          ⟨none, .store 3, [.tmp 8, .tmp 23], none⟩,
          ⟨(some 9), .mv, [.tmp 25], none⟩])
      (.seq (.seq (.frz [9])
        (.reg [⟨(some 26), .load true 3, [.tmp 8], none⟩,
            ⟨(some 27), .mv, [.tmp 9], none⟩,
            ⟨(some 28), .call, [.func 15, .tmp 26, .tmp 27], none⟩,
            ⟨(some 10), .new [.lit (.int .i64 0), .sl true 0 (some 0) [], .sl true 0 (some 0) []], [], none⟩,
            ⟨none, .store 3, [.tmp 10, .tmp 28], none⟩]))
       (.seq (.seq (.reg [⟨(some 29), .faddr 2, [.tmp 10], none⟩,
             ⟨(some 30), .load false 1, [.tmp 29], none⟩,
             ⟨(some 31), .len false, [.tmp 30], none⟩,
             ⟨(some 32), .bin .neq, [.tmp 31, .const (.int .i64 0)], none⟩,
             ⟨(some 33), .mv, [.tmp 32], none⟩,
             ⟨(some 34), .faddr 1, [.tmp 10], (some (33, false))⟩,
             ⟨(some 35), .load false 1, [.tmp 34], (some (33, false))⟩,
             ⟨(some 36), .len false, [.tmp 35], (some (33, false))⟩,
             ⟨(some 37), .faddr 1, [.tmp 8], (some (33, false))⟩,
             ⟨(some 38), .load false 1, [.tmp 37], (some (33, false))⟩,
             ⟨(some 39), .len false, [.tmp 38], (some (33, false))⟩,
             ⟨(some 40), .bin .neq, [.tmp 36, .tmp 39], (some (33, false))⟩,
             ⟨(some 41), .pick, [.tmp 33, .const (.bool true), .tmp 40], none⟩,
             ⟨(some 42), .mv, [.tmp 41], none⟩,
             ⟨(some 43), .faddr 0, [.tmp 10], (some (42, false))⟩,
             ⟨(some 44), .load false 1, [.tmp 43], (some (42, false))⟩,
             ⟨(some 45), .faddr 0, [.tmp 8], (some (42, false))⟩,
             ⟨(some 46), .load false 1, [.tmp 45], (some (42, false))⟩,
             ⟨(some 47), .bin .neq, [.tmp 44, .tmp 46], (some (42, false))⟩,
             ⟨(some 48), .pick, [.tmp 42, .const (.bool true), .tmp 47], none⟩])
         (.cond (.tmp 48)
          (.seq (.reg [⟨(some 6), .mv, [.const (.bool false)], none⟩])
           .ret)
          .skip))
        (.seq (.seq (.reg [⟨(some 11), .mv, [.const (.int .i64 0)], none⟩])
          (.block 0 (.loop (.seq (.seq (.reg [⟨(some 49), .mv, [.tmp 11], none⟩,
                  ⟨(some 50), .faddr 1, [.tmp 10], none⟩,
                  ⟨(some 51), .load false 1, [.tmp 50], none⟩,
                  ⟨(some 52), .len false, [.tmp 51], none⟩,
                  ⟨(some 53), .bin .lss, [.tmp 49, .tmp 52], none⟩])
              (.cond (.tmp 53)
               .skip
               (.exit 0)))
             (.seq (.block 1 (.seq (.dreg [⟨⟨(some 56), .faddr 1, [.tmp 10], none⟩, [], none⟩,
                    ⟨⟨(some 57), .load false 1, [.tmp 56], none⟩, [], none⟩,
                    ⟨⟨(some 58), .mv, [.tmp 11], none⟩, [], none⟩,
                    ⟨⟨(some 59), .iaddr none 1, [.tmp 57, .tmp 58], none⟩, [], none⟩,
                    ⟨⟨(some 60), .load false 1, [.tmp 59], none⟩, [], none⟩,
                    ⟨⟨(some 61), .b2s, [.tmp 60], none⟩, [], none⟩,
                    ⟨⟨(some 62), .faddr 1, [.tmp 8], none⟩, [], none⟩,
                    ⟨⟨(some 63), .load false 1, [.tmp 62], none⟩, [], none⟩,
                    ⟨⟨(some 64), .mv, [.tmp 11], none⟩, [], none⟩,
                    ⟨⟨(some 65), .iaddr none 1, [.tmp 63, .tmp 64], none⟩, [], none⟩,
                    ⟨⟨(some 66), .load false 1, [.tmp 65], none⟩, [], none⟩,
                    ⟨⟨(some 67), .b2s, [.tmp 66], none⟩, [], none⟩,
                    ⟨⟨(some 68), .bin .eql, [.tmp 61, .tmp 67], none⟩, [], none⟩,
                    ⟨⟨(some 12), .mv, [.tmp 68], none⟩, [], none⟩,
                    ⟨⟨(some 13), .mv, [.const (.int .i64 0)], none⟩, [], none⟩])
                (.seq (.seq (.reg [⟨(some 14), .mv, [.const (.int .i64 0)], none⟩])
                  (.block 2 (.loop (.seq (.seq (.reg [⟨(some 69), .mv, [.tmp 14], none⟩,
                          ⟨(some 70), .faddr 2, [.tmp 8], none⟩,
                          ⟨(some 71), .load false 1, [.tmp 70], none⟩,
                          ⟨(some 72), .len false, [.tmp 71], none⟩,
                          ⟨(some 73), .bin .lss, [.tmp 69, .tmp 72], none⟩,
                          ⟨(some 74), .mv, [.tmp 73], none⟩,
                          ⟨(some 75), .mv, [.tmp 12], (some (74, true))⟩,
                          ⟨(some 76), .un .not, [.tmp 75], (some (74, true))⟩,
                          ⟨(some 77), .pick, [.tmp 74, .tmp 76, .const (.bool false)], none⟩])
                      (.cond (.tmp 77)
                       .skip
                       (.exit 2)))
                     (.seq (.block 3 (.seq (.reg [⟨(some 80), .faddr 2, [.tmp 8], none⟩,
                            ⟨(some 81), .load false 1, [.tmp 80], none⟩,
                            ⟨(some 82), .mv, [.tmp 14], none⟩,
                            ⟨(some 83), .iaddr none 3, [.tmp 81, .tmp 82], none⟩,
                            ⟨(some 84), .load true 3, [.tmp 83], none⟩,
                            ⟨(some 15), .new [.lit (.bool false), .lit (.int .i64 0), .sl true 0 (some 0) []], [], none⟩,
                            ⟨none, .store 3, [.tmp 15, .tmp 84], none⟩])
                        (.seq (.seq (.reg [⟨(some 85), .faddr 0, [.tmp 15], none⟩,
                              ⟨(some 86), .load false 1, [.tmp 85], none⟩,
                              ⟨(some 87), .mv, [.tmp 86], none⟩,
                              ⟨(some 88), .mv, [.tmp 13], (some (87, false))⟩,
                              ⟨(some 89), .mv, [.tmp 9], (some (87, false))⟩,
                              ⟨(some 90), .len false, [.tmp 89], (some (87, false))⟩,
                              ⟨(some 91), .bin .geq, [.tmp 88, .tmp 90], (some (87, false))⟩,
                              ⟨(some 92), .pick, [.tmp 87, .const (.bool true), .tmp 91], none⟩])
                          (.cond (.tmp 92)
                           (.exit 3)
                           .skip))
                         (.seq (.reg [⟨(some 93), .mv, [.tmp 9], none⟩,
                              ⟨(some 94), .mv, [.tmp 13], none⟩,
                              ⟨(some 95), .iaddr none 2, [.tmp 93, .tmp 94], none⟩,
                              ⟨(some 96), .load true 2, [.tmp 95], none⟩,
                              ⟨(some 16), .new [.lit (.int .i64 0), .lit (.int .i64 0)], [], none⟩,
                              ⟨none, .store 2, [.tmp 16, .tmp 96], none⟩])
                          (.seq (.reg [⟨(some 97), .mv, [.tmp 13], none⟩,
                               ⟨(some 98), .bin .add, [.tmp 97, .const (.int .i64 1)], none⟩,
                               ⟨(some 13), .mv, [.tmp 98], none⟩])
                           (.seq (.reg [⟨(some 99), .faddr 0, [.tmp 16], none⟩,
                                ⟨(some 100), .load false 1, [.tmp 99], none⟩,
                                ⟨(some 101), .bin .eql, [.tmp 100, .const (.int .i64 0)], none⟩,
                                ⟨(some 102), .mv, [.tmp 101], none⟩,
                                ⟨(some 103), .faddr 1, [.tmp 15], (some (102, true))⟩,
                                ⟨(some 104), .load false 1, [.tmp 103], (some (102, true))⟩,
                                ⟨(some 105), .mv, [.tmp 11], (some (102, true))⟩,
                                ⟨(some 106), .bin .eql, [.tmp 104, .tmp 105], (some (102, true))⟩,
                                ⟨(some 107), .pick, [.tmp 102, .tmp 106, .const (.bool false)], none⟩,
                                ⟨(some 108), .mv, [.tmp 107], none⟩,
                                ⟨(some 109), .faddr 0, [.tmp 16], (some (108, false))⟩,
                                ⟨(some 110), .load false 1, [.tmp 109], (some (108, false))⟩,
                                ⟨(some 111), .bin .eql, [.tmp 110, .const (.int .i64 3)], (some (108, false))⟩,
                                ⟨(some 112), .mv, [.tmp 111], (some (108, false))⟩,
                                ⟨(some 113), .faddr 1, [.tmp 16], (some (112, true))⟩,
                                ⟨(some 114), .load false 1, [.tmp 113], (some (112, true))⟩,
                                ⟨(some 115), .mv, [.tmp 11], (some (112, true))⟩,
                                ⟨(some 116), .bin .eql, [.tmp 114, .tmp 115], (some (112, true))⟩,
                                ⟨(some 117), .pick, [.tmp 112, .tmp 116, .const (.bool false)], (some (108, false))⟩,
                                ⟨(some 118), .pick, [.tmp 108, .const (.bool true), .tmp 117], none⟩,
                                ⟨(some 17), .mv, [.tmp 118], none⟩])
                            (.seq (.reg [⟨(some 119), .faddr 1, [.tmp 16], none⟩,
                                 ⟨(some 120), .load false 1, [.tmp 119], none⟩,
                                 ⟨(some 121), .faddr 2, [.tmp 15], none⟩,
                                 ⟨(some 122), .load false 1, [.tmp 121], none⟩,
                                 ⟨(some 123), .len false, [.tmp 122], none⟩,
                                 ⟨(some 124), .min, [.tmp 120, .tmp 123], none⟩,
                                 ⟨(some 125), .max, [.const (.int .i64 0), .tmp 124], none⟩,
                                 ⟨(some 18), .mv, [.tmp 125], none⟩])
                             (.seq (.dreg [⟨⟨(some 126), .faddr 0, [.tmp 16], none⟩, [], none⟩,
                                  ⟨⟨(some 127), .load false 1, [.tmp 126], none⟩, [], none⟩,
                                  ⟨⟨(some 128), .bin .eql, [.tmp 127, .const (.int .i64 2)], none⟩, [], none⟩,
                                  ⟨⟨(some 129), .mv, [.tmp 128], none⟩, [], none⟩,
                                  ⟨⟨(some 130), .faddr 1, [.tmp 15], (some (129, true))⟩, [], none⟩,
                                  ⟨⟨(some 131), .load false 1, [.tmp 130], (some (129, true))⟩, [], none⟩,
                                  ⟨⟨(some 132), .mv, [.tmp 11], (some (129, true))⟩, [], none⟩,
                                  ⟨⟨(some 133), .bin .eql, [.tmp 131, .tmp 132], (some (129, true))⟩, [], none⟩,
                                  ⟨⟨(some 134), .pick, [.tmp 129, .tmp 133, .const (.bool false)], none⟩, [], none⟩,
                                  ⟨⟨(some 135), .mv, [.tmp 134], none⟩, [], none⟩,
                                  ⟨⟨(some 136), .faddr 1, [.tmp 10], (some (135, true))⟩, [], none⟩,
                                  ⟨⟨(some 137), .load false 1, [.tmp 136], (some (135, true))⟩, [], none⟩,
                                  ⟨⟨(some 138), .mv, [.tmp 11], (some (135, true))⟩, [], none⟩,
                                  ⟨⟨(some 139), .iaddr none 1, [.tmp 137, .tmp 138], (some (135, true))⟩, [], none⟩,
                                  ⟨⟨(some 140), .load false 1, [.tmp 139], (some (135, true))⟩, [], none⟩,
                                  ⟨⟨(some 141), .len false, [.tmp 140], (some (135, true))⟩, [], none⟩,
                                  ⟨⟨(some 142), .mv, [.tmp 18], (some (135, true))⟩, [], none⟩,
                                  ⟨⟨(some 143), .bin .geq, [.tmp 141, .tmp 142], (some (135, true))⟩, [], none⟩,
                                  ⟨⟨(some 144), .pick, [.tmp 135, .tmp 143, .const (.bool false)], none⟩, [], none⟩,
                                  ⟨⟨(some 145), .mv, [.tmp 144], none⟩, [], none⟩,
                                  ⟨⟨(some 146), .faddr 1, [.tmp 10], (some (145, true))⟩, [], none⟩,
                                  ⟨⟨(some 147), .load false 1, [.tmp 146], (some (145, true))⟩, [], none⟩,
                                  ⟨⟨(some 148), .mv, [.tmp 11], (some (145, true))⟩, [], none⟩,
                                  ⟨⟨(some 149), .iaddr none 1, [.tmp 147, .tmp 148], (some (145, true))⟩, [], none⟩,
                                  ⟨⟨(some 150), .load false 1, [.tmp 149], (some (145, true))⟩, [], none⟩,
                                  ⟨⟨(some 151), .mv, [.tmp 18], (some (145, true))⟩, [], none⟩,
                                  ⟨⟨(some 152), .slice 1 false true false, [.tmp 150, .tmp 151], (some (145, true))⟩, [], none⟩,
                                  ⟨⟨(some 153), .b2s, [.tmp 152], (some (145, true))⟩, [], none⟩,
                                  ⟨⟨(some 154), .faddr 2, [.tmp 15], (some (145, true))⟩, [], none⟩,
                                  ⟨⟨(some 155), .load false 1, [.tmp 154], (some (145, true))⟩, [], none⟩,
                                  ⟨⟨(some 156), .mv, [.tmp 18], (some (145, true))⟩, [], none⟩,
                                  ⟨⟨(some 157), .slice 1 false true false, [.tmp 155, .tmp 156], (some (145, true))⟩, [], none⟩,
                                  ⟨⟨(some 158), .b2s, [.tmp 157], (some (145, true))⟩, [], none⟩,
                                  ⟨⟨(some 159), .bin .eql, [.tmp 153, .tmp 158], (some (145, true))⟩, [], none⟩,
                                  ⟨⟨(some 160), .pick, [.tmp 145, .tmp 159, .const (.bool false)], none⟩, [], none⟩,
                                  ⟨⟨(some 19), .mv, [.tmp 160], none⟩, [], none⟩])
                              (.dreg [⟨⟨(some 161), .mv, [.tmp 17], none⟩, [], none⟩,
                                  ⟨⟨(some 162), .mv, [.tmp 161], none⟩, [], none⟩,
                                  ⟨⟨(some 163), .faddr 1, [.tmp 10], (some (162, true))⟩, [], none⟩,
                                  ⟨⟨(some 164), .load false 1, [.tmp 163], (some (162, true))⟩, [], none⟩,
                                  ⟨⟨(some 165), .mv, [.tmp 11], (some (162, true))⟩, [], none⟩,
                                  ⟨⟨(some 166), .iaddr none 1, [.tmp 164, .tmp 165], (some (162, true))⟩, [], none⟩,
                                  ⟨⟨(some 167), .load false 1, [.tmp 166], (some (162, true))⟩, [], none⟩,
                                  ⟨⟨(some 168), .b2s, [.tmp 167], (some (162, true))⟩, [], none⟩,
                                  ⟨⟨(some 169), .faddr 2, [.tmp 15], (some (162, true))⟩, [], none⟩,
                                  ⟨⟨(some 170), .load false 1, [.tmp 169], (some (162, true))⟩, [], none⟩,
                                  ⟨⟨(some 171), .b2s, [.tmp 170], (some (162, true))⟩, [], none⟩,
                                  ⟨⟨(some 172), .bin .eql, [.tmp 168, .tmp 171], (some (162, true))⟩, [], none⟩,
                                  ⟨⟨(some 173), .pick, [.tmp 162, .tmp 172, .const (.bool false)], none⟩, [], none⟩,
                                  ⟨⟨(some 174), .mv, [.tmp 173], none⟩, [], none⟩,
                                  ⟨⟨(some 175), .mv, [.tmp 19], (some (174, false))⟩, [], none⟩,
                                  ⟨⟨(some 176), .pick, [.tmp 174, .const (.bool true), .tmp 175], none⟩, [], none⟩,
                                  ⟨⟨(some 12), .mv, [.tmp 176], none⟩, [], none⟩])))))))))
                      (.reg [⟨(some 78), .mv, [.tmp 14], none⟩,
                          ⟨(some 79), .bin .add, [.tmp 78, .const (.int .i64 1)], none⟩,
                          ⟨(some 14), .mv, [.tmp 79], none⟩]))))))
                 (.seq (.dreg [⟨⟨(some 177), .mv, [.tmp 12], none⟩, [], none⟩,
                      ⟨⟨(some 178), .un .not, [.tmp 177], none⟩, [], none⟩,
                      ⟨⟨(some 179), .mv, [.tmp 178], none⟩, [], none⟩,
                      ⟨⟨(some 180), .faddr 1, [.tmp 10], (some (179, false))⟩, [], none⟩,
                      ⟨⟨(some 181), .load false 1, [.tmp 180], (some (179, false))⟩, [], none⟩,
                      ⟨⟨(some 182), .mv, [.tmp 11], (some (179, false))⟩, [], none⟩,
                      ⟨⟨(some 183), .iaddr none 1, [.tmp 181, .tmp 182], (some (179, false))⟩, [], none⟩,
                      ⟨⟨(some 184), .load false 1, [.tmp 183], (some (179, false))⟩, [], none⟩,
                      ⟨⟨(some 185), .len false, [.tmp 184], (some (179, false))⟩, [], none⟩,
                      ⟨⟨(some 186), .faddr 0, [.tmp 8], (some (179, false))⟩, [], none⟩,
                      ⟨⟨(some 187), .load false 1, [.tmp 186], (some (179, false))⟩, [], none⟩,
                      ⟨⟨(some 188), .bin .gtr, [.tmp 185, .tmp 187], (some (179, false))⟩, [], none⟩,
                      ⟨⟨(some 189), .pick, [.tmp 179, .const (.bool true), .tmp 188], none⟩, [], none⟩])
                  (.cond (.tmp 189)
                   (.seq (.reg [⟨(some 6), .mv, [.const (.bool false)], none⟩])
                    .ret)
                   .skip)))))
              (.reg [⟨(some 54), .mv, [.tmp 11], none⟩,
                  ⟨(some 55), .bin .add, [.tmp 54, .const (.int .i64 1)], none⟩,
                  ⟨(some 11), .mv, [.tmp 55], none⟩]))))))
         (.seq (.reg [⟨(some 190), .mv, [.tmp 7], none⟩,
              ⟨(some 6), .mv, [.tmp 190], none⟩])
          .ret)))))))

theorem tab6 : tab 6 = some A6 := by unfold tab; kernel_rfl

/-- downspout/downspoutlaw23.DiskOrder -/
def A7 : AFn where
  isPure := true
  ntmps := 189
  res := [(6, none)]
  body := (.seq (.reg [⟨(some 3), .box, [.tmp 0], none⟩,
        ⟨(some 4), .box, [.tmp 1], none⟩,
        ⟨(some 6), .mv, [.const (.bool false)], none⟩])
    (.seq (.reg [⟨(some 19), .call, [.func 9], none⟩,
         ⟨(some 7), .mv, [.tmp 19], none⟩])
     (.seq (.reg [⟨(some 20), .load true 2, [.tmp 3], none⟩,
          ⟨(some 21), .iaddr (some 3) 1, [.tmp 4, .const (.int .i64 0)], none⟩,
          ⟨(some 22), .load false 1, [.tmp 21], none⟩,
          ⟨(some 23), .call, [.func 10, .tmp 20, .tmp 22, .const (.int .i64 8)], none⟩,
          ⟨(some 24), .mv, [.tmp 2], none⟩,
          ⟨(some 25), .call, [.func 18, .tmp 24, .const (.int .i64 14)], none⟩,
          ⟨(some 8), .new [.lit (.int .i64 0), .sl true 0 (some 0) [], .sl true 0 (some 0) []], [], none⟩,
          ⟨none, .store 3, [.tmp 8, .tmp 23], none⟩,
          ⟨(some 9), .mv, [.tmp 25], none⟩])
      (.seq (.seq (.reg [⟨(some 26), .iaddr (some 3) 1, [.tmp 4, .const (.int .i64 1)], none⟩,
            ⟨(some 27), .load false 1, [.tmp 26], none⟩,
            ⟨(some 28), .len false, [.tmp 27], none⟩,
            ⟨(some 29), .bin .lss, [.tmp 28, .const (.int .i64 2)], none⟩,
            ⟨(some 30), .mv, [.tmp 29], none⟩,
            ⟨(some 31), .faddr 1, [.tmp 8], (some (30, false))⟩,
            ⟨(some 32), .load false 1, [.tmp 31], (some (30, false))⟩,
            ⟨(some 33), .len false, [.tmp 32], (some (30, false))⟩,
            ⟨(some 34), .bin .lss, [.tmp 33, .const (.int .i64 2)], (some (30, false))⟩,
            ⟨(some 35), .pick, [.tmp 30, .const (.bool true), .tmp 34], none⟩])
        (.cond (.tmp 35)
         (.seq (.reg [⟨(some 36), .mv, [.tmp 7], none⟩,
              ⟨(some 6), .mv, [.tmp 36], none⟩])
          .ret)
         .skip))
       (.seq (.reg [⟨(some 10), .mv, [.const (.int .i64 0)], none⟩])
        (.seq (.seq (.reg [⟨(some 11), .mv, [.const (.int .i64 0)], none⟩])
          (.block 0 (.loop (.seq (.seq (.reg [⟨(some 37), .mv, [.tmp 11], none⟩,
                  ⟨(some 38), .faddr 2, [.tmp 8], none⟩,
                  ⟨(some 39), .load false 1, [.tmp 38], none⟩,
                  ⟨(some 40), .len false, [.tmp 39], none⟩,
                  ⟨(some 41), .bin .lss, [.tmp 37, .tmp 40], none⟩])
              (.cond (.tmp 41)
               .skip
               (.exit 0)))
             (.seq (.block 1 (.seq (.reg [⟨(some 44), .faddr 2, [.tmp 8], none⟩,
                    ⟨(some 45), .load false 1, [.tmp 44], none⟩,
                    ⟨(some 46), .mv, [.tmp 11], none⟩,
                    ⟨(some 47), .iaddr none 3, [.tmp 45, .tmp 46], none⟩,
                    ⟨(some 48), .faddr 0, [.tmp 47], none⟩,
                    ⟨(some 49), .load false 1, [.tmp 48], none⟩,
                    ⟨(some 50), .un .not, [.tmp 49], none⟩])
                (.cond (.tmp 50)
                 (.reg [⟨(some 51), .mv, [.tmp 10], none⟩,
                     ⟨(some 52), .bin .add, [.tmp 51, .const (.int .i64 1)], none⟩,
                     ⟨(some 10), .mv, [.tmp 52], none⟩])
                 .skip)))
              (.reg [⟨(some 42), .mv, [.tmp 11], none⟩,
                  ⟨(some 43), .bin .add, [.tmp 42, .const (.int .i64 1)], none⟩,
                  ⟨(some 11), .mv, [.tmp 43], none⟩]))))))
         (.seq (.block 2 (.loop (.seq (.seq (.reg [⟨(some 53), .mv, [.tmp 9], none⟩,
                  ⟨(some 54), .len false, [.tmp 53], none⟩,
                  ⟨(some 55), .mv, [.tmp 10], none⟩,
                  ⟨(some 56), .bin .add, [.tmp 55, .const (.int .i64 2)], none⟩,
                  ⟨(some 57), .bin .lss, [.tmp 54, .tmp 56], none⟩])
              (.cond (.tmp 57)
               .skip
               (.exit 2)))
             (.block 3 (.reg [⟨(some 58), .mv, [.tmp 9], none⟩,
                  ⟨(some 59), .build [.lit (.int .i64 0), .lit (.int .i64 0)] [(0, 1)], [.const (.int .i64 1)], none⟩,
                  ⟨(some 60), .bslice 1 2 [.lit (.int .i64 0), .lit (.int .i64 0)] [(0, 2)], [.tmp 59], none⟩,
                  ⟨(some 61), .append 2 16, [.tmp 58, .tmp 60], none⟩,
                  ⟨(some 9), .mv, [.tmp 61], none⟩])))))
          (.seq (.seq (.reg [⟨(some 62), .mv, [.tmp 9], none⟩,
                ⟨(some 63), .mv, [.tmp 10], none⟩,
                ⟨(some 64), .iaddr none 2, [.tmp 62, .tmp 63], none⟩,
                ⟨(some 65), .faddr 0, [.tmp 64], none⟩,
                ⟨(some 66), .load false 1, [.tmp 65], none⟩,
                ⟨(some 67), .bin .eql, [.tmp 66, .const (.int .i64 3)], none⟩,
                ⟨(some 68), .mv, [.tmp 67], none⟩,
                ⟨(some 69), .mv, [.tmp 9], (some (68, false))⟩,
                ⟨(some 70), .mv, [.tmp 10], (some (68, false))⟩,
                ⟨(some 71), .bin .add, [.tmp 70, .const (.int .i64 1)], (some (68, false))⟩,
                ⟨(some 72), .iaddr none 2, [.tmp 69, .tmp 71], (some (68, false))⟩,
                ⟨(some 73), .faddr 0, [.tmp 72], (some (68, false))⟩,
                ⟨(some 74), .load false 1, [.tmp 73], (some (68, false))⟩,
                ⟨(some 75), .bin .eql, [.tmp 74, .const (.int .i64 3)], (some (68, false))⟩,
                ⟨(some 76), .pick, [.tmp 68, .const (.bool true), .tmp 75], none⟩])
            (.cond (.tmp 76)
             (.seq (.reg [⟨(some 77), .mv, [.tmp 7], none⟩,
                  ⟨(some 6), .mv, [.tmp 77], none⟩])
              .ret)
             .skip))
           (.seq (.dreg [⟨⟨(some 78), .iaddr (some 3) 1, [.tmp 4, .const (.int .i64 1)], none⟩, [8, 9], none⟩,
                ⟨⟨(some 79), .load false 1, [.tmp 78], none⟩, [8, 9], none⟩,
                ⟨⟨(some 80), .iaddr none 3, [.tmp 79, .const (.int .i64 0)], none⟩, [8, 9], none⟩,
                ⟨⟨(some 81), .load true 3, [.tmp 80], none⟩, [8, 9], none⟩,
                ⟨⟨(some 82), .iaddr (some 3) 1, [.tmp 4, .const (.int .i64 1)], none⟩, [8, 9], none⟩,
                ⟨⟨(some 83), .load false 1, [.tmp 82], none⟩, [8, 9], none⟩,
                ⟨⟨(some 84), .iaddr none 3, [.tmp 83, .const (.int .i64 1)], none⟩, [8, 9], none⟩,
                ⟨⟨(some 85), .load true 3, [.tmp 84], none⟩, [8, 9], none⟩,
                ⟨⟨(some 12), .new [.lit (.int .u8 0), .lit (.int .u8 0), .sl true 0 (some 0) []], [], none⟩, [9], none⟩,
                ⟨⟨(some 13), .new [.lit (.int .u8 0), .lit (.int .u8 0), .sl true 0 (some 0) []], [], none⟩, [8], none⟩,
                ⟨⟨none, .store 3, [.tmp 12, .tmp 81], none⟩, [], (some [8, 9])⟩,
                ⟨⟨none, .store 3, [.tmp 13, .tmp 85], none⟩, [], none⟩])
            (.seq (.reg [⟨(some 86), .faddr 0, [.tmp 12], none⟩,
                 ⟨none, .store 1, [.tmp 86, .const (.int .u8 3)], none⟩,
                 ⟨(some 87), .faddr 0, [.tmp 13], none⟩,
                 ⟨none, .store 1, [.tmp 87, .const (.int .u8 3)], none⟩])
             (.seq (.reg [⟨(some 88), .faddr 1, [.tmp 12], none⟩,
                  ⟨(some 89), .load false 1, [.tmp 88], none⟩,
                  ⟨(some 90), .conv .i64, [.tmp 89], none⟩,
                  ⟨(some 91), .faddr 1, [.tmp 8], none⟩,
                  ⟨(some 92), .load false 1, [.tmp 91], none⟩,
                  ⟨(some 93), .len false, [.tmp 92], none⟩,
                  ⟨(some 94), .bin .rem, [.tmp 90, .tmp 93], none⟩,
                  ⟨(some 95), .conv .u8, [.tmp 94], none⟩,
                  ⟨(some 96), .faddr 1, [.tmp 12], none⟩,
                  ⟨none, .store 1, [.tmp 96, .tmp 95], none⟩])
              (.seq (.dreg [⟨⟨(some 97), .faddr 1, [.tmp 12], none⟩, [], none⟩,
                   ⟨⟨(some 98), .load false 1, [.tmp 97], none⟩, [], none⟩,
                   ⟨⟨(some 99), .conv .i64, [.tmp 98], none⟩, [], none⟩,
                   ⟨⟨(some 100), .bin .add, [.tmp 99, .const (.int .i64 1)], none⟩, [], none⟩,
                   ⟨⟨(some 101), .faddr 1, [.tmp 13], none⟩, [], none⟩,
                   ⟨⟨(some 102), .load false 1, [.tmp 101], none⟩, [], none⟩,
                   ⟨⟨(some 103), .conv .i64, [.tmp 102], none⟩, [], none⟩,
                   ⟨⟨(some 104), .faddr 1, [.tmp 8], none⟩, [], none⟩,
                   ⟨⟨(some 105), .load false 1, [.tmp 104], none⟩, [], none⟩,
                   ⟨⟨(some 106), .len false, [.tmp 105], none⟩, [], none⟩,
                   ⟨⟨(some 107), .bin .sub, [.tmp 106, .const (.int .i64 1)], none⟩, [], none⟩,
                   ⟨⟨(some 108), .bin .rem, [.tmp 103, .tmp 107], none⟩, [], none⟩,
                   ⟨⟨(some 109), .bin .add, [.tmp 100, .tmp 108], none⟩, [], none⟩,
                   ⟨⟨(some 110), .faddr 1, [.tmp 8], none⟩, [], none⟩,
                   ⟨⟨(some 111), .load false 1, [.tmp 110], none⟩, [], none⟩,
                   ⟨⟨(some 112), .len false, [.tmp 111], none⟩, [], none⟩,
                   ⟨⟨(some 113), .bin .rem, [.tmp 109, .tmp 112], none⟩, [], none⟩,
                   ⟨⟨(some 114), .conv .u8, [.tmp 113], none⟩, [], none⟩,
                   ⟨⟨(some 115), .faddr 1, [.tmp 13], none⟩, [], none⟩,
                   ⟨⟨none, .store 1, [.tmp 115, .tmp 114], none⟩, [], none⟩])
               (.seq (.dreg [⟨⟨(some 116), .load true 3, [.tmp 8], none⟩, [10, 11], none⟩,
                    ⟨⟨(some 117), .load true 3, [.tmp 12], none⟩, [10, 11], none⟩,
                    ⟨⟨(some 118), .call, [.func 20, .tmp 116, .tmp 117], none⟩, [10, 11], none⟩,
                    ⟨⟨(some 119), .load true 3, [.tmp 13], none⟩, [10, 11], none⟩,
                    ⟨⟨(some 120), .call, [.func 20, .tmp 118, .tmp 119], none⟩, [10, 11], none⟩,
                    ⟨⟨(some 121), .load true 3, [.tmp 8], none⟩, [10, 11], none⟩,
                    ⟨⟨(some 122), .load true 3, [.tmp 13], none⟩, [10, 11], none⟩,
                    ⟨⟨(some 123), .call, [.func 20, .tmp 121, .tmp 122], none⟩, [10, 11], none⟩,
                    ⟨⟨(some 124), .load true 3, [.tmp 12], none⟩, [10, 11], none⟩,
                    ⟨⟨(some 125), .call, [.func 20, .tmp 123, .tmp 124], none⟩, [10, 11], none⟩,
                    ⟨⟨(some 14), .new [.lit (.int .i64 0), .sl true 0 (some 0) [], .sl true 0 (some 0) []], [], none⟩, [11], none⟩,
                    ⟨⟨(some 15), .new [.lit (.int .i64 0), .sl true 0 (some 0) [], .sl true 0 (some 0) []], [], none⟩, [10], none⟩,
                    ⟨⟨none, .store 3, [.tmp 14, .tmp 120], none⟩, [], none⟩,
                    ⟨⟨none, .store 3, [.tmp 15, .tmp 125], none⟩, [], none⟩])
                (.seq (.seq (.reg [⟨(some 16), .mv, [.const (.int .i64 0)], none⟩])
                  (.block 4 (.loop (.seq (.seq (.reg [⟨(some 126), .mv, [.tmp 16], none⟩,
                          ⟨(some 127), .iaddr (some 3) 1, [.tmp 4, .const (.int .i64 2)], none⟩,
                          ⟨(some 128), .load false 1, [.tmp 127], none⟩,
                          ⟨(some 129), .len false, [.tmp 128], none⟩,
                          ⟨(some 130), .bin .lss, [.tmp 126, .tmp 129], none⟩,
                          ⟨(some 131), .mv, [.tmp 130], none⟩,
                          ⟨(some 132), .mv, [.tmp 16], (some (131, true))⟩,
                          ⟨(some 133), .bin .lss, [.tmp 132, .const (.int .i64 4)], (some (131, true))⟩,
                          ⟨(some 134), .pick, [.tmp 131, .tmp 133, .const (.bool false)], none⟩])
                      (.cond (.tmp 134)
                       .skip
                       (.exit 4)))
                     (.seq (.block 5 (.seq (.reg [⟨(some 137), .iaddr (some 3) 1, [.tmp 4, .const (.int .i64 2)], none⟩,
                            ⟨(some 138), .load false 1, [.tmp 137], none⟩,
                            ⟨(some 139), .mv, [.tmp 16], none⟩,
                            ⟨(some 140), .iaddr none 3, [.tmp 138, .tmp 139], none⟩,
                            ⟨(some 141), .load true 3, [.tmp 140], none⟩,
                            ⟨(some 17), .new [.lit (.int .u8 0), .lit (.int .u8 0), .sl true 0 (some 0) []], [], none⟩,
                            ⟨none, .store 3, [.tmp 17, .tmp 141], none⟩])
                        (.seq (.reg [⟨(some 142), .faddr 0, [.tmp 17], none⟩,
                             ⟨(some 143), .load false 1, [.tmp 142], none⟩,
                             ⟨(some 144), .bin .rem, [.tmp 143, .const (.int .u8 7)], none⟩,
                             ⟨(some 145), .bin .add, [.const (.int .u8 1), .tmp 144], none⟩,
                             ⟨(some 146), .faddr 0, [.tmp 17], none⟩,
                             ⟨none, .store 1, [.tmp 146, .tmp 145], none⟩])
                         (.dreg [⟨⟨(some 147), .load true 3, [.tmp 14], none⟩, [], none⟩,
                             ⟨⟨(some 148), .load true 3, [.tmp 17], none⟩, [], none⟩,
                             ⟨⟨(some 149), .call, [.func 20, .tmp 147, .tmp 148], none⟩, [], none⟩,
                             ⟨⟨(some 150), .load true 3, [.tmp 15], none⟩, [], none⟩,
                             ⟨⟨(some 151), .load true 3, [.tmp 17], none⟩, [], none⟩,
                             ⟨⟨(some 152), .call, [.func 20, .tmp 150, .tmp 151], none⟩, [], none⟩,
                             ⟨⟨none, .store 3, [.tmp 14, .tmp 149], none⟩, [], none⟩,
                             ⟨⟨none, .store 3, [.tmp 15, .tmp 152], none⟩, [], none⟩]))))
                      (.reg [⟨(some 135), .mv, [.tmp 16], none⟩,
                          ⟨(some 136), .bin .add, [.tmp 135, .const (.int .i64 1)], none⟩,
                          ⟨(some 16), .mv, [.tmp 136], none⟩]))))))
                 (.seq (.reg [⟨(some 153), .bslice 0 2 [] [], [], none⟩,
                      ⟨(some 154), .mv, [.tmp 9], none⟩,
                      ⟨(some 155), .append 2 16, [.tmp 153, .tmp 154], none⟩,
                      ⟨(some 18), .mv, [.tmp 155], none⟩])
                  (.seq (.dreg [⟨⟨(some 156), .mv, [.tmp 18], none⟩, [], none⟩,
                       ⟨⟨(some 157), .mv, [.tmp 10], none⟩, [], none⟩,
                       ⟨⟨(some 158), .mv, [.tmp 18], none⟩, [], none⟩,
                       ⟨⟨(some 159), .mv, [.tmp 10], none⟩, [], none⟩,
                       ⟨⟨(some 160), .bin .add, [.tmp 159, .const (.int .i64 1)], none⟩, [], none⟩,
                       ⟨⟨(some 161), .mv, [.tmp 9], none⟩, [], none⟩,
                       ⟨⟨(some 162), .mv, [.tmp 10], none⟩, [], none⟩,
                       ⟨⟨(some 163), .bin .add, [.tmp 162, .const (.int .i64 1)], none⟩, [], none⟩,
                       ⟨⟨(some 164), .iaddr none 2, [.tmp 161, .tmp 163], none⟩, [], none⟩,
                       ⟨⟨(some 165), .load true 2, [.tmp 164], none⟩, [], none⟩,
                       ⟨⟨(some 166), .mv, [.tmp 9], none⟩, [], none⟩,
                       ⟨⟨(some 167), .mv, [.tmp 10], none⟩, [], none⟩,
                       ⟨⟨(some 168), .iaddr none 2, [.tmp 166, .tmp 167], none⟩, [], none⟩,
                       ⟨⟨(some 169), .load true 2, [.tmp 168], none⟩, [], none⟩,
                       ⟨⟨(some 170), .iaddr none 2, [.tmp 156, .tmp 157], none⟩, [], none⟩,
                       ⟨⟨none, .store 2, [.tmp 170, .tmp 165], none⟩, [], none⟩,
                       ⟨⟨(some 171), .iaddr none 2, [.tmp 158, .tmp 160], none⟩, [], none⟩,
                       ⟨⟨none, .store 2, [.tmp 171, .tmp 169], none⟩, [], none⟩])
                   (.seq (.seq (.frz [9, 18])
                     (.dreg [⟨⟨(some 172), .load true 3, [.tmp 14], none⟩, [], none⟩,
                         ⟨⟨(some 173), .mv, [.tmp 9], none⟩, [], none⟩,
                         ⟨⟨(some 174), .call, [.func 15, .tmp 172, .tmp 173], none⟩, [], none⟩,
                         ⟨⟨(some 175), .load true 3, [.tmp 15], none⟩, [], none⟩,
                         ⟨⟨(some 176), .mv, [.tmp 18], none⟩, [], none⟩,
                         ⟨⟨(some 177), .call, [.func 15, .tmp 175, .tmp 176], none⟩, [], none⟩,
                         ⟨⟨(some 178), .call, [.func 16, .tmp 174, .tmp 177], none⟩, [], none⟩,
                         ⟨⟨(some 179), .mv, [.tmp 178], none⟩, [], none⟩,
                         ⟨⟨(some 180), .load true 3, [.tmp 14], (some (179, true))⟩, [], none⟩,
                         ⟨⟨(some 181), .call, [.func 12, .tmp 180], (some (179, true))⟩, [], none⟩,
                         ⟨⟨(some 182), .load true 3, [.tmp 15], (some (179, true))⟩, [], none⟩,
                         ⟨⟨(some 183), .call, [.func 12, .tmp 182], (some (179, true))⟩, [], none⟩,
                         ⟨⟨(some 184), .call, [.func 16, .tmp 181, .tmp 183], (some (179, true))⟩, [], none⟩,
                         ⟨⟨(some 185), .pick, [.tmp 179, .tmp 184, .const (.bool false)], none⟩, [], none⟩,
                         ⟨⟨(some 186), .mv, [.tmp 185], none⟩, [], none⟩,
                         ⟨⟨(some 187), .mv, [.tmp 7], (some (186, true))⟩, [], none⟩,
                         ⟨⟨(some 188), .pick, [.tmp 186, .tmp 187, .const (.bool false)], none⟩, [], none⟩,
                         ⟨⟨(some 6), .mv, [.tmp 188], none⟩, [], none⟩]))
                    .ret)))))))))))))))))

theorem tab7 : tab 7 = some A7 := by unfold tab; kernel_rfl

/-- downspout/downspoutlaw23.DiskRots -/
def A8 : AFn where
  isPure := true
  ntmps := 228
  res := [(6, none)]
  body := (.seq (.reg [⟨(some 3), .box, [.tmp 0], none⟩,
        ⟨(some 5), .box, [.tmp 2], none⟩,
        ⟨(some 6), .mv, [.const (.bool false)], none⟩])
    (.seq (.reg [⟨(some 25), .call, [.func 9], none⟩,
         ⟨(some 7), .mv, [.tmp 25], none⟩])
     (.seq (.dreg [⟨⟨(some 26), .load true 2, [.tmp 3], none⟩, [12], none⟩,
          ⟨⟨(some 27), .mv, [.tmp 1], none⟩, [12], none⟩,
          ⟨⟨(some 28), .call, [.func 10, .tmp 26, .tmp 27, .const (.int .i64 12)], none⟩, [12], none⟩,
          ⟨⟨(some 29), .iaddr (some 3) 1, [.tmp 5, .const (.int .i64 0)], none⟩, [12], none⟩,
          ⟨⟨(some 30), .load false 1, [.tmp 29], none⟩, [12], none⟩,
          ⟨⟨(some 31), .conv .i64, [.tmp 30], none⟩, [12], none⟩,
          ⟨⟨(some 32), .iaddr (some 3) 1, [.tmp 5, .const (.int .i64 1)], none⟩, [12], none⟩,
          ⟨⟨(some 33), .load false 1, [.tmp 32], none⟩, [12], none⟩,
          ⟨⟨(some 34), .conv .i64, [.tmp 33], none⟩, [12], none⟩,
          ⟨⟨(some 35), .iaddr (some 3) 1, [.tmp 5, .const (.int .i64 2)], none⟩, [12], none⟩,
          ⟨⟨(some 36), .load false 1, [.tmp 35], none⟩, [12], none⟩,
          ⟨⟨(some 37), .conv .u8, [.tmp 36], none⟩, [12], none⟩,
          ⟨⟨(some 8), .new [.lit (.int .i64 0), .sl true 0 (some 0) [], .sl true 0 (some 0) []], [], none⟩, [], none⟩,
          ⟨⟨none, .store 3, [.tmp 8, .tmp 28], none⟩, [], (some [12])⟩,
          ⟨⟨(some 9), .mv, [.tmp 31], none⟩, [], none⟩,
          ⟨⟨(some 10), .mv, [.tmp 34], none⟩, [], none⟩,
          ⟨⟨(some 11), .mv, [.tmp 37], none⟩, [], none⟩])
      (.seq (.reg [⟨(some 39), .load true 3, [.tmp 8], none⟩,
           ⟨(some 40), .mv, [.tmp 9], none⟩,
           ⟨(some 41), .mv, [.tmp 10], none⟩,
           ⟨(some 42), .mv, [.tmp 11], none⟩,
           ⟨(some 43), .call, [.func 22, .tmp 39, .tmp 40, .tmp 41, .tmp 42], none⟩,
           ⟨(some 38), .mv, [.tmp 43], none⟩,
           ⟨(some 44), .ext 0, [.tmp 38], none⟩,
           ⟨(some 45), .ext 1, [.tmp 38], none⟩,
           ⟨(some 12), .new [.lit (.int .i64 0), .sl true 0 (some 0) [], .sl true 0 (some 0) []], [], none⟩,
           ⟨none, .store 3, [.tmp 12, .tmp 44], none⟩,
           ⟨(some 13), .mv, [.tmp 45], none⟩])
       (.seq (.seq (.reg [⟨(some 46), .mv, [.tmp 9], none⟩,
             ⟨(some 47), .bin .lss, [.tmp 46, .const (.int .i64 0)], none⟩,
             ⟨(some 48), .mv, [.tmp 47], none⟩,
             ⟨(some 49), .mv, [.tmp 9], (some (48, false))⟩,
             ⟨(some 50), .faddr 1, [.tmp 8], (some (48, false))⟩,
             ⟨(some 51), .load false 1, [.tmp 50], (some (48, false))⟩,
             ⟨(some 52), .len false, [.tmp 51], (some (48, false))⟩,
             ⟨(some 53), .bin .geq, [.tmp 49, .tmp 52], (some (48, false))⟩,
             ⟨(some 54), .pick, [.tmp 48, .const (.bool true), .tmp 53], none⟩])
         (.cond (.tmp 54)
          (.seq (.reg [⟨(some 56), .load true 3, [.tmp 8], none⟩,
               ⟨(some 57), .mv, [.tmp 9], none⟩,
               ⟨(some 58), .call, [.func 14, .tmp 56, .tmp 57], none⟩,
               ⟨(some 55), .mv, [.tmp 58], none⟩,
               ⟨(some 59), .ext 0, [.tmp 55], none⟩,
               ⟨(some 60), .ext 1, [.tmp 55], none⟩,
               ⟨(some 14), .mv, [.tmp 59], none⟩,
               ⟨(some 15), .mv, [.tmp 60], none⟩])
           (.seq (.reg [⟨(some 62), .load true 3, [.tmp 8], none⟩,
                ⟨(some 63), .mv, [.tmp 9], none⟩,
                ⟨(some 64), .call, [.func 11, .tmp 62, .tmp 63, .const (.slice none 0 0)], none⟩,
                ⟨(some 61), .mv, [.tmp 64], none⟩,
                ⟨(some 65), .ext 0, [.tmp 61], none⟩,
                ⟨(some 66), .ext 1, [.tmp 61], none⟩,
                ⟨(some 16), .new [.lit (.int .i64 0), .sl true 0 (some 0) [], .sl true 0 (some 0) []], [], none⟩,
                ⟨none, .store 3, [.tmp 16, .tmp 65], none⟩,
                ⟨(some 17), .mv, [.tmp 66], none⟩])
            (.seq (.reg [⟨(some 67), .mv, [.tmp 13], none⟩,
                 ⟨(some 68), .bin .eql, [.tmp 67, .const (.int .i64 230)], none⟩,
                 ⟨(some 69), .mv, [.tmp 68], none⟩,
                 ⟨(some 70), .mv, [.tmp 15], (some (69, true))⟩,
                 ⟨(some 71), .bin .eql, [.tmp 70, .const (.int .i64 230)], (some (69, true))⟩,
                 ⟨(some 72), .pick, [.tmp 69, .tmp 71, .const (.bool false)], none⟩,
                 ⟨(some 73), .mv, [.tmp 72], none⟩,
                 ⟨(some 74), .mv, [.tmp 17], (some (73, true))⟩,
                 ⟨(some 75), .bin .eql, [.tmp 74, .const (.int .i64 230)], (some (73, true))⟩,
                 ⟨(some 76), .pick, [.tmp 73, .tmp 75, .const (.bool false)], none⟩,
                 ⟨(some 77), .mv, [.tmp 76], none⟩,
                 ⟨(some 78), .load true 3, [.tmp 16], (some (77, true))⟩,
                 ⟨(some 79), .load true 3, [.tmp 8], (some (77, true))⟩,
                 ⟨(some 80), .call, [.func 16, .tmp 78, .tmp 79], (some (77, true))⟩,
                 ⟨(some 81), .pick, [.tmp 77, .tmp 80, .const (.bool false)], none⟩,
                 ⟨(some 82), .mv, [.tmp 81], none⟩,
                 ⟨(some 83), .load true 3, [.tmp 12], (some (82, true))⟩,
                 ⟨(some 84), .load true 3, [.tmp 8], (some (82, true))⟩,
                 ⟨(some 85), .call, [.func 16, .tmp 83, .tmp 84], (some (82, true))⟩,
                 ⟨(some 86), .pick, [.tmp 82, .tmp 85, .const (.bool false)], none⟩,
                 ⟨(some 87), .mv, [.tmp 86], none⟩,
                 ⟨(some 88), .mv, [.tmp 7], (some (87, true))⟩,
                 ⟨(some 89), .pick, [.tmp 87, .tmp 88, .const (.bool false)], none⟩,
                 ⟨(some 6), .mv, [.tmp 89], none⟩])
             .ret)))
          .skip))
        (.seq (.dreg [⟨⟨(some 91), .load true 3, [.tmp 8], none⟩, [5, 10], none⟩,
             ⟨⟨(some 92), .mv, [.tmp 9], none⟩, [5, 10], none⟩,
             ⟨⟨(some 93), .faddr 0, [.tmp 8], none⟩, [5, 10], none⟩,
             ⟨⟨(some 94), .load false 1, [.tmp 93], none⟩, [5, 10], none⟩,
             ⟨⟨(some 95), .bin .add, [.tmp 94, .const (.int .i64 1)], none⟩, [5, 10], none⟩,
             ⟨⟨(some 96), .mkslice 1 1 [.lit (.int .u8 0)], [.tmp 95, .tmp 95], none⟩, [10], none⟩,
             ⟨⟨(some 97), .bcall, [.func 11, .tmp 91, .tmp 92, .tmp 96], none⟩, [10], none⟩,
             ⟨⟨(some 90), .mv, [.tmp 97], none⟩, [10], none⟩,
             ⟨⟨(some 98), .ext 0, [.tmp 90], none⟩, [10], none⟩,
             ⟨⟨(some 99), .ext 1, [.tmp 90], none⟩, [10], none⟩,
             ⟨⟨(some 18), .new [.lit (.int .i64 0), .sl true 0 (some 0) [], .sl true 0 (some 0) []], [], none⟩, [5], none⟩,
             ⟨⟨none, .store 3, [.tmp 18, .tmp 98], none⟩, [], none⟩,
             ⟨⟨(some 19), .mv, [.tmp 99], none⟩, [], none⟩])
         (.seq (.seq (.reg [⟨(some 100), .mv, [.tmp 19], none⟩,
               ⟨(some 101), .bin .neq, [.tmp 100, .const (.int .i64 230)], none⟩,
               ⟨(some 102), .mv, [.tmp 101], none⟩,
               ⟨(some 103), .load true 3, [.tmp 18], (some (102, false))⟩,
               ⟨(some 104), .load true 3, [.tmp 8], (some (102, false))⟩,
               ⟨(some 105), .call, [.func 16, .tmp 103, .tmp 104], (some (102, false))⟩,
               ⟨(some 106), .un .not, [.tmp 105], (some (102, false))⟩,
               ⟨(some 107), .pick, [.tmp 102, .const (.bool true), .tmp 106], none⟩])
           (.cond (.tmp 107)
            (.seq (.reg [⟨(some 6), .mv, [.const (.bool false)], none⟩])
             .ret)
            .skip))
          (.seq (.seq (.reg [⟨(some 108), .mv, [.tmp 10], none⟩,
                ⟨(some 109), .bin .lss, [.tmp 108, .const (.int .i64 0)], none⟩,
                ⟨(some 110), .mv, [.tmp 109], none⟩,
                ⟨(some 111), .mv, [.tmp 10], (some (110, false))⟩,
                ⟨(some 112), .faddr 1, [.tmp 8], (some (110, false))⟩,
                ⟨(some 113), .load false 1, [.tmp 112], (some (110, false))⟩,
                ⟨(some 114), .mv, [.tmp 9], (some (110, false))⟩,
                ⟨(some 115), .iaddr none 1, [.tmp 113, .tmp 114], (some (110, false))⟩,
                ⟨(some 116), .load false 1, [.tmp 115], (some (110, false))⟩,
                ⟨(some 117), .len false, [.tmp 116], (some (110, false))⟩,
                ⟨(some 118), .bin .geq, [.tmp 111, .tmp 117], (some (110, false))⟩,
                ⟨(some 119), .pick, [.tmp 110, .const (.bool true), .tmp 118], none⟩])
            (.cond (.tmp 119)
             (.seq (.reg [⟨(some 120), .mv, [.tmp 13], none⟩,
                  ⟨(some 121), .bin .eql, [.tmp 120, .const (.int .i64 1)], none⟩,
                  ⟨(some 122), .mv, [.tmp 121], none⟩,
                  ⟨(some 123), .load true 3, [.tmp 12], (some (122, true))⟩,
                  ⟨(some 124), .load true 3, [.tmp 8], (some (122, true))⟩,
                  ⟨(some 125), .call, [.func 16, .tmp 123, .tmp 124], (some (122, true))⟩,
                  ⟨(some 126), .pick, [.tmp 122, .tmp 125, .const (.bool false)], none⟩,
                  ⟨(some 127), .mv, [.tmp 126], none⟩,
                  ⟨(some 128), .mv, [.tmp 7], (some (127, true))⟩,
                  ⟨(some 129), .pick, [.tmp 127, .tmp 128, .const (.bool false)], none⟩,
                  ⟨(some 6), .mv, [.tmp 129], none⟩])
              .ret)
             .skip))
           (.seq (.reg [⟨(some 131), .load true 3, [.tmp 12], none⟩,
                ⟨(some 132), .mv, [.tmp 9], none⟩,
                ⟨(some 133), .mv, [.tmp 10], none⟩,
                ⟨(some 134), .mv, [.tmp 11], none⟩,
                ⟨(some 135), .call, [.func 22, .tmp 131, .tmp 132, .tmp 133, .tmp 134], none⟩,
                ⟨(some 130), .mv, [.tmp 135], none⟩,
                ⟨(some 136), .ext 0, [.tmp 130], none⟩,
                ⟨(some 137), .ext 1, [.tmp 130], none⟩,
                ⟨(some 20), .new [.lit (.int .i64 0), .sl true 0 (some 0) [], .sl true 0 (some 0) []], [], none⟩,
                ⟨none, .store 3, [.tmp 20, .tmp 136], none⟩,
                ⟨(some 21), .mv, [.tmp 137], none⟩])
            (.seq (.seq (.reg [⟨(some 138), .mv, [.tmp 13], none⟩,
                  ⟨(some 139), .bin .neq, [.tmp 138, .const (.int .i64 0)], none⟩,
                  ⟨(some 140), .mv, [.tmp 139], none⟩,
                  ⟨(some 141), .mv, [.tmp 21], (some (140, false))⟩,
                  ⟨(some 142), .bin .neq, [.tmp 141, .const (.int .i64 0)], (some (140, false))⟩,
                  ⟨(some 143), .pick, [.tmp 140, .const (.bool true), .tmp 142], none⟩,
                  ⟨(some 144), .mv, [.tmp 143], none⟩,
                  ⟨(some 145), .load true 3, [.tmp 20], (some (144, false))⟩,
                  ⟨(some 146), .load true 3, [.tmp 8], (some (144, false))⟩,
                  ⟨(some 147), .call, [.func 16, .tmp 145, .tmp 146], (some (144, false))⟩,
                  ⟨(some 148), .un .not, [.tmp 147], (some (144, false))⟩,
                  ⟨(some 149), .pick, [.tmp 144, .const (.bool true), .tmp 148], none⟩,
                  ⟨(some 150), .mv, [.tmp 149], none⟩,
                  ⟨(some 151), .faddr 1, [.tmp 12], (some (150, false))⟩,
                  ⟨(some 152), .load false 1, [.tmp 151], (some (150, false))⟩,
                  ⟨(some 153), .len false, [.tmp 152], (some (150, false))⟩,
                  ⟨(some 154), .faddr 1, [.tmp 8], (some (150, false))⟩,
                  ⟨(some 155), .load false 1, [.tmp 154], (some (150, false))⟩,
                  ⟨(some 156), .len false, [.tmp 155], (some (150, false))⟩,
                  ⟨(some 157), .bin .neq, [.tmp 153, .tmp 156], (some (150, false))⟩,
                  ⟨(some 158), .pick, [.tmp 150, .const (.bool true), .tmp 157], none⟩,
                  ⟨(some 159), .mv, [.tmp 158], none⟩,
                  ⟨(some 160), .faddr 2, [.tmp 12], (some (159, false))⟩,
                  ⟨(some 161), .load false 1, [.tmp 160], (some (159, false))⟩,
                  ⟨(some 162), .len false, [.tmp 161], (some (159, false))⟩,
                  ⟨(some 163), .faddr 2, [.tmp 8], (some (159, false))⟩,
                  ⟨(some 164), .load false 1, [.tmp 163], (some (159, false))⟩,
                  ⟨(some 165), .len false, [.tmp 164], (some (159, false))⟩,
                  ⟨(some 166), .bin .neq, [.tmp 162, .tmp 165], (some (159, false))⟩,
                  ⟨(some 167), .pick, [.tmp 159, .const (.bool true), .tmp 166], none⟩])
              (.cond (.tmp 167)
               (.seq (.reg [⟨(some 6), .mv, [.const (.bool false)], none⟩])
                .ret)
               .skip))
             (.seq (.seq (.reg [⟨(some 22), .mv, [.const (.int .i64 0)], none⟩])
               (.block 0 (.loop (.seq (.seq (.reg [⟨(some 168), .mv, [.tmp 22], none⟩,
                       ⟨(some 169), .faddr 1, [.tmp 8], none⟩,
                       ⟨(some 170), .load false 1, [.tmp 169], none⟩,
                       ⟨(some 171), .len false, [.tmp 170], none⟩,
                       ⟨(some 172), .bin .lss, [.tmp 168, .tmp 171], none⟩])
                   (.cond (.tmp 172)
                    .skip
                    (.exit 0)))
                  (.seq (.block 1 (.seq (.seq (.dreg [⟨⟨(some 175), .faddr 1, [.tmp 12], none⟩, [], none⟩,
                          ⟨⟨(some 176), .load false 1, [.tmp 175], none⟩, [], none⟩,
                          ⟨⟨(some 177), .mv, [.tmp 22], none⟩, [], none⟩,
                          ⟨⟨(some 178), .iaddr none 1, [.tmp 176, .tmp 177], none⟩, [], none⟩,
                          ⟨⟨(some 179), .load false 1, [.tmp 178], none⟩, [], none⟩,
                          ⟨⟨(some 180), .len false, [.tmp 179], none⟩, [], none⟩,
                          ⟨⟨(some 181), .faddr 1, [.tmp 8], none⟩, [], none⟩,
                          ⟨⟨(some 182), .load false 1, [.tmp 181], none⟩, [], none⟩,
                          ⟨⟨(some 183), .mv, [.tmp 22], none⟩, [], none⟩,
                          ⟨⟨(some 184), .iaddr none 1, [.tmp 182, .tmp 183], none⟩, [], none⟩,
                          ⟨⟨(some 185), .load false 1, [.tmp 184], none⟩, [], none⟩,
                          ⟨⟨(some 186), .len false, [.tmp 185], none⟩, [], none⟩,
                          ⟨⟨(some 187), .bin .neq, [.tmp 180, .tmp 186], none⟩, [], none⟩])
                      (.cond (.tmp 187)
                       (.seq (.reg [⟨(some 6), .mv, [.const (.bool false)], none⟩])
                        .ret)
                       .skip))
                     (.seq (.reg [⟨(some 23), .mv, [.const (.int .i64 0)], none⟩])
                      (.block 2 (.loop (.seq (.seq (.reg [⟨(some 188), .mv, [.tmp 23], none⟩,
                              ⟨(some 189), .faddr 1, [.tmp 8], none⟩,
                              ⟨(some 190), .load false 1, [.tmp 189], none⟩,
                              ⟨(some 191), .mv, [.tmp 22], none⟩,
                              ⟨(some 192), .iaddr none 1, [.tmp 190, .tmp 191], none⟩,
                              ⟨(some 193), .load false 1, [.tmp 192], none⟩,
                              ⟨(some 194), .len false, [.tmp 193], none⟩,
                              ⟨(some 195), .bin .lss, [.tmp 188, .tmp 194], none⟩])
                          (.cond (.tmp 195)
                           .skip
                           (.exit 2)))
                         (.seq (.block 3 (.seq (.reg [⟨(some 198), .faddr 1, [.tmp 8], none⟩,
                                ⟨(some 199), .load false 1, [.tmp 198], none⟩,
                                ⟨(some 200), .mv, [.tmp 22], none⟩,
                                ⟨(some 201), .iaddr none 1, [.tmp 199, .tmp 200], none⟩,
                                ⟨(some 202), .load false 1, [.tmp 201], none⟩,
                                ⟨(some 203), .mv, [.tmp 23], none⟩,
                                ⟨(some 204), .iaddr none 1, [.tmp 202, .tmp 203], none⟩,
                                ⟨(some 205), .load false 1, [.tmp 204], none⟩,
                                ⟨(some 24), .mv, [.tmp 205], none⟩])
                            (.seq (.seq (.reg [⟨(some 206), .mv, [.tmp 22], none⟩,
                                  ⟨(some 207), .mv, [.tmp 9], none⟩,
                                  ⟨(some 208), .bin .eql, [.tmp 206, .tmp 207], none⟩,
                                  ⟨(some 209), .mv, [.tmp 208], none⟩,
                                  ⟨(some 210), .mv, [.tmp 23], (some (209, true))⟩,
                                  ⟨(some 211), .mv, [.tmp 10], (some (209, true))⟩,
                                  ⟨(some 212), .bin .eql, [.tmp 210, .tmp 211], (some (209, true))⟩,
                                  ⟨(some 213), .pick, [.tmp 209, .tmp 212, .const (.bool false)], none⟩])
                              (.cond (.tmp 213)
                               (.reg [⟨(some 214), .mv, [.tmp 24], none⟩,
                                   ⟨(some 215), .mv, [.tmp 11], none⟩,
                                   ⟨(some 216), .bin .xor, [.tmp 214, .tmp 215], none⟩,
                                   ⟨(some 24), .mv, [.tmp 216], none⟩])
                               .skip))
                             (.seq (.reg [⟨(some 217), .faddr 1, [.tmp 12], none⟩,
                                  ⟨(some 218), .load false 1, [.tmp 217], none⟩,
                                  ⟨(some 219), .mv, [.tmp 22], none⟩,
                                  ⟨(some 220), .iaddr none 1, [.tmp 218, .tmp 219], none⟩,
                                  ⟨(some 221), .load false 1, [.tmp 220], none⟩,
                                  ⟨(some 222), .mv, [.tmp 23], none⟩,
                                  ⟨(some 223), .iaddr none 1, [.tmp 221, .tmp 222], none⟩,
                                  ⟨(some 224), .load false 1, [.tmp 223], none⟩,
                                  ⟨(some 225), .mv, [.tmp 24], none⟩,
                                  ⟨(some 226), .bin .neq, [.tmp 224, .tmp 225], none⟩])
                              (.cond (.tmp 226)
                               (.seq (.reg [⟨(some 6), .mv, [.const (.bool false)], none⟩])
                                .ret)
                               .skip)))))
                          (.reg [⟨(some 196), .mv, [.tmp 23], none⟩,
                              ⟨(some 197), .bin .add, [.tmp 196, .const (.int .i64 1)], none⟩,
                              ⟨(some 23), .mv, [.tmp 197], none⟩]))))))))
                   (.reg [⟨(some 173), .mv, [.tmp 22], none⟩,
                       ⟨(some 174), .bin .add, [.tmp 173, .const (.int .i64 1)], none⟩,
                       ⟨(some 22), .mv, [.tmp 174], none⟩]))))))
              (.seq (.reg [⟨(some 227), .mv, [.tmp 7], none⟩,
                   ⟨(some 6), .mv, [.tmp 227], none⟩])
               .ret))))))))))))

theorem tab8 : tab 8 = some A8 := by unfold tab; kernel_rfl

/-- downspout/downspoutref23.Play -/
def A10 : AFn where
  isPure := true
  ntmps := 42
  res := [(6, some (true, 3))]
  body := (.seq (.reg [⟨(some 3), .box, [.tmp 0], none⟩,
        ⟨(some 6), .new [.lit (.int .i64 0), .sl true 0 (some 0) [], .sl true 0 (some 0) []], [], none⟩])
    (.seq (.reg [⟨(some 11), .iaddr (some 2) 1, [.tmp 3, .const (.int .i64 0)], none⟩,
         ⟨(some 12), .load false 1, [.tmp 11], none⟩,
         ⟨(some 13), .conv .i64, [.tmp 12], none⟩,
         ⟨(some 14), .bin .rem, [.tmp 13, .const (.int .i64 12)], none⟩,
         ⟨(some 15), .bin .add, [.const (.int .i64 1), .tmp 14], none⟩,
         ⟨(some 16), .iaddr (some 2) 1, [.tmp 3, .const (.int .i64 1)], none⟩,
         ⟨(some 17), .load false 1, [.tmp 16], none⟩,
         ⟨(some 18), .conv .i64, [.tmp 17], none⟩,
         ⟨(some 19), .bin .rem, [.tmp 18, .const (.int .i64 6)], none⟩,
         ⟨(some 20), .bin .add, [.const (.int .i64 1), .tmp 19], none⟩,
         ⟨(some 21), .call, [.func 25, .tmp 15, .tmp 20], none⟩,
         ⟨(some 10), .mv, [.tmp 21], none⟩,
         ⟨(some 22), .ext 0, [.tmp 10], none⟩,
         ⟨(some 23), .ext 1, [.tmp 10], none⟩,
         ⟨(some 7), .new [.lit (.int .i64 0), .sl true 0 (some 0) [], .sl true 0 (some 0) []], [], none⟩,
         ⟨none, .store 3, [.tmp 7, .tmp 22], none⟩,
         ⟨(some 8), .mv, [.tmp 23], none⟩])
     (.seq (.seq (.reg [⟨(some 9), .mv, [.const (.int .i64 0)], none⟩])
       (.block 0 (.loop (.seq (.seq (.reg [⟨(some 24), .mv, [.tmp 9], none⟩,
               ⟨(some 25), .mv, [.tmp 1], none⟩,
               ⟨(some 26), .len false, [.tmp 25], none⟩,
               ⟨(some 27), .bin .lss, [.tmp 24, .tmp 26], none⟩,
               ⟨(some 28), .mv, [.tmp 27], none⟩,
               ⟨(some 29), .mv, [.tmp 9], (some (28, true))⟩,
               ⟨(some 30), .mv, [.tmp 2], (some (28, true))⟩,
               ⟨(some 31), .bin .lss, [.tmp 29, .tmp 30], (some (28, true))⟩,
               ⟨(some 32), .pick, [.tmp 28, .tmp 31, .const (.bool false)], none⟩])
           (.cond (.tmp 32)
            .skip
            (.exit 0)))
          (.seq (.block 1 (.dreg [⟨⟨(some 35), .load true 3, [.tmp 7], none⟩, [], none⟩,
                ⟨⟨(some 36), .mv, [.tmp 1], none⟩, [], none⟩,
                ⟨⟨(some 37), .mv, [.tmp 9], none⟩, [], none⟩,
                ⟨⟨(some 38), .iaddr none 3, [.tmp 36, .tmp 37], none⟩, [], none⟩,
                ⟨⟨(some 39), .load true 3, [.tmp 38], none⟩, [], none⟩,
                ⟨⟨(some 40), .call, [.func 20, .tmp 35, .tmp 39], none⟩, [], none⟩,
                ⟨⟨none, .store 3, [.tmp 7, .tmp 40], none⟩, [], none⟩]))
           (.reg [⟨(some 33), .mv, [.tmp 9], none⟩,
               ⟨(some 34), .bin .add, [.tmp 33, .const (.int .i64 1)], none⟩,
               ⟨(some 9), .mv, [.tmp 34], none⟩]))))))
      (.seq (.reg [⟨(some 41), .load true 3, [.tmp 7], none⟩,
           ⟨none, .store 3, [.tmp 6, .tmp 41], none⟩])
       .ret))))

theorem tab10 : tab 10 = some A10 := by unfold tab; kernel_rfl

/-- downspout/disk.Put -/
def A11 : AFn where
  isPure := true
  ntmps := 26
  res := [(6, some (true, 3)), (7, none)]
  body := (.seq (.reg [⟨(some 3), .box, [.tmp 0], none⟩,
        ⟨(some 6), .new [.lit (.int .i64 0), .sl true 0 (some 0) [], .sl true 0 (some 0) []], [], none⟩,
        ⟨(some 7), .mv, [.const (.int .i64 0)], none⟩])
    (.seq (.seq (.reg [⟨(some 8), .load true 3, [.tmp 3], none⟩,
          ⟨(some 9), .mv, [.tmp 1], none⟩,
          ⟨(some 10), .call, [.func 26, .tmp 8, .tmp 9], none⟩,
          ⟨(some 11), .un .not, [.tmp 10], none⟩,
          ⟨(some 12), .mv, [.tmp 11], none⟩,
          ⟨(some 13), .mv, [.tmp 2], (some (12, false))⟩,
          ⟨(some 14), .len false, [.tmp 13], (some (12, false))⟩,
          ⟨(some 15), .faddr 0, [.tmp 3], (some (12, false))⟩,
          ⟨(some 16), .load false 1, [.tmp 15], (some (12, false))⟩,
          ⟨(some 17), .bin .gtr, [.tmp 14, .tmp 16], (some (12, false))⟩,
          ⟨(some 18), .pick, [.tmp 12, .const (.bool true), .tmp 17], none⟩])
      (.cond (.tmp 18)
       (.seq (.reg [⟨(some 19), .load true 3, [.tmp 3], none⟩,
            ⟨none, .store 3, [.tmp 6, .tmp 19], none⟩,
            ⟨(some 7), .mv, [.const (.int .i64 230)], none⟩])
        .ret)
       .skip))
     (.seq (.dreg [⟨⟨(some 20), .load true 3, [.tmp 3], none⟩, [], none⟩,
          ⟨⟨(some 21), .mv, [.tmp 1], none⟩, [], none⟩,
          ⟨⟨(some 22), .mv, [.tmp 2], none⟩, [], none⟩,
          ⟨⟨(some 23), .call, [.func 28, .tmp 22], none⟩, [], none⟩,
          ⟨⟨(some 24), .build [.lit (.bool false), .lit (.int .i64 0), .sl true 0 (some 0) []] [(1, 1), (2, 1)], [.tmp 21, .tmp 23], none⟩, [], none⟩,
          ⟨⟨(some 25), .call, [.func 27, .tmp 20, .tmp 24], none⟩, [], none⟩,
          ⟨⟨none, .store 3, [.tmp 6, .tmp 25], none⟩, [], none⟩,
          ⟨⟨(some 7), .mv, [.const (.int .i64 0)], none⟩, [], none⟩])
      .ret)))

theorem tab11 : tab 11 = some A11 := by unfold tab; kernel_rfl

/-- downspout/disk.Sync -/
def A12 : AFn where
  isPure := true
  ntmps := 5
  res := [(2, some (true, 3))]
  body := (.seq (.reg [⟨(some 1), .box, [.tmp 0], none⟩,
        ⟨(some 2), .new [.lit (.int .i64 0), .sl true 0 (some 0) [], .sl true 0 (some 0) []], [], none⟩])
    (.seq (.reg [⟨(some 3), .load true 3, [.tmp 1], none⟩,
         ⟨(some 4), .call, [.func 29, .tmp 3, .func 30], none⟩,
         ⟨none, .store 3, [.tmp 2, .tmp 4], none⟩])
     .ret))

theorem tab12 : tab 12 = some A12 := by unfold tab; kernel_rfl

/-- downspout/disk.Fence -/
def A13 : AFn where
  isPure := true
  ntmps := 6
  res := [(2, some (true, 3))]
  body := (.seq (.reg [⟨(some 1), .box, [.tmp 0], none⟩,
        ⟨(some 2), .new [.lit (.int .i64 0), .sl true 0 (some 0) [], .sl true 0 (some 0) []], [], none⟩])
    (.seq (.reg [⟨(some 3), .load true 3, [.tmp 1], none⟩,
         ⟨(some 4), .build [.lit (.bool false), .lit (.int .i64 0), .sl true 0 (some 0) []] [(0, 1)], [.const (.bool true)], none⟩,
         ⟨(some 5), .call, [.func 27, .tmp 3, .tmp 4], none⟩,
         ⟨none, .store 3, [.tmp 2, .tmp 5], none⟩])
     .ret))

theorem tab13 : tab 13 = some A13 := by unfold tab; kernel_rfl

/-- downspout/disk.Crash -/
def A15 : AFn where
  isPure := true
  ntmps := 8
  res := [(4, some (true, 3))]
  body := (.seq (.reg [⟨(some 2), .box, [.tmp 0], none⟩,
        ⟨(some 3), .box, [.tmp 1], none⟩,
        ⟨(some 4), .new [.lit (.int .i64 0), .sl true 0 (some 0) [], .sl true 0 (some 0) []], [], none⟩])
    (.seq (.reg [⟨(some 5), .load true 3, [.tmp 2], none⟩,
         ⟨(some 6), .mkfn 32, [.tmp 3], none⟩,
         ⟨(some 7), .call, [.func 29, .tmp 5, .tmp 6], none⟩,
         ⟨none, .store 3, [.tmp 4, .tmp 7], none⟩])
     .ret))

theorem tab15 : tab 15 = some A15 := by unfold tab; kernel_rfl

/-- downspout/downspoutref23.Same -/
def A16 : AFn where
  isPure := true
  ntmps := 68
  res := [(4, none)]
  body := (.seq (.reg [⟨(some 2), .box, [.tmp 0], none⟩,
        ⟨(some 3), .box, [.tmp 1], none⟩,
        ⟨(some 4), .mv, [.const (.bool false)], none⟩])
    (.seq (.seq (.reg [⟨(some 8), .faddr 0, [.tmp 2], none⟩,
          ⟨(some 9), .load false 1, [.tmp 8], none⟩,
          ⟨(some 10), .faddr 0, [.tmp 3], none⟩,
          ⟨(some 11), .load false 1, [.tmp 10], none⟩,
          ⟨(some 12), .bin .neq, [.tmp 9, .tmp 11], none⟩,
          ⟨(some 13), .mv, [.tmp 12], none⟩,
          ⟨(some 14), .faddr 1, [.tmp 2], (some (13, false))⟩,
          ⟨(some 15), .load false 1, [.tmp 14], (some (13, false))⟩,
          ⟨(some 16), .faddr 1, [.tmp 3], (some (13, false))⟩,
          ⟨(some 17), .load false 1, [.tmp 16], (some (13, false))⟩,
          ⟨(some 18), .call, [.func 17, .tmp 15, .tmp 17], (some (13, false))⟩,
          ⟨(some 19), .un .not, [.tmp 18], (some (13, false))⟩,
          ⟨(some 20), .pick, [.tmp 13, .const (.bool true), .tmp 19], none⟩,
          ⟨(some 21), .mv, [.tmp 20], none⟩,
          ⟨(some 22), .faddr 2, [.tmp 2], (some (21, false))⟩,
          ⟨(some 23), .load false 1, [.tmp 22], (some (21, false))⟩,
          ⟨(some 24), .len false, [.tmp 23], (some (21, false))⟩,
          ⟨(some 25), .faddr 2, [.tmp 3], (some (21, false))⟩,
          ⟨(some 26), .load false 1, [.tmp 25], (some (21, false))⟩,
          ⟨(some 27), .len false, [.tmp 26], (some (21, false))⟩,
          ⟨(some 28), .bin .neq, [.tmp 24, .tmp 27], (some (21, false))⟩,
          ⟨(some 29), .pick, [.tmp 21, .const (.bool true), .tmp 28], none⟩])
      (.cond (.tmp 29)
       (.seq (.reg [⟨(some 4), .mv, [.const (.bool false)], none⟩])
        .ret)
       .skip))
     (.seq (.seq (.reg [⟨(some 5), .mv, [.const (.int .i64 0)], none⟩])
       (.block 0 (.loop (.seq (.seq (.reg [⟨(some 30), .mv, [.tmp 5], none⟩,
               ⟨(some 31), .faddr 2, [.tmp 2], none⟩,
               ⟨(some 32), .load false 1, [.tmp 31], none⟩,
               ⟨(some 33), .len false, [.tmp 32], none⟩,
               ⟨(some 34), .bin .lss, [.tmp 30, .tmp 33], none⟩])
           (.cond (.tmp 34)
            .skip
            (.exit 0)))
          (.seq (.block 1 (.seq (.dreg [⟨⟨(some 37), .faddr 2, [.tmp 2], none⟩, [10, 11], none⟩,
                 ⟨⟨(some 38), .load false 1, [.tmp 37], none⟩, [10, 11], none⟩,
                 ⟨⟨(some 39), .mv, [.tmp 5], none⟩, [10, 11], none⟩,
                 ⟨⟨(some 40), .iaddr none 3, [.tmp 38, .tmp 39], none⟩, [10, 11], none⟩,
                 ⟨⟨(some 41), .load true 3, [.tmp 40], none⟩, [10, 11], none⟩,
                 ⟨⟨(some 42), .faddr 2, [.tmp 3], none⟩, [10, 11], none⟩,
                 ⟨⟨(some 43), .load false 1, [.tmp 42], none⟩, [10, 11], none⟩,
                 ⟨⟨(some 44), .mv, [.tmp 5], none⟩, [10, 11], none⟩,
                 ⟨⟨(some 45), .iaddr none 3, [.tmp 43, .tmp 44], none⟩, [10, 11], none⟩,
                 ⟨⟨(some 46), .load true 3, [.tmp 45], none⟩, [10, 11], none⟩,
                 ⟨⟨(some 6), .new [.lit (.bool false), .lit (.int .i64 0), .sl true 0 (some 0) []], [], none⟩, [11], none⟩,
                 ⟨⟨(some 7), .new [.lit (.bool false), .lit (.int .i64 0), .sl true 0 (some 0) []], [], none⟩, [10], none⟩,
                 ⟨⟨none, .store 3, [.tmp 6, .tmp 41], none⟩, [], (some [10, 11])⟩,
                 ⟨⟨none, .store 3, [.tmp 7, .tmp 46], none⟩, [], none⟩])
             (.seq (.reg [⟨(some 47), .faddr 0, [.tmp 6], none⟩,
                  ⟨(some 48), .load false 1, [.tmp 47], none⟩,
                  ⟨(some 49), .faddr 0, [.tmp 7], none⟩,
                  ⟨(some 50), .load false 1, [.tmp 49], none⟩,
                  ⟨(some 51), .beq true, [.tmp 48, .tmp 50], none⟩,
                  ⟨(some 52), .mv, [.tmp 51], none⟩,
                  ⟨(some 53), .faddr 1, [.tmp 6], (some (52, false))⟩,
                  ⟨(some 54), .load false 1, [.tmp 53], (some (52, false))⟩,
                  ⟨(some 55), .faddr 1, [.tmp 7], (some (52, false))⟩,
                  ⟨(some 56), .load false 1, [.tmp 55], (some (52, false))⟩,
                  ⟨(some 57), .bin .neq, [.tmp 54, .tmp 56], (some (52, false))⟩,
                  ⟨(some 58), .pick, [.tmp 52, .const (.bool true), .tmp 57], none⟩,
                  ⟨(some 59), .mv, [.tmp 58], none⟩,
                  ⟨(some 60), .faddr 2, [.tmp 6], (some (59, false))⟩,
                  ⟨(some 61), .load false 1, [.tmp 60], (some (59, false))⟩,
                  ⟨(some 62), .b2s, [.tmp 61], (some (59, false))⟩,
                  ⟨(some 63), .faddr 2, [.tmp 7], (some (59, false))⟩,
                  ⟨(some 64), .load false 1, [.tmp 63], (some (59, false))⟩,
                  ⟨(some 65), .b2s, [.tmp 64], (some (59, false))⟩,
                  ⟨(some 66), .bin .neq, [.tmp 62, .tmp 65], (some (59, false))⟩,
                  ⟨(some 67), .pick, [.tmp 59, .const (.bool true), .tmp 66], none⟩])
              (.cond (.tmp 67)
               (.seq (.reg [⟨(some 4), .mv, [.const (.bool false)], none⟩])
                .ret)
               .skip))))
           (.reg [⟨(some 35), .mv, [.tmp 5], none⟩,
               ⟨(some 36), .bin .add, [.tmp 35, .const (.int .i64 1)], none⟩,
               ⟨(some 5), .mv, [.tmp 36], none⟩]))))))
      (.seq (.reg [⟨(some 4), .mv, [.const (.bool true)], none⟩])
       .ret))))

theorem tab16 : tab 16 = some A16 := by unfold tab; kernel_rfl

/-- downspout/downspoutref23.SameCells -/
def A17 : AFn where
  isPure := true
  ntmps := 28
  res := [(4, none)]
  body := (.seq (.reg [⟨(some 4), .mv, [.const (.bool false)], none⟩])
    (.seq (.seq (.reg [⟨(some 6), .mv, [.tmp 0], none⟩,
          ⟨(some 7), .len false, [.tmp 6], none⟩,
          ⟨(some 8), .mv, [.tmp 1], none⟩,
          ⟨(some 9), .len false, [.tmp 8], none⟩,
          ⟨(some 10), .bin .neq, [.tmp 7, .tmp 9], none⟩])
      (.cond (.tmp 10)
       (.seq (.reg [⟨(some 4), .mv, [.const (.bool false)], none⟩])
        .ret)
       .skip))
     (.seq (.seq (.reg [⟨(some 5), .mv, [.const (.int .i64 0)], none⟩])
       (.block 0 (.loop (.seq (.seq (.reg [⟨(some 11), .mv, [.tmp 5], none⟩,
               ⟨(some 12), .mv, [.tmp 0], none⟩,
               ⟨(some 13), .len false, [.tmp 12], none⟩,
               ⟨(some 14), .bin .lss, [.tmp 11, .tmp 13], none⟩])
           (.cond (.tmp 14)
            .skip
            (.exit 0)))
          (.seq (.block 1 (.seq (.dreg [⟨⟨(some 17), .mv, [.tmp 0], none⟩, [], none⟩,
                 ⟨⟨(some 18), .mv, [.tmp 5], none⟩, [], none⟩,
                 ⟨⟨(some 19), .iaddr none 1, [.tmp 17, .tmp 18], none⟩, [], none⟩,
                 ⟨⟨(some 20), .load false 1, [.tmp 19], none⟩, [], none⟩,
                 ⟨⟨(some 21), .b2s, [.tmp 20], none⟩, [], none⟩,
                 ⟨⟨(some 22), .mv, [.tmp 1], none⟩, [], none⟩,
                 ⟨⟨(some 23), .mv, [.tmp 5], none⟩, [], none⟩,
                 ⟨⟨(some 24), .iaddr none 1, [.tmp 22, .tmp 23], none⟩, [], none⟩,
                 ⟨⟨(some 25), .load false 1, [.tmp 24], none⟩, [], none⟩,
                 ⟨⟨(some 26), .b2s, [.tmp 25], none⟩, [], none⟩,
                 ⟨⟨(some 27), .bin .neq, [.tmp 21, .tmp 26], none⟩, [], none⟩])
             (.cond (.tmp 27)
              (.seq (.reg [⟨(some 4), .mv, [.const (.bool false)], none⟩])
               .ret)
              .skip)))
           (.reg [⟨(some 15), .mv, [.tmp 5], none⟩,
               ⟨(some 16), .bin .add, [.tmp 15, .const (.int .i64 1)], none⟩,
               ⟨(some 5), .mv, [.tmp 16], none⟩]))))))
      (.seq (.reg [⟨(some 4), .mv, [.const (.bool true)], none⟩])
       .ret))))

theorem tab17 : tab 17 = some A17 := by unfold tab; kernel_rfl

/-- downspout/downspoutref23.Fates -/
def A18 : AFn where
  isPure := false
  ntmps := 39
  res := [(4, none)]
  body := (.seq (.reg [⟨(some 4), .mv, [.const (.slice none 0 0)], none⟩])
    (.seq (.reg [⟨(some 7), .bslice 0 2 [] [], [], none⟩,
         ⟨(some 5), .mv, [.tmp 7], none⟩])
     (.seq (.seq (.reg [⟨(some 6), .mv, [.const (.int .i64 0)], none⟩])
       (.block 0 (.loop (.seq (.seq (.reg [⟨(some 8), .mv, [.tmp 6], none⟩,
               ⟨(some 9), .mv, [.tmp 0], none⟩,
               ⟨(some 10), .len false, [.tmp 9], none⟩,
               ⟨(some 11), .bin .lss, [.tmp 8, .tmp 10], none⟩,
               ⟨(some 12), .mv, [.tmp 11], none⟩,
               ⟨(some 13), .mv, [.tmp 6], (some (12, true))⟩,
               ⟨(some 14), .mv, [.tmp 1], (some (12, true))⟩,
               ⟨(some 15), .bin .lss, [.tmp 13, .tmp 14], (some (12, true))⟩,
               ⟨(some 16), .pick, [.tmp 12, .tmp 15, .const (.bool false)], none⟩])
           (.cond (.tmp 16)
            .skip
            (.exit 0)))
          (.seq (.block 1 (.dreg [⟨⟨(some 19), .mv, [.tmp 5], none⟩, [17], none⟩,
                ⟨⟨(some 20), .mv, [.tmp 0], none⟩, [17], none⟩,
                ⟨⟨(some 21), .mv, [.tmp 6], none⟩, [17], none⟩,
                ⟨⟨(some 22), .iaddr none 2, [.tmp 20, .tmp 21], none⟩, [17], none⟩,
                ⟨⟨(some 23), .iaddr (some 2) 1, [.tmp 22, .const (.int .i64 0)], none⟩, [17], none⟩,
                ⟨⟨(some 24), .load false 1, [.tmp 23], none⟩, [17], none⟩,
                ⟨⟨(some 25), .bin .rem, [.tmp 24, .const (.int .u8 6)], none⟩, [17], none⟩,
                ⟨⟨(some 26), .conv .i64, [.tmp 25], none⟩, [17], none⟩,
                ⟨⟨(some 27), .mv, [.tmp 0], none⟩, [17], none⟩,
                ⟨⟨(some 28), .mv, [.tmp 6], none⟩, [17], none⟩,
                ⟨⟨(some 29), .iaddr none 2, [.tmp 27, .tmp 28], none⟩, [17], none⟩,
                ⟨⟨(some 30), .iaddr (some 2) 1, [.tmp 29, .const (.int .i64 1)], none⟩, [17], none⟩,
                ⟨⟨(some 31), .load false 1, [.tmp 30], none⟩, [17], none⟩,
                ⟨⟨(some 32), .bin .rem, [.tmp 31, .const (.int .u8 16)], none⟩, [17], none⟩,
                ⟨⟨(some 33), .conv .i64, [.tmp 32], none⟩, [17], none⟩,
                ⟨⟨(some 34), .bin .sub, [.tmp 33, .const (.int .i64 2)], none⟩, [17], none⟩,
                ⟨⟨(some 35), .build [.lit (.int .i64 0), .lit (.int .i64 0)] [(0, 1), (1, 1)], [.tmp 26, .tmp 34], none⟩, [17], none⟩,
                ⟨⟨(some 36), .bslice 1 2 [.lit (.int .i64 0), .lit (.int .i64 0)] [(0, 2)], [.tmp 35], none⟩, [], none⟩,
                ⟨⟨(some 37), .append 2 16, [.tmp 19, .tmp 36], none⟩, [], none⟩,
                ⟨⟨(some 5), .mv, [.tmp 37], none⟩, [], none⟩]))
           (.reg [⟨(some 17), .mv, [.tmp 6], none⟩,
               ⟨(some 18), .bin .add, [.tmp 17, .const (.int .i64 1)], none⟩,
               ⟨(some 6), .mv, [.tmp 18], none⟩]))))))
      (.seq (.reg [⟨(some 38), .mv, [.tmp 5], none⟩,
           ⟨(some 4), .mv, [.tmp 38], none⟩])
       .ret))))

theorem tab18 : tab 18 = some A18 := by unfold tab; kernel_rfl

/-- downspout/downspoutref23.Valid -/
def A19 : AFn where
  isPure := true
  ntmps := 87
  res := [(2, none)]
  body := (.seq (.reg [⟨(some 1), .box, [.tmp 0], none⟩,
        ⟨(some 2), .mv, [.const (.bool false)], none⟩])
    (.seq (.seq (.reg [⟨(some 6), .faddr 0, [.tmp 1], none⟩,
          ⟨(some 7), .load false 1, [.tmp 6], none⟩,
          ⟨(some 8), .bin .lss, [.tmp 7, .const (.int .i64 1)], none⟩,
          ⟨(some 9), .mv, [.tmp 8], none⟩,
          ⟨(some 10), .faddr 0, [.tmp 1], (some (9, false))⟩,
          ⟨(some 11), .load false 1, [.tmp 10], (some (9, false))⟩,
          ⟨(some 12), .bin .gtr, [.tmp 11, .const (.int .i64 65536)], (some (9, false))⟩,
          ⟨(some 13), .pick, [.tmp 9, .const (.bool true), .tmp 12], none⟩,
          ⟨(some 14), .mv, [.tmp 13], none⟩,
          ⟨(some 15), .faddr 1, [.tmp 1], (some (14, false))⟩,
          ⟨(some 16), .load false 1, [.tmp 15], (some (14, false))⟩,
          ⟨(some 17), .len false, [.tmp 16], (some (14, false))⟩,
          ⟨(some 18), .bin .lss, [.tmp 17, .const (.int .i64 1)], (some (14, false))⟩,
          ⟨(some 19), .pick, [.tmp 14, .const (.bool true), .tmp 18], none⟩,
          ⟨(some 20), .mv, [.tmp 19], none⟩,
          ⟨(some 21), .faddr 1, [.tmp 1], (some (20, false))⟩,
          ⟨(some 22), .load false 1, [.tmp 21], (some (20, false))⟩,
          ⟨(some 23), .len false, [.tmp 22], (some (20, false))⟩,
          ⟨(some 24), .bin .gtr, [.tmp 23, .const (.int .i64 4096)], (some (20, false))⟩,
          ⟨(some 25), .pick, [.tmp 20, .const (.bool true), .tmp 24], none⟩])
      (.cond (.tmp 25)
       (.seq (.reg [⟨(some 2), .mv, [.const (.bool false)], none⟩])
        .ret)
       .skip))
     (.seq (.seq (.reg [⟨(some 3), .mv, [.const (.int .i64 0)], none⟩])
       (.block 0 (.loop (.seq (.seq (.reg [⟨(some 26), .mv, [.tmp 3], none⟩,
               ⟨(some 27), .faddr 1, [.tmp 1], none⟩,
               ⟨(some 28), .load false 1, [.tmp 27], none⟩,
               ⟨(some 29), .len false, [.tmp 28], none⟩,
               ⟨(some 30), .bin .lss, [.tmp 26, .tmp 29], none⟩])
           (.cond (.tmp 30)
            .skip
            (.exit 0)))
          (.seq (.block 1 (.seq (.dreg [⟨⟨(some 33), .faddr 1, [.tmp 1], none⟩, [], none⟩,
                 ⟨⟨(some 34), .load false 1, [.tmp 33], none⟩, [], none⟩,
                 ⟨⟨(some 35), .mv, [.tmp 3], none⟩, [], none⟩,
                 ⟨⟨(some 36), .iaddr none 1, [.tmp 34, .tmp 35], none⟩, [], none⟩,
                 ⟨⟨(some 37), .load false 1, [.tmp 36], none⟩, [], none⟩,
                 ⟨⟨(some 38), .len false, [.tmp 37], none⟩, [], none⟩,
                 ⟨⟨(some 39), .faddr 0, [.tmp 1], none⟩, [], none⟩,
                 ⟨⟨(some 40), .load false 1, [.tmp 39], none⟩, [], none⟩,
                 ⟨⟨(some 41), .bin .gtr, [.tmp 38, .tmp 40], none⟩, [], none⟩])
             (.cond (.tmp 41)
              (.seq (.reg [⟨(some 2), .mv, [.const (.bool false)], none⟩])
               .ret)
              .skip)))
           (.reg [⟨(some 31), .mv, [.tmp 3], none⟩,
               ⟨(some 32), .bin .add, [.tmp 31, .const (.int .i64 1)], none⟩,
               ⟨(some 3), .mv, [.tmp 32], none⟩]))))))
      (.seq (.seq (.reg [⟨(some 4), .mv, [.const (.int .i64 0)], none⟩])
        (.block 2 (.loop (.seq (.seq (.reg [⟨(some 42), .mv, [.tmp 4], none⟩,
                ⟨(some 43), .faddr 2, [.tmp 1], none⟩,
                ⟨(some 44), .load false 1, [.tmp 43], none⟩,
                ⟨(some 45), .len false, [.tmp 44], none⟩,
                ⟨(some 46), .bin .lss, [.tmp 42, .tmp 45], none⟩])
            (.cond (.tmp 46)
             .skip
             (.exit 2)))
           (.seq (.block 3 (.seq (.reg [⟨(some 49), .faddr 2, [.tmp 1], none⟩,
                  ⟨(some 50), .load false 1, [.tmp 49], none⟩,
                  ⟨(some 51), .mv, [.tmp 4], none⟩,
                  ⟨(some 52), .iaddr none 3, [.tmp 50, .tmp 51], none⟩,
                  ⟨(some 53), .load true 3, [.tmp 52], none⟩,
                  ⟨(some 5), .new [.lit (.bool false), .lit (.int .i64 0), .sl true 0 (some 0) []], [], none⟩,
                  ⟨none, .store 3, [.tmp 5, .tmp 53], none⟩])
              (.seq (.reg [⟨(some 54), .faddr 0, [.tmp 5], none⟩,
                   ⟨(some 55), .load false 1, [.tmp 54], none⟩,
                   ⟨(some 56), .mv, [.tmp 55], none⟩,
                   ⟨(some 57), .faddr 1, [.tmp 5], (some (56, true))⟩,
                   ⟨(some 58), .load false 1, [.tmp 57], (some (56, true))⟩,
                   ⟨(some 59), .bin .neq, [.tmp 58, .const (.int .i64 0)], (some (56, true))⟩,
                   ⟨(some 60), .mv, [.tmp 59], (some (56, true))⟩,
                   ⟨(some 61), .faddr 2, [.tmp 5], (some (60, false))⟩,
                   ⟨(some 62), .load false 1, [.tmp 61], (some (60, false))⟩,
                   ⟨(some 63), .len false, [.tmp 62], (some (60, false))⟩,
                   ⟨(some 64), .bin .gtr, [.tmp 63, .const (.int .i64 0)], (some (60, false))⟩,
                   ⟨(some 65), .pick, [.tmp 60, .const (.bool true), .tmp 64], (some (56, true))⟩,
                   ⟨(some 66), .pick, [.tmp 56, .tmp 65, .const (.bool false)], none⟩,
                   ⟨(some 67), .mv, [.tmp 66], none⟩,
                   ⟨(some 68), .faddr 0, [.tmp 5], (some (67, false))⟩,
                   ⟨(some 69), .load false 1, [.tmp 68], (some (67, false))⟩,
                   ⟨(some 70), .un .not, [.tmp 69], (some (67, false))⟩,
                   ⟨(some 71), .mv, [.tmp 70], (some (67, false))⟩,
                   ⟨(some 72), .load true 3, [.tmp 1], (some (71, true))⟩,
                   ⟨(some 73), .faddr 1, [.tmp 5], (some (71, true))⟩,
                   ⟨(some 74), .load false 1, [.tmp 73], (some (71, true))⟩,
                   ⟨(some 75), .call, [.func 33, .tmp 72, .tmp 74], (some (71, true))⟩,
                   ⟨(some 76), .un .not, [.tmp 75], (some (71, true))⟩,
                   ⟨(some 77), .mv, [.tmp 76], (some (71, true))⟩,
                   ⟨(some 78), .faddr 2, [.tmp 5], (some (77, false))⟩,
                   ⟨(some 79), .load false 1, [.tmp 78], (some (77, false))⟩,
                   ⟨(some 80), .len false, [.tmp 79], (some (77, false))⟩,
                   ⟨(some 81), .faddr 0, [.tmp 1], (some (77, false))⟩,
                   ⟨(some 82), .load false 1, [.tmp 81], (some (77, false))⟩,
                   ⟨(some 83), .bin .gtr, [.tmp 80, .tmp 82], (some (77, false))⟩,
                   ⟨(some 84), .pick, [.tmp 77, .const (.bool true), .tmp 83], (some (71, true))⟩,
                   ⟨(some 85), .pick, [.tmp 71, .tmp 84, .const (.bool false)], (some (67, false))⟩,
                   ⟨(some 86), .pick, [.tmp 67, .const (.bool true), .tmp 85], none⟩])
               (.cond (.tmp 86)
                (.seq (.reg [⟨(some 2), .mv, [.const (.bool false)], none⟩])
                 .ret)
                .skip))))
            (.reg [⟨(some 47), .mv, [.tmp 4], none⟩,
                ⟨(some 48), .bin .add, [.tmp 47, .const (.int .i64 1)], none⟩,
                ⟨(some 4), .mv, [.tmp 48], none⟩]))))))
       (.seq (.reg [⟨(some 2), .mv, [.const (.bool true)], none⟩])
        .ret)))))

theorem tab19 : tab 19 = some A19 := by unfold tab; kernel_rfl

/-- downspout/downspoutref23.Step -/
def A20 : AFn where
  isPure := true
  ntmps := 41
  res := [(4, some (true, 3))]
  body := (.seq (.reg [⟨(some 2), .box, [.tmp 0], none⟩,
        ⟨(some 3), .box, [.tmp 1], none⟩,
        ⟨(some 4), .new [.lit (.int .i64 0), .sl true 0 (some 0) [], .sl true 0 (some 0) []], [], none⟩])
    (.seq (.seq (.reg [⟨(some 7), .faddr 0, [.tmp 3], none⟩,
          ⟨(some 8), .load false 1, [.tmp 7], none⟩,
          ⟨(some 9), .bin .rem, [.tmp 8, .const (.int .u8 8)], none⟩])
      (.block 0 (.seq (.reg [⟨(some 11), .bin .eql, [.tmp 9, .const (.int .u8 0)], none⟩,
            ⟨(some 10), .mv, [.tmp 11], none⟩])
        (.cond (.tmp 10)
         (.seq (.reg [⟨(some 12), .load true 3, [.tmp 2], none⟩,
              ⟨(some 13), .call, [.func 21, .tmp 12], none⟩,
              ⟨none, .store 3, [.tmp 4, .tmp 13], none⟩])
          .ret)
         (.seq (.seq (.reg [⟨(some 15), .bin .eql, [.tmp 9, .const (.int .u8 1)], none⟩,
               ⟨(some 14), .mv, [.tmp 15], none⟩])
           (.cond (.tmp 14)
            .skip
            (.reg [⟨(some 16), .bin .eql, [.tmp 9, .const (.int .u8 2)], none⟩,
                ⟨(some 14), .mv, [.tmp 16], none⟩])))
          (.cond (.tmp 14)
           (.seq (.reg [⟨(some 17), .load true 3, [.tmp 2], none⟩,
                ⟨(some 18), .call, [.func 34, .tmp 17], none⟩,
                ⟨none, .store 3, [.tmp 4, .tmp 18], none⟩])
            .ret)
           .skip))))))
     (.seq (.dreg [⟨⟨(some 20), .load true 3, [.tmp 2], none⟩, [21], none⟩,
          ⟨⟨(some 21), .faddr 1, [.tmp 3], none⟩, [21], none⟩,
          ⟨⟨(some 22), .load false 1, [.tmp 21], none⟩, [21], none⟩,
          ⟨⟨(some 23), .conv .i64, [.tmp 22], none⟩, [21], none⟩,
          ⟨⟨(some 24), .faddr 1, [.tmp 2], none⟩, [21], none⟩,
          ⟨⟨(some 25), .load false 1, [.tmp 24], none⟩, [21], none⟩,
          ⟨⟨(some 26), .len false, [.tmp 25], none⟩, [21], none⟩,
          ⟨⟨(some 27), .bin .rem, [.tmp 23, .tmp 26], none⟩, [21], none⟩,
          ⟨⟨(some 28), .faddr 2, [.tmp 3], none⟩, [21], none⟩,
          ⟨⟨(some 29), .load false 1, [.tmp 28], none⟩, [21], none⟩,
          ⟨⟨(some 30), .faddr 2, [.tmp 3], none⟩, [21], none⟩,
          ⟨⟨(some 31), .load false 1, [.tmp 30], none⟩, [21], none⟩,
          ⟨⟨(some 32), .len false, [.tmp 31], none⟩, [21], none⟩,
          ⟨⟨(some 33), .faddr 0, [.tmp 2], none⟩, [21], none⟩,
          ⟨⟨(some 34), .load false 1, [.tmp 33], none⟩, [21], none⟩,
          ⟨⟨(some 35), .min, [.tmp 32, .tmp 34], none⟩, [21], none⟩,
          ⟨⟨(some 36), .slice 1 false true false, [.tmp 29, .tmp 35], none⟩, [21], none⟩,
          ⟨⟨(some 37), .call, [.func 35, .tmp 20, .tmp 27, .tmp 36], none⟩, [21], none⟩,
          ⟨⟨(some 19), .mv, [.tmp 37], none⟩, [21], none⟩,
          ⟨⟨(some 38), .ext 0, [.tmp 19], none⟩, [21], none⟩,
          ⟨⟨(some 39), .ext 1, [.tmp 19], none⟩, [21], none⟩,
          ⟨⟨(some 5), .new [.lit (.int .i64 0), .sl true 0 (some 0) [], .sl true 0 (some 0) []], [], none⟩, [], none⟩,
          ⟨⟨none, .store 3, [.tmp 5, .tmp 38], none⟩, [], none⟩,
          ⟨⟨(some 6), .mv, [.tmp 39], none⟩, [], none⟩])
      (.seq (.reg [⟨(some 40), .load true 3, [.tmp 5], none⟩,
           ⟨none, .store 3, [.tmp 4, .tmp 40], none⟩])
       .ret))))

theorem tab20 : tab 20 = some A20 := by unfold tab; kernel_rfl

/-- downspout/downspoutref23.Sync -/
def A21 : AFn where
  isPure := true
  ntmps := 38
  res := [(2, some (true, 3))]
  body := (.seq (.reg [⟨(some 1), .box, [.tmp 0], none⟩,
        ⟨(some 2), .new [.lit (.int .i64 0), .sl true 0 (some 0) [], .sl true 0 (some 0) []], [], none⟩])
    (.seq (.reg [⟨(some 5), .load true 3, [.tmp 1], none⟩,
         ⟨(some 6), .call, [.func 36, .tmp 5], none⟩,
         ⟨(some 3), .new [.lit (.int .i64 0), .sl true 0 (some 0) [], .sl true 0 (some 0) []], [], none⟩,
         ⟨none, .store 3, [.tmp 3, .tmp 6], none⟩])
     (.seq (.seq (.reg [⟨(some 4), .mv, [.const (.int .i64 0)], none⟩])
       (.block 0 (.loop (.seq (.seq (.reg [⟨(some 7), .mv, [.tmp 4], none⟩,
               ⟨(some 8), .faddr 2, [.tmp 1], none⟩,
               ⟨(some 9), .load false 1, [.tmp 8], none⟩,
               ⟨(some 10), .len false, [.tmp 9], none⟩,
               ⟨(some 11), .bin .lss, [.tmp 7, .tmp 10], none⟩])
           (.cond (.tmp 11)
            .skip
            (.exit 0)))
          (.seq (.block 1 (.seq (.reg [⟨(some 14), .faddr 2, [.tmp 1], none⟩,
                 ⟨(some 15), .load false 1, [.tmp 14], none⟩,
                 ⟨(some 16), .mv, [.tmp 4], none⟩,
                 ⟨(some 17), .iaddr none 3, [.tmp 15, .tmp 16], none⟩,
                 ⟨(some 18), .faddr 0, [.tmp 17], none⟩,
                 ⟨(some 19), .load false 1, [.tmp 18], none⟩,
                 ⟨(some 20), .un .not, [.tmp 19], none⟩])
             (.cond (.tmp 20)
              (.dreg [⟨⟨(some 21), .faddr 1, [.tmp 3], none⟩, [], none⟩,
                  ⟨⟨(some 22), .load false 1, [.tmp 21], none⟩, [], none⟩,
                  ⟨⟨(some 23), .faddr 2, [.tmp 1], none⟩, [], none⟩,
                  ⟨⟨(some 24), .load false 1, [.tmp 23], none⟩, [], none⟩,
                  ⟨⟨(some 25), .mv, [.tmp 4], none⟩, [], none⟩,
                  ⟨⟨(some 26), .iaddr none 3, [.tmp 24, .tmp 25], none⟩, [], none⟩,
                  ⟨⟨(some 27), .faddr 1, [.tmp 26], none⟩, [], none⟩,
                  ⟨⟨(some 28), .load false 1, [.tmp 27], none⟩, [], none⟩,
                  ⟨⟨(some 29), .faddr 2, [.tmp 1], none⟩, [], none⟩,
                  ⟨⟨(some 30), .load false 1, [.tmp 29], none⟩, [], none⟩,
                  ⟨⟨(some 31), .mv, [.tmp 4], none⟩, [], none⟩,
                  ⟨⟨(some 32), .iaddr none 3, [.tmp 30, .tmp 31], none⟩, [], none⟩,
                  ⟨⟨(some 33), .faddr 2, [.tmp 32], none⟩, [], none⟩,
                  ⟨⟨(some 34), .load false 1, [.tmp 33], none⟩, [], none⟩,
                  ⟨⟨(some 35), .iaddr none 1, [.tmp 22, .tmp 28], none⟩, [], none⟩,
                  ⟨⟨none, .store 1, [.tmp 35, .tmp 34], none⟩, [], none⟩])
              .skip)))
           (.reg [⟨(some 12), .mv, [.tmp 4], none⟩,
               ⟨(some 13), .bin .add, [.tmp 12, .const (.int .i64 1)], none⟩,
               ⟨(some 4), .mv, [.tmp 13], none⟩]))))))
      (.seq (.reg [⟨(some 36), .faddr 2, [.tmp 3], none⟩,
           ⟨none, .store 1, [.tmp 36, .const (.slice none 0 0)], none⟩])
       (.seq (.reg [⟨(some 37), .load true 3, [.tmp 3], none⟩,
            ⟨none, .store 3, [.tmp 2, .tmp 37], none⟩])
        .ret)))))

theorem tab21 : tab 21 = some A21 := by unfold tab; kernel_rfl

/-- downspout/disk.Rot -/
def A22 : AFn where
  isPure := true
  ntmps := 56
  res := [(8, some (true, 3)), (9, none)]
  body := (.seq (.reg [⟨(some 4), .box, [.tmp 0], none⟩,
        ⟨(some 8), .new [.lit (.int .i64 0), .sl true 0 (some 0) [], .sl true 0 (some 0) []], [], none⟩,
        ⟨(some 9), .mv, [.const (.int .i64 0)], none⟩])
    (.seq (.block 0 (.seq (.reg [⟨(some 11), .load true 3, [.tmp 4], none⟩,
           ⟨(some 12), .mv, [.tmp 1], none⟩,
           ⟨(some 13), .call, [.func 26, .tmp 11, .tmp 12], none⟩,
           ⟨(some 14), .un .not, [.tmp 13], none⟩,
           ⟨(some 10), .mv, [.tmp 14], none⟩])
       (.cond (.tmp 10)
        (.seq (.reg [⟨(some 15), .load true 3, [.tmp 4], none⟩,
             ⟨none, .store 3, [.tmp 8, .tmp 15], none⟩,
             ⟨(some 9), .mv, [.const (.int .i64 230)], none⟩])
         .ret)
        (.seq (.reg [⟨(some 17), .mv, [.tmp 2], none⟩,
             ⟨(some 18), .bin .lss, [.tmp 17, .const (.int .i64 0)], none⟩,
             ⟨(some 19), .mv, [.tmp 18], none⟩,
             ⟨(some 20), .mv, [.tmp 2], (some (19, false))⟩,
             ⟨(some 21), .faddr 1, [.tmp 4], (some (19, false))⟩,
             ⟨(some 22), .load false 1, [.tmp 21], (some (19, false))⟩,
             ⟨(some 23), .mv, [.tmp 1], (some (19, false))⟩,
             ⟨(some 24), .iaddr none 1, [.tmp 22, .tmp 23], (some (19, false))⟩,
             ⟨(some 25), .load false 1, [.tmp 24], (some (19, false))⟩,
             ⟨(some 26), .len false, [.tmp 25], (some (19, false))⟩,
             ⟨(some 27), .bin .geq, [.tmp 20, .tmp 26], (some (19, false))⟩,
             ⟨(some 28), .pick, [.tmp 19, .const (.bool true), .tmp 27], none⟩,
             ⟨(some 16), .mv, [.tmp 28], none⟩])
         (.cond (.tmp 16)
          (.seq (.reg [⟨(some 29), .load true 3, [.tmp 4], none⟩,
               ⟨none, .store 3, [.tmp 8, .tmp 29], none⟩,
               ⟨(some 9), .mv, [.const (.int .i64 1)], none⟩])
           .ret)
          .skip)))))
     (.seq (.reg [⟨(some 30), .faddr 1, [.tmp 4], none⟩,
          ⟨(some 31), .load false 1, [.tmp 30], none⟩,
          ⟨(some 32), .call, [.func 37, .tmp 31], none⟩,
          ⟨(some 33), .faddr 1, [.tmp 4], none⟩,
          ⟨none, .store 1, [.tmp 33, .tmp 32], none⟩])
      (.seq (.dreg [⟨⟨(some 34), .faddr 1, [.tmp 4], none⟩, [8], none⟩,
           ⟨⟨(some 35), .load false 1, [.tmp 34], none⟩, [8], none⟩,
           ⟨⟨(some 36), .mv, [.tmp 1], none⟩, [8], none⟩,
           ⟨⟨(some 37), .faddr 1, [.tmp 4], none⟩, [8], none⟩,
           ⟨⟨(some 38), .load false 1, [.tmp 37], none⟩, [8], none⟩,
           ⟨⟨(some 39), .mv, [.tmp 1], none⟩, [8], none⟩,
           ⟨⟨(some 40), .iaddr none 1, [.tmp 38, .tmp 39], none⟩, [8], none⟩,
           ⟨⟨(some 41), .load false 1, [.tmp 40], none⟩, [8], none⟩,
           ⟨⟨(some 42), .mcall, [.func 28, .tmp 41], none⟩, [], none⟩,
           ⟨⟨(some 43), .iaddr none 1, [.tmp 35, .tmp 36], none⟩, [], none⟩,
           ⟨⟨none, .store 1, [.tmp 43, .tmp 42], none⟩, [], none⟩])
       (.seq (.reg [⟨(some 44), .faddr 1, [.tmp 4], none⟩,
            ⟨(some 45), .load false 1, [.tmp 44], none⟩,
            ⟨(some 46), .mv, [.tmp 1], none⟩,
            ⟨(some 47), .iaddr none 1, [.tmp 45, .tmp 46], none⟩,
            ⟨(some 48), .load false 1, [.tmp 47], none⟩,
            ⟨(some 49), .mv, [.tmp 2], none⟩,
            ⟨(some 50), .iaddr none 1, [.tmp 48, .tmp 49], none⟩,
            ⟨(some 51), .load false 1, [.tmp 50], none⟩,
            ⟨(some 52), .mv, [.tmp 3], none⟩,
            ⟨(some 53), .bin .xor, [.tmp 51, .tmp 52], none⟩,
            ⟨(some 54), .iaddr none 1, [.tmp 48, .tmp 49], none⟩,
            ⟨none, .store 1, [.tmp 54, .tmp 53], none⟩])
        (.seq (.reg [⟨(some 55), .load true 3, [.tmp 4], none⟩,
             ⟨none, .store 3, [.tmp 8, .tmp 55], none⟩,
             ⟨(some 9), .mv, [.const (.int .i64 0)], none⟩])
         .ret))))))

theorem tab22 : tab 22 = some A22 := by unfold tab; kernel_rfl

/-- downspout/disk.New -/
def A23 : AFn where
  isPure := true
  ntmps := 25
  res := [(4, some (true, 3)), (5, none)]
  body := (.seq (.reg [⟨(some 4), .new [.lit (.int .i64 0), .sl true 0 (some 0) [], .sl true 0 (some 0) []], [], none⟩,
        ⟨(some 5), .mv, [.const (.int .i64 0)], none⟩])
    (.seq (.seq (.reg [⟨(some 6), .mv, [.tmp 0], none⟩,
          ⟨(some 7), .bin .lss, [.tmp 6, .const (.int .i64 1)], none⟩,
          ⟨(some 8), .mv, [.tmp 7], none⟩,
          ⟨(some 9), .mv, [.tmp 0], (some (8, false))⟩,
          ⟨(some 10), .bin .gtr, [.tmp 9, .const (.int .i64 65536)], (some (8, false))⟩,
          ⟨(some 11), .pick, [.tmp 8, .const (.bool true), .tmp 10], none⟩,
          ⟨(some 12), .mv, [.tmp 11], none⟩,
          ⟨(some 13), .mv, [.tmp 1], (some (12, false))⟩,
          ⟨(some 14), .bin .lss, [.tmp 13, .const (.int .i64 1)], (some (12, false))⟩,
          ⟨(some 15), .pick, [.tmp 12, .const (.bool true), .tmp 14], none⟩,
          ⟨(some 16), .mv, [.tmp 15], none⟩,
          ⟨(some 17), .mv, [.tmp 1], (some (16, false))⟩,
          ⟨(some 18), .bin .gtr, [.tmp 17, .const (.int .i64 4096)], (some (16, false))⟩,
          ⟨(some 19), .pick, [.tmp 16, .const (.bool true), .tmp 18], none⟩])
      (.cond (.tmp 19)
       (.seq (.reg [⟨(some 20), .build [.lit (.int .i64 0), .sl true 0 (some 0) [], .sl true 0 (some 0) []] [], [], none⟩,
            ⟨none, .store 3, [.tmp 4, .tmp 20], none⟩,
            ⟨(some 5), .mv, [.const (.int .i64 1)], none⟩])
        .ret)
       .skip))
     (.seq (.reg [⟨(some 21), .mv, [.tmp 0], none⟩,
          ⟨(some 22), .mv, [.tmp 1], none⟩,
          ⟨(some 23), .mkslice 1 24 [.sl true 0 (some 0) []], [.tmp 22, .tmp 22], none⟩,
          ⟨(some 24), .build [.lit (.int .i64 0), .sl true 0 (some 0) [], .sl true 0 (some 0) []] [(0, 1), (1, 1)], [.tmp 21, .tmp 23], none⟩,
          ⟨none, .store 3, [.tmp 4, .tmp 24], none⟩,
          ⟨(some 5), .mv, [.const (.int .i64 0)], none⟩])
      .ret)))

theorem tab23 : tab 23 = some A23 := by unfold tab; kernel_rfl

/-- downspout/downspoutlaw23.cells -/
def A24 : AFn where
  isPure := true
  ntmps := 35
  res := [(6, none)]
  body := (.seq (.reg [⟨(some 3), .box, [.tmp 0], none⟩,
        ⟨(some 6), .mv, [.const (.bool false)], none⟩])
    (.seq (.reg [⟨(some 7), .faddr 1, [.tmp 3], none⟩,
         ⟨(some 8), .load false 1, [.tmp 7], none⟩,
         ⟨(some 9), .len false, [.tmp 8], none⟩,
         ⟨(some 10), .bin .eql, [.tmp 9, .const (.int .i64 2)], none⟩,
         ⟨(some 11), .mv, [.tmp 10], none⟩,
         ⟨(some 12), .faddr 1, [.tmp 3], (some (11, true))⟩,
         ⟨(some 13), .load false 1, [.tmp 12], (some (11, true))⟩,
         ⟨(some 14), .iaddr none 1, [.tmp 13, .const (.int .i64 0)], (some (11, true))⟩,
         ⟨(some 15), .load false 1, [.tmp 14], (some (11, true))⟩,
         ⟨(some 16), .b2s, [.tmp 15], (some (11, true))⟩,
         ⟨(some 17), .mv, [.tmp 1], (some (11, true))⟩,
         ⟨(some 18), .bin .eql, [.tmp 16, .tmp 17], (some (11, true))⟩,
         ⟨(some 19), .pick, [.tmp 11, .tmp 18, .const (.bool false)], none⟩,
         ⟨(some 20), .mv, [.tmp 19], none⟩,
         ⟨(some 21), .faddr 1, [.tmp 3], (some (20, true))⟩,
         ⟨(some 22), .load false 1, [.tmp 21], (some (20, true))⟩,
         ⟨(some 23), .iaddr none 1, [.tmp 22, .const (.int .i64 1)], (some (20, true))⟩,
         ⟨(some 24), .load false 1, [.tmp 23], (some (20, true))⟩,
         ⟨(some 25), .b2s, [.tmp 24], (some (20, true))⟩,
         ⟨(some 26), .mv, [.tmp 2], (some (20, true))⟩,
         ⟨(some 27), .bin .eql, [.tmp 25, .tmp 26], (some (20, true))⟩,
         ⟨(some 28), .pick, [.tmp 20, .tmp 27, .const (.bool false)], none⟩,
         ⟨(some 29), .mv, [.tmp 28], none⟩,
         ⟨(some 30), .faddr 2, [.tmp 3], (some (29, true))⟩,
         ⟨(some 31), .load false 1, [.tmp 30], (some (29, true))⟩,
         ⟨(some 32), .len false, [.tmp 31], (some (29, true))⟩,
         ⟨(some 33), .bin .eql, [.tmp 32, .const (.int .i64 0)], (some (29, true))⟩,
         ⟨(some 34), .pick, [.tmp 29, .tmp 33, .const (.bool false)], none⟩,
         ⟨(some 6), .mv, [.tmp 34], none⟩])
     .ret))

theorem tab24 : tab 24 = some A24 := by unfold tab; kernel_rfl

/-- downspout/downspoutref23.New -/
def A25 : AFn where
  isPure := true
  ntmps := 25
  res := [(4, some (true, 3)), (5, none)]
  body := (.seq (.reg [⟨(some 4), .new [.lit (.int .i64 0), .sl true 0 (some 0) [], .sl true 0 (some 0) []], [], none⟩,
        ⟨(some 5), .mv, [.const (.int .i64 0)], none⟩])
    (.seq (.seq (.reg [⟨(some 6), .mv, [.tmp 0], none⟩,
          ⟨(some 7), .bin .lss, [.tmp 6, .const (.int .i64 1)], none⟩,
          ⟨(some 8), .mv, [.tmp 7], none⟩,
          ⟨(some 9), .mv, [.tmp 0], (some (8, false))⟩,
          ⟨(some 10), .bin .gtr, [.tmp 9, .const (.int .i64 65536)], (some (8, false))⟩,
          ⟨(some 11), .pick, [.tmp 8, .const (.bool true), .tmp 10], none⟩,
          ⟨(some 12), .mv, [.tmp 11], none⟩,
          ⟨(some 13), .mv, [.tmp 1], (some (12, false))⟩,
          ⟨(some 14), .bin .lss, [.tmp 13, .const (.int .i64 1)], (some (12, false))⟩,
          ⟨(some 15), .pick, [.tmp 12, .const (.bool true), .tmp 14], none⟩,
          ⟨(some 16), .mv, [.tmp 15], none⟩,
          ⟨(some 17), .mv, [.tmp 1], (some (16, false))⟩,
          ⟨(some 18), .bin .gtr, [.tmp 17, .const (.int .i64 4096)], (some (16, false))⟩,
          ⟨(some 19), .pick, [.tmp 16, .const (.bool true), .tmp 18], none⟩])
      (.cond (.tmp 19)
       (.seq (.reg [⟨(some 20), .build [.lit (.int .i64 0), .sl true 0 (some 0) [], .sl true 0 (some 0) []] [], [], none⟩,
            ⟨none, .store 3, [.tmp 4, .tmp 20], none⟩,
            ⟨(some 5), .mv, [.const (.int .i64 1)], none⟩])
        .ret)
       .skip))
     (.seq (.reg [⟨(some 21), .mv, [.tmp 0], none⟩,
          ⟨(some 22), .mv, [.tmp 1], none⟩,
          ⟨(some 23), .mkslice 1 24 [.sl true 0 (some 0) []], [.tmp 22, .tmp 22], none⟩,
          ⟨(some 24), .build [.lit (.int .i64 0), .sl true 0 (some 0) [], .sl true 0 (some 0) []] [(0, 1), (1, 1)], [.tmp 21, .tmp 23], none⟩,
          ⟨none, .store 3, [.tmp 4, .tmp 24], none⟩,
          ⟨(some 5), .mv, [.const (.int .i64 0)], none⟩])
      .ret)))

theorem tab25 : tab 25 = some A25 := by unfold tab; kernel_rfl

/-- downspout/disk.has -/
def A26 : AFn where
  isPure := true
  ntmps := 14
  res := [(4, none)]
  body := (.seq (.reg [⟨(some 2), .box, [.tmp 0], none⟩,
        ⟨(some 4), .mv, [.const (.bool false)], none⟩])
    (.seq (.reg [⟨(some 5), .mv, [.tmp 1], none⟩,
         ⟨(some 6), .bin .geq, [.tmp 5, .const (.int .i64 0)], none⟩,
         ⟨(some 7), .mv, [.tmp 6], none⟩,
         ⟨(some 8), .mv, [.tmp 1], (some (7, true))⟩,
         ⟨(some 9), .faddr 1, [.tmp 2], (some (7, true))⟩,
         ⟨(some 10), .load false 1, [.tmp 9], (some (7, true))⟩,
         ⟨(some 11), .len false, [.tmp 10], (some (7, true))⟩,
         ⟨(some 12), .bin .lss, [.tmp 8, .tmp 11], (some (7, true))⟩,
         ⟨(some 13), .pick, [.tmp 7, .tmp 12, .const (.bool false)], none⟩,
         ⟨(some 4), .mv, [.tmp 13], none⟩])
     .ret))

theorem tab26 : tab 26 = some A26 := by unfold tab; kernel_rfl

/-- bytes.Clone -/
def A28 : AFn where
  isPure := true
  ntmps := 8
  res := [(2, none)]
  body := (.seq (.reg [⟨(some 2), .mv, [.const (.slice none 0 0)], none⟩])
    (.seq (.seq (.reg [⟨(some 3), .mv, [.tmp 0], none⟩,
          ⟨(some 4), .snil false, [.tmp 3, .const (.slice none 0 0)], none⟩])
      (.cond (.tmp 4)
       (.seq (.reg [⟨(some 2), .mv, [.const (.slice none 0 0)], none⟩])
        .ret)
       .skip))
     (.seq (.reg [⟨(some 5), .bslice 0 1 [] [], [], none⟩,
          ⟨(some 6), .mv, [.tmp 0], none⟩,
          ⟨(some 7), .append 1 1, [.tmp 5, .tmp 6], none⟩,
          ⟨(some 2), .mv, [.tmp 7], none⟩])
      .ret)))

theorem tab28 : tab 28 = some A28 := by unfold tab; kernel_rfl

/-- downspout/disk.finish -/
def A29 : AFn where
  isPure := false
  ntmps := 61
  res := [(4, some (true, 3))]
  body := (.seq (.reg [⟨(some 2), .box, [.tmp 0], none⟩,
        ⟨(some 4), .new [.lit (.int .i64 0), .sl true 0 (some 0) [], .sl true 0 (some 0) []], [], none⟩])
    (.seq (.reg [⟨(some 12), .faddr 1, [.tmp 2], none⟩,
         ⟨(some 13), .load false 1, [.tmp 12], none⟩,
         ⟨(some 14), .call, [.func 37, .tmp 13], none⟩,
         ⟨(some 15), .call, [.func 39], none⟩,
         ⟨(some 6), .new [.lit .nilFunc, .lit .nilFunc, .lit .nilFunc, .lit .nilFunc], [], none⟩,
         ⟨(some 5), .mv, [.tmp 14], none⟩,
         ⟨none, .store 4, [.tmp 6, .tmp 15], none⟩,
         ⟨(some 7), .mv, [.const (.int .i64 0)], none⟩,
         ⟨(some 8), .mv, [.const (.bool true)], none⟩])
     (.seq (.seq (.reg [⟨(some 16), .faddr 2, [.tmp 2], none⟩,
           ⟨(some 17), .load false 1, [.tmp 16], none⟩,
           ⟨(some 18), .len false, [.tmp 17], none⟩,
           ⟨(some 19), .mv, [.const (.int .i64 0)], none⟩])
       (.block 0 (.loop (.seq (.reg [⟨(some 20), .bin .lss, [.tmp 19, .tmp 18], none⟩])
          (.seq (.cond (.tmp 20)
            .skip
            (.exit 0))
           (.seq (.block 1 (.seq (.reg [⟨(some 21), .iaddr none 3, [.tmp 17, .tmp 19], none⟩,
                  ⟨(some 22), .load true 3, [.tmp 21], none⟩,
                  ⟨(some 10), .new [.lit (.bool false), .lit (.int .i64 0), .sl true 0 (some 0) []], [], none⟩,
                  ⟨none, .store 3, [.tmp 10, .tmp 22], none⟩])
              (.seq (.seq (.reg [⟨(some 23), .faddr 0, [.tmp 10], none⟩,
                    ⟨(some 24), .load false 1, [.tmp 23], none⟩])
                (.cond (.tmp 24)
                 (.seq (.seq (.reg [⟨(some 25), .mv, [.tmp 8], none⟩,
                       ⟨(some 26), .un .not, [.tmp 25], none⟩])
                   (.cond (.tmp 26)
                    (.exit 0)
                    .skip))
                  (.exit 1))
                 .skip))
               (.seq (.reg [⟨(some 27), .mv, [.tmp 1], none⟩,
                    ⟨(some 28), .mv, [.tmp 7], none⟩,
                    ⟨(some 29), .call, [.tmp 27, .tmp 28], none⟩,
                    ⟨(some 11), .new [.lit (.int .i64 0), .lit (.int .i64 0)], [], none⟩,
                    ⟨none, .store 2, [.tmp 11, .tmp 29], none⟩])
                (.seq (.reg [⟨(some 30), .mv, [.tmp 7], none⟩,
                     ⟨(some 31), .bin .add, [.tmp 30, .const (.int .i64 1)], none⟩,
                     ⟨(some 7), .mv, [.tmp 31], none⟩])
                 (.seq (.seq (.reg [⟨(some 32), .faddr 0, [.tmp 11], none⟩,
                       ⟨(some 33), .load false 1, [.tmp 32], none⟩,
                       ⟨(some 34), .bin .lss, [.tmp 33, .const (.int .i64 0)], none⟩,
                       ⟨(some 35), .mv, [.tmp 34], none⟩,
                       ⟨(some 36), .faddr 0, [.tmp 11], (some (35, false))⟩,
                       ⟨(some 37), .load false 1, [.tmp 36], (some (35, false))⟩,
                       ⟨(some 38), .bin .geq, [.tmp 37, .const (.int .i64 4)], (some (35, false))⟩,
                       ⟨(some 39), .pick, [.tmp 35, .const (.bool true), .tmp 38], none⟩])
                   (.cond (.tmp 39)
                    (.reg [⟨(some 40), .faddr 0, [.tmp 11], none⟩,
                        ⟨none, .store 1, [.tmp 40, .const (.int .i64 1)], none⟩])
                    .skip))
                  (.seq (.reg [⟨(some 41), .mv, [.tmp 8], none⟩,
                       ⟨(some 42), .mv, [.tmp 41], none⟩,
                       ⟨(some 43), .faddr 0, [.tmp 11], (some (42, true))⟩,
                       ⟨(some 44), .load false 1, [.tmp 43], (some (42, true))⟩,
                       ⟨(some 45), .bin .eql, [.tmp 44, .const (.int .i64 0)], (some (42, true))⟩,
                       ⟨(some 46), .pick, [.tmp 42, .tmp 45, .const (.bool false)], none⟩,
                       ⟨(some 8), .mv, [.tmp 46], none⟩])
                   (.seq (.dreg [⟨⟨(some 47), .faddr 0, [.tmp 11], none⟩, [], none⟩,
                        ⟨⟨(some 48), .load false 1, [.tmp 47], none⟩, [], none⟩,
                        ⟨⟨(some 49), .iaddr (some 4) 1, [.tmp 6, .tmp 48], none⟩, [], none⟩,
                        ⟨⟨(some 50), .load false 1, [.tmp 49], none⟩, [], none⟩,
                        ⟨⟨(some 51), .mv, [.tmp 5], none⟩, [], none⟩,
                        ⟨⟨(some 52), .load true 3, [.tmp 10], none⟩, [], none⟩,
                        ⟨⟨(some 53), .faddr 1, [.tmp 11], none⟩, [], none⟩,
                        ⟨⟨(some 54), .load false 1, [.tmp 53], none⟩, [], none⟩])
                    (.reg [⟨(some 55), .call, [.tmp 50, .tmp 51, .tmp 52, .tmp 54], none⟩])))))))))
            (.reg [⟨(some 56), .bin .add, [.tmp 19, .const (.int .i64 1)], none⟩,
                ⟨(some 19), .mv, [.tmp 56], none⟩])))))))
      (.seq (.reg [⟨(some 57), .faddr 0, [.tmp 2], none⟩,
           ⟨(some 58), .load false 1, [.tmp 57], none⟩,
           ⟨(some 59), .mv, [.tmp 5], none⟩,
           ⟨(some 60), .build [.lit (.int .i64 0), .sl true 0 (some 0) [], .sl true 0 (some 0) []] [(0, 1), (1, 1)], [.tmp 58, .tmp 59], none⟩,
           ⟨none, .store 3, [.tmp 4, .tmp 60], none⟩])
       .ret))))

theorem tab29 : tab 29 = some A29 := by unfold tab; kernel_rfl

/-- downspout/disk.Sync$1 -/
def A30 : AFn where
  isPure := true
  ntmps := 4
  res := [(2, some (true, 2))]
  body := (.seq (.reg [⟨(some 2), .new [.lit (.int .i64 0), .lit (.int .i64 0)], [], none⟩])
    (.seq (.reg [⟨(some 3), .build [.lit (.int .i64 0), .lit (.int .i64 0)] [(0, 1)], [.const (.int .i64 0)], none⟩,
         ⟨none, .store 2, [.tmp 2, .tmp 3], none⟩])
     .ret))

theorem tab30 : tab 30 = some A30 := by unfold tab; kernel_rfl

/-- downspout/disk.Crash$1 -/
def A32 : AFn where
  isPure := false
  ntmps := 13
  res := [(3, some (true, 2))]
  body := (.seq (.reg [⟨(some 3), .new [.lit (.int .i64 0), .lit (.int .i64 0)], [], none⟩])
    (.seq (.seq (.reg [⟨(some 4), .mv, [.tmp 0], none⟩,
          ⟨(some 5), .load false 1, [.tmp 1], none⟩,
          ⟨(some 6), .len false, [.tmp 5], none⟩,
          ⟨(some 7), .bin .geq, [.tmp 4, .tmp 6], none⟩])
      (.cond (.tmp 7)
       (.seq (.reg [⟨(some 8), .build [.lit (.int .i64 0), .lit (.int .i64 0)] [(0, 1)], [.const (.int .i64 1)], none⟩,
            ⟨none, .store 2, [.tmp 3, .tmp 8], none⟩])
        .ret)
       .skip))
     (.seq (.reg [⟨(some 9), .load false 1, [.tmp 1], none⟩,
          ⟨(some 10), .mv, [.tmp 0], none⟩,
          ⟨(some 11), .iaddr none 2, [.tmp 9, .tmp 10], none⟩,
          ⟨(some 12), .load true 2, [.tmp 11], none⟩,
          ⟨none, .store 2, [.tmp 3, .tmp 12], none⟩])
      .ret)))

theorem tab32 : tab 32 = some A32 := by unfold tab; kernel_rfl

/-- downspout/downspoutref23.cell -/
def A33 : AFn where
  isPure := true
  ntmps := 14
  res := [(4, none)]
  body := (.seq (.reg [⟨(some 2), .box, [.tmp 0], none⟩,
        ⟨(some 4), .mv, [.const (.bool false)], none⟩])
    (.seq (.reg [⟨(some 5), .mv, [.tmp 1], none⟩,
         ⟨(some 6), .bin .geq, [.tmp 5, .const (.int .i64 0)], none⟩,
         ⟨(some 7), .mv, [.tmp 6], none⟩,
         ⟨(some 8), .mv, [.tmp 1], (some (7, true))⟩,
         ⟨(some 9), .faddr 1, [.tmp 2], (some (7, true))⟩,
         ⟨(some 10), .load false 1, [.tmp 9], (some (7, true))⟩,
         ⟨(some 11), .len false, [.tmp 10], (some (7, true))⟩,
         ⟨(some 12), .bin .lss, [.tmp 8, .tmp 11], (some (7, true))⟩,
         ⟨(some 13), .pick, [.tmp 7, .tmp 12, .const (.bool false)], none⟩,
         ⟨(some 4), .mv, [.tmp 13], none⟩])
     .ret))

theorem tab33 : tab 33 = some A33 := by unfold tab; kernel_rfl

/-- downspout/downspoutref23.Fence -/
def A34 : AFn where
  isPure := true
  ntmps := 13
  res := [(2, some (true, 3))]
  body := (.seq (.reg [⟨(some 1), .box, [.tmp 0], none⟩,
        ⟨(some 2), .new [.lit (.int .i64 0), .sl true 0 (some 0) [], .sl true 0 (some 0) []], [], none⟩])
    (.seq (.reg [⟨(some 4), .load true 3, [.tmp 1], none⟩,
         ⟨(some 5), .call, [.func 36, .tmp 4], none⟩,
         ⟨(some 3), .new [.lit (.int .i64 0), .sl true 0 (some 0) [], .sl true 0 (some 0) []], [], none⟩,
         ⟨none, .store 3, [.tmp 3, .tmp 5], none⟩])
     (.seq (.reg [⟨(some 6), .faddr 2, [.tmp 3], none⟩,
          ⟨(some 7), .load false 1, [.tmp 6], none⟩,
          ⟨(some 8), .build [.lit (.bool false), .lit (.int .i64 0), .sl true 0 (some 0) []] [(0, 1)], [.const (.bool true)], none⟩,
          ⟨(some 9), .bslice 1 3 [.lit (.bool false), .lit (.int .i64 0), .sl true 0 (some 0) []] [(0, 3)], [.tmp 8], none⟩,
          ⟨(some 10), .append 3 40, [.tmp 7, .tmp 9], none⟩,
          ⟨(some 11), .faddr 2, [.tmp 3], none⟩,
          ⟨none, .store 1, [.tmp 11, .tmp 10], none⟩])
      (.seq (.reg [⟨(some 12), .load true 3, [.tmp 3], none⟩,
           ⟨none, .store 3, [.tmp 2, .tmp 12], none⟩])
       .ret))))

theorem tab34 : tab 34 = some A34 := by unfold tab; kernel_rfl

/-- downspout/downspoutref23.Put -/
def A35 : AFn where
  isPure := true
  ntmps := 34
  res := [(6, some (true, 3)), (7, none)]
  body := (.seq (.reg [⟨(some 3), .box, [.tmp 0], none⟩,
        ⟨(some 6), .new [.lit (.int .i64 0), .sl true 0 (some 0) [], .sl true 0 (some 0) []], [], none⟩,
        ⟨(some 7), .mv, [.const (.int .i64 0)], none⟩])
    (.seq (.seq (.reg [⟨(some 9), .load true 3, [.tmp 3], none⟩,
          ⟨(some 10), .mv, [.tmp 1], none⟩,
          ⟨(some 11), .call, [.func 33, .tmp 9, .tmp 10], none⟩,
          ⟨(some 12), .un .not, [.tmp 11], none⟩,
          ⟨(some 13), .mv, [.tmp 12], none⟩,
          ⟨(some 14), .mv, [.tmp 2], (some (13, false))⟩,
          ⟨(some 15), .len false, [.tmp 14], (some (13, false))⟩,
          ⟨(some 16), .faddr 0, [.tmp 3], (some (13, false))⟩,
          ⟨(some 17), .load false 1, [.tmp 16], (some (13, false))⟩,
          ⟨(some 18), .bin .gtr, [.tmp 15, .tmp 17], (some (13, false))⟩,
          ⟨(some 19), .pick, [.tmp 13, .const (.bool true), .tmp 18], none⟩])
      (.cond (.tmp 19)
       (.seq (.reg [⟨(some 20), .load true 3, [.tmp 3], none⟩,
            ⟨none, .store 3, [.tmp 6, .tmp 20], none⟩,
            ⟨(some 7), .mv, [.const (.int .i64 230)], none⟩])
        .ret)
       .skip))
     (.seq (.reg [⟨(some 21), .load true 3, [.tmp 3], none⟩,
          ⟨(some 22), .call, [.func 36, .tmp 21], none⟩,
          ⟨(some 8), .new [.lit (.int .i64 0), .sl true 0 (some 0) [], .sl true 0 (some 0) []], [], none⟩,
          ⟨none, .store 3, [.tmp 8, .tmp 22], none⟩])
      (.seq (.dreg [⟨⟨(some 23), .faddr 2, [.tmp 8], none⟩, [3, 5, 7], none⟩,
           ⟨⟨(some 24), .load false 1, [.tmp 23], none⟩, [3, 5, 7], none⟩,
           ⟨⟨(some 25), .mv, [.tmp 1], none⟩, [3, 5, 7], none⟩,
           ⟨⟨(some 26), .bslice 0 1 [] [], [], none⟩, [5, 7], none⟩,
           ⟨⟨(some 27), .mv, [.tmp 2], none⟩, [3, 5, 7], none⟩,
           ⟨⟨(some 28), .append 1 1, [.tmp 26, .tmp 27], none⟩, [7], (some [5, 3])⟩,
           ⟨⟨(some 29), .build [.lit (.bool false), .lit (.int .i64 0), .sl true 0 (some 0) []] [(1, 1), (2, 1)], [.tmp 25, .tmp 28], none⟩, [7], none⟩,
           ⟨⟨(some 30), .bslice 1 3 [.lit (.bool false), .lit (.int .i64 0), .sl true 0 (some 0) []] [(0, 3)], [.tmp 29], none⟩, [], none⟩,
           ⟨⟨(some 31), .append 3 40, [.tmp 24, .tmp 30], none⟩, [], none⟩,
           ⟨⟨(some 32), .faddr 2, [.tmp 8], none⟩, [], none⟩,
           ⟨⟨none, .store 1, [.tmp 32, .tmp 31], none⟩, [], none⟩])
       (.seq (.reg [⟨(some 33), .load true 3, [.tmp 8], none⟩,
            ⟨none, .store 3, [.tmp 6, .tmp 33], none⟩,
            ⟨(some 7), .mv, [.const (.int .i64 0)], none⟩])
        .ret)))))

theorem tab35 : tab 35 = some A35 := by unfold tab; kernel_rfl

/-- downspout/downspoutref23.Copied -/
def A36 : AFn where
  isPure := false
  ntmps := 14
  res := [(2, some (true, 3))]
  body := (.seq (.reg [⟨(some 1), .box, [.tmp 0], none⟩,
        ⟨(some 2), .new [.lit (.int .i64 0), .sl true 0 (some 0) [], .sl true 0 (some 0) []], [], none⟩])
    (.seq (.reg [⟨(some 3), .bslice 0 1 [] [], [], none⟩,
         ⟨(some 4), .faddr 1, [.tmp 1], none⟩,
         ⟨(some 5), .load false 1, [.tmp 4], none⟩,
         ⟨(some 6), .append 1 24, [.tmp 3, .tmp 5], none⟩,
         ⟨(some 7), .faddr 1, [.tmp 1], none⟩,
         ⟨none, .store 1, [.tmp 7, .tmp 6], none⟩])
     (.seq (.reg [⟨(some 8), .bslice 0 3 [] [], [], none⟩,
          ⟨(some 9), .faddr 2, [.tmp 1], none⟩,
          ⟨(some 10), .load false 1, [.tmp 9], none⟩,
          ⟨(some 11), .append 3 40, [.tmp 8, .tmp 10], none⟩,
          ⟨(some 12), .faddr 2, [.tmp 1], none⟩,
          ⟨none, .store 1, [.tmp 12, .tmp 11], none⟩])
      (.seq (.reg [⟨(some 13), .load true 3, [.tmp 1], none⟩,
           ⟨none, .store 3, [.tmp 2, .tmp 13], none⟩])
       .ret))))

theorem tab36 : tab 36 = some A36 := by unfold tab; kernel_rfl

/-- slices.Clone[[][]byte,[]byte] -/
def A37 : AFn where
  isPure := false
  ntmps := 8
  res := [(2, none)]
  body := (.seq (.reg [⟨(some 2), .mv, [.const (.slice none 0 0)], none⟩])
    (.seq (.seq (.reg [⟨(some 3), .mv, [.tmp 0], none⟩,
          ⟨(some 4), .snil false, [.tmp 3, .const (.slice none 0 0)], none⟩])
      (.cond (.tmp 4)
       (.seq (.reg [⟨(some 2), .mv, [.const (.slice none 0 0)], none⟩])
        .ret)
       .skip))
     (.seq (.reg [⟨(some 5), .bslice 0 1 [] [], [], none⟩,
          ⟨(some 6), .mv, [.tmp 0], none⟩,
          ⟨(some 7), .append 1 24, [.tmp 5, .tmp 6], none⟩,
          ⟨(some 2), .mv, [.tmp 7], none⟩])
      .ret)))

theorem tab37 : tab 37 = some A37 := by unfold tab; kernel_rfl

/-- downspout/disk.fates -/
def A39 : AFn where
  isPure := true
  ntmps := 2
  res := [(0, some (true, 4))]
  body := (.seq (.reg [⟨(some 0), .new [.lit .nilFunc, .lit .nilFunc, .lit .nilFunc, .lit .nilFunc], [], none⟩])
    (.seq (.reg [⟨(some 1), .build [.lit .nilFunc, .lit .nilFunc, .lit .nilFunc, .lit .nilFunc] [(0, 1), (1, 1), (2, 1), (3, 1)], [.func 41, .func 42, .func 43, .func 44], none⟩,
         ⟨none, .store 4, [.tmp 0, .tmp 1], none⟩])
     .ret))

theorem tab39 : tab 39 = some A39 := by unfold tab; kernel_rfl

/-- downspout/disk.fates$1 -/
def A41 : AFn where
  isPure := false
  ntmps := 12
  res := []
  body := (.seq (.reg [⟨(some 4), .box, [.tmp 1], none⟩])
    (.reg [⟨(some 6), .mv, [.tmp 0], none⟩,
        ⟨(some 7), .faddr 1, [.tmp 4], none⟩,
        ⟨(some 8), .load false 1, [.tmp 7], none⟩,
        ⟨(some 9), .faddr 2, [.tmp 4], none⟩,
        ⟨(some 10), .load false 1, [.tmp 9], none⟩,
        ⟨(some 11), .iaddr none 1, [.tmp 6, .tmp 8], none⟩,
        ⟨none, .store 1, [.tmp 11, .tmp 10], none⟩]))

theorem tab41 : tab 41 = some A41 := by unfold tab; kernel_rfl

/-- downspout/disk.fates$2 -/
def A42 : AFn where
  isPure := false
  ntmps := 6
  res := []
  body := (.reg [⟨(some 4), .box, [.tmp 1], none⟩])

theorem tab42 : tab 42 = some A42 := by unfold tab; kernel_rfl

/-- downspout/disk.fates$3 -/
def A43 : AFn where
  isPure := false
  ntmps := 38
  res := []
  body := (.seq (.reg [⟨(some 4), .box, [.tmp 1], none⟩])
    (.seq (.reg [⟨(some 8), .mv, [.tmp 2], none⟩,
         ⟨(some 9), .max, [.tmp 8, .const (.int .i64 0)], none⟩,
         ⟨(some 10), .faddr 2, [.tmp 4], none⟩,
         ⟨(some 11), .load false 1, [.tmp 10], none⟩,
         ⟨(some 12), .len false, [.tmp 11], none⟩,
         ⟨(some 13), .min, [.tmp 9, .tmp 12], none⟩,
         ⟨(some 2), .mv, [.tmp 13], none⟩])
     (.seq (.reg [⟨(some 14), .mv, [.tmp 0], none⟩,
          ⟨(some 15), .faddr 1, [.tmp 4], none⟩,
          ⟨(some 16), .load false 1, [.tmp 15], none⟩,
          ⟨(some 17), .iaddr none 1, [.tmp 14, .tmp 16], none⟩,
          ⟨(some 18), .load false 1, [.tmp 17], none⟩,
          ⟨(some 6), .mv, [.tmp 18], none⟩])
      (.seq (.reg [⟨(some 19), .mv, [.tmp 2], none⟩,
           ⟨(some 20), .mv, [.tmp 6], none⟩,
           ⟨(some 21), .len false, [.tmp 20], none⟩,
           ⟨(some 22), .max, [.tmp 19, .tmp 21], none⟩,
           ⟨(some 23), .mkslice 1 1 [.lit (.int .u8 0)], [.tmp 22, .tmp 22], none⟩,
           ⟨(some 7), .mv, [.tmp 23], none⟩])
       (.seq (.reg [⟨(some 24), .mv, [.tmp 7], none⟩,
            ⟨(some 25), .mv, [.tmp 6], none⟩,
            ⟨(some 26), .copy 1, [.tmp 24, .tmp 25], none⟩])
        (.seq (.reg [⟨(some 27), .mv, [.tmp 7], none⟩,
             ⟨(some 28), .faddr 2, [.tmp 4], none⟩,
             ⟨(some 29), .load false 1, [.tmp 28], none⟩,
             ⟨(some 30), .mv, [.tmp 2], none⟩,
             ⟨(some 31), .slice 1 false true false, [.tmp 29, .tmp 30], none⟩,
             ⟨(some 32), .copy 1, [.tmp 27, .tmp 31], none⟩])
         (.reg [⟨(some 33), .mv, [.tmp 0], none⟩,
             ⟨(some 34), .faddr 1, [.tmp 4], none⟩,
             ⟨(some 35), .load false 1, [.tmp 34], none⟩,
             ⟨(some 36), .mv, [.tmp 7], none⟩,
             ⟨(some 37), .iaddr none 1, [.tmp 33, .tmp 35], none⟩,
             ⟨none, .store 1, [.tmp 37, .tmp 36], none⟩])))))))

theorem tab43 : tab 43 = some A43 := by unfold tab; kernel_rfl

/-- downspout/disk.fates$4 -/
def A44 : AFn where
  isPure := false
  ntmps := 19
  res := []
  body := (.seq (.reg [⟨(some 4), .box, [.tmp 1], none⟩])
    (.seq (.reg [⟨(some 6), .mv, [.tmp 2], none⟩,
         ⟨(some 7), .bin .geq, [.tmp 6, .const (.int .i64 0)], none⟩,
         ⟨(some 8), .mv, [.tmp 7], none⟩,
         ⟨(some 9), .mv, [.tmp 2], (some (8, true))⟩,
         ⟨(some 10), .mv, [.tmp 0], (some (8, true))⟩,
         ⟨(some 11), .len false, [.tmp 10], (some (8, true))⟩,
         ⟨(some 12), .bin .lss, [.tmp 9, .tmp 11], (some (8, true))⟩,
         ⟨(some 13), .pick, [.tmp 8, .tmp 12, .const (.bool false)], none⟩])
     (.cond (.tmp 13)
      (.reg [⟨(some 14), .mv, [.tmp 0], none⟩,
          ⟨(some 15), .mv, [.tmp 2], none⟩,
          ⟨(some 16), .faddr 2, [.tmp 4], none⟩,
          ⟨(some 17), .load false 1, [.tmp 16], none⟩,
          ⟨(some 18), .iaddr none 1, [.tmp 14, .tmp 15], none⟩,
          ⟨none, .store 1, [.tmp 18, .tmp 17], none⟩])
      .skip)))

theorem tab44 : tab 44 = some A44 := by unfold tab; kernel_rfl

end Go.Ev
