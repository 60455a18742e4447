/- disk.Get: all inputs. -/
import Derived.Test.YtpjjloaphlaokaaGetB
namespace Go.Proofs.Dk
open Go Go.Proofs Go.RowKit Go.Shelf

attribute [local go_sem] Oper.semAt_some

set_option maxRecDepth 100000 in
set_option maxHeartbeats 4000000 in
theorem get_no_in (F : Fence) (n : Nat) (h14 : F.fn 14) (h26 : F.fn 26) (hro : F.round = none) (hn : 3 ≤ n) (sz : Int) (ac : Option Addr) (nc cc : Nat) (aq : Option Addr) (m c : Nat) (at_ : Int) (w : World) (h0 : at_ < 0 ∨ nc ≤ at_) :
    CallsIn F n Try.prog 14 #[.agg #[.int .i64 sz, .slice ac nc cc, .slice aq m c], .int .i64 at_] w fun e W' => e = .returned (.tuple #[.slice none 0 0, .int .i64 230]) ∧ Below w.heap.size w W' := by
  have hn1 : 1 ≤ n := by omega
  refine callsIn_of_wp Try.func14 rfl h14 ?_ hro
  simp only [Try.ntmps14, List.size_toArray, List.length_cons, List.length_nil, Nat.reduceAdd, Nat.reduceSub, Array.replicate_succ, Array.replicate_zero, List.push_toArray, List.append_toArray, List.nil_append, List.cons_append]
  gi_wp2_with (gi_at_call 26; refine (has_no F (n - 1) h26 hro _ _ _ _ _ _ _ _ _ h0).mono ?_; rintro e w' ⟨rfl, rfl⟩)
  have hB0 : Below w.heap.size w ((w.alloc (Obj.cells #[Value.int IntKind.i64 sz, Value.slice ac nc cc, Value.slice aq m c] 31))) := (Below.refl _ w).alloc (Nat.le_refl _) _
  refine bodyPost_ret (v := .tuple #[.slice none 0 0, .int .i64 230]) ?_ rfl ⟨rfl, ?_⟩
  · simp [results, Try.f14, go_sem]
  · exact ((((hB0.alloc (by simp) _).alloc (by simp; omega) _).alloc (by simp; omega) _).alloc (by simp; omega) _)
end Go.Proofs.Dk
