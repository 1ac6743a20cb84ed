/- Contracts: rows of numbers, of texts; parts. -/
import Derived.Test.YtlkglgdlnciicaaGreatDoorProg
import Derived.Test.YtlkglgdlnciicaaGreatDoorAmW9
import Derived.Test.YtlkglgdlnciicaaGreatDoorRD
import Derived.KernelRfl
set_option linter.all false
open Go Go.Am Go.Proofs
namespace Go.Am.T
set_option linter.unusedSimpArgs false
set_option linter.unusedVariables false
theorem fo31q2 : fieldOf Tryz.prog 31 2 = some (false, 0 + 1, 2) := by kernel_rfl
theorem ag25 : isAggT Tryz.prog 25 = some false := by kernel_rfl
theorem sz25 : szT Tryz.prog 25 = some 1 := by kernel_rfl
theorem nm25 : ∀ a b, Tryz.prog.underlying 25 ≠ some (.map a b) := by rw [Tryz.underlying25]; intro a b h; cases h
theorem fo31q3 : fieldOf Tryz.prog 31 3 = some (false, 0 + 1, 3) := by kernel_rfl
theorem ag26 : isAggT Tryz.prog 26 = some false := by kernel_rfl
theorem sz26 : szT Tryz.prog 26 = some 1 := by kernel_rfl
theorem nm26 : ∀ a b, Tryz.prog.underlying 26 ≠ some (.map a b) := by rw [Tryz.underlying26]; intro a b h; cases h
theorem sz36 : szT Tryz.prog 36 = some 2 := by kernel_rfl
theorem ag36 : isAggT Tryz.prog 36 = some true := by kernel_rfl
theorem fo31q0 : fieldOf Tryz.prog 31 0 = some (false, 0 + 1, 0) := by kernel_rfl
theorem ag22 : isAggT Tryz.prog 22 = some false := by kernel_rfl
theorem sz22 : szT Tryz.prog 22 = some 1 := by kernel_rfl
theorem fo31q1 : fieldOf Tryz.prog 31 1 = some (false, 0 + 1, 1) := by kernel_rfl
theorem ag24 : isAggT Tryz.prog 24 = some false := by kernel_rfl
theorem sz24 : szT Tryz.prog 24 = some 1 := by kernel_rfl
theorem fo31q4 : fieldOf Tryz.prog 31 4 = some (true, 2 + 1, 4) := by kernel_rfl
theorem fo29q0 : fieldOf Tryz.prog 29 0 = some (false, 0 + 1, 0) := by kernel_rfl
theorem ag3 : isAggT Tryz.prog 3 = some false := by kernel_rfl
theorem sz3 : szT Tryz.prog 3 = some 1 := by kernel_rfl
theorem fo29q1 : fieldOf Tryz.prog 29 1 = some (false, 0 + 1, 1) := by kernel_rfl
theorem fo29q2 : fieldOf Tryz.prog 29 2 = some (false, 0 + 1, 2) := by kernel_rfl
theorem ag27 : isAggT Tryz.prog 27 = some false := by kernel_rfl
theorem sz27 : szT Tryz.prog 27 = some 1 := by kernel_rfl
theorem ag31 : isAggT Tryz.prog 31 = some true := by kernel_rfl
theorem sz31 : szT Tryz.prog 31 = some 7 := by kernel_rfl
theorem fo36q0 : fieldOf Tryz.prog 36 0 = some (false, 0 + 1, 0) := by kernel_rfl
theorem fo36q1 : fieldOf Tryz.prog 36 1 = some (false, 0 + 1, 1) := by kernel_rfl
theorem ag34 : isAggT Tryz.prog 34 = some false := by kernel_rfl
theorem sz34 : szT Tryz.prog 34 = some 1 := by kernel_rfl
theorem nm34 : ∀ a b, Tryz.prog.underlying 34 ≠ some (.map a b) := by rw [Tryz.underlying34]; intro a b h; cases h
theorem sz74 : szT Tryz.prog 74 = some 2 := by kernel_rfl
theorem fo74q0 : fieldOf Tryz.prog 74 0 = some (false, 0 + 1, 0) := by kernel_rfl
theorem fo74q1 : fieldOf Tryz.prog 74 1 = some (false, 0 + 1, 1) := by kernel_rfl
theorem sz71 : szT Tryz.prog 71 = some 3 := by kernel_rfl
theorem ag71 : isAggT Tryz.prog 71 = some true := by kernel_rfl
theorem nm27 : ∀ a b, Tryz.prog.underlying 27 ≠ some (.map a b) := by rw [Tryz.underlying27]; intro a b h; cases h
theorem sz9 : szT Tryz.prog 9 = some 1 := by kernel_rfl
theorem ag9 : isAggT Tryz.prog 9 = some false := by kernel_rfl
theorem ag29 : isAggT Tryz.prog 29 = some true := by kernel_rfl
theorem sz29 : szT Tryz.prog 29 = some 3 := by kernel_rfl
theorem zc36 : zeroCellsT Tryz.prog 36 = some [.i .u64 0, .nilsl] := by kernel_rfl
theorem ag74 : isAggT Tryz.prog 74 = some true := by kernel_rfl
theorem zc74 : zeroCellsT Tryz.prog 74 = some [.i .i64 0, .nilsl] := by kernel_rfl
noncomputable def b3 : Code := (Tryz.f3.body).getD .skip
theorem hb3 : Tryz.f3.body = some (nthC b3 0) := by kernel_rfl
theorem c3q0 : nthC b3 0 = .seq (nthC b3 1) (nthC b3 2) := by kernel_rfl
theorem z3q1 : (opsC (nthC b3 1)).size = 3 := by kernel_rfl
theorem o3q1q0 : opAt (opsC (nthC b3 1)) 0 = some (some 2, (.box 31 (.tmp 0)), none) := by kernel_rfl
theorem o3q1q1 : opAt (opsC (nthC b3 1)) 1 = some (some 3, (.box 31 (.tmp 1)), none) := by kernel_rfl
theorem o3q1q2 : opAt (opsC (nthC b3 1)) 2 = some (some 4, (.assign (.const (.bool false))), none) := by kernel_rfl
theorem c3q1 : nthC b3 1 = .region 0 (opsC (nthC b3 1)) false := by kernel_rfl
theorem c3q2 : nthC b3 2 = .seq (nthC b3 3) (nthC b3 10) := by kernel_rfl
theorem c3q3 : nthC b3 3 = .seq (nthC b3 4) (nthC b3 5) := by kernel_rfl
theorem z3q4 : (opsC (nthC b3 4)).size = 2 := by kernel_rfl
theorem o3q4q0 : opAt (opsC (nthC b3 4)) 0 = some (some 8, (.call ⟨.value (.func 5), #[], #[]⟩), none) := by kernel_rfl
theorem o3q4q1 : opAt (opsC (nthC b3 4)) 1 = some (some 9, (.unOp .not 4 (.tmp 8)), none) := by kernel_rfl
theorem c3q4 : nthC b3 4 = .region 1 (opsC (nthC b3 4)) false := by kernel_rfl
theorem c3q5 : nthC b3 5 = .cond (.tmp 9) (nthC b3 6) (nthC b3 9) := by kernel_rfl
theorem c3q6 : nthC b3 6 = .seq (nthC b3 7) (nthC b3 8) := by kernel_rfl
theorem z3q7 : (opsC (nthC b3 7)).size = 1 := by kernel_rfl
theorem o3q7q0 : opAt (opsC (nthC b3 7)) 0 = some (some 4, (.assign (.const (.bool false))), none) := by kernel_rfl
theorem c3q7 : nthC b3 7 = .region 2 (opsC (nthC b3 7)) false := by kernel_rfl
theorem c3q8 : nthC b3 8 = .ret := by kernel_rfl
theorem c3q9 : nthC b3 9 = .skip := by kernel_rfl
theorem c3q10 : nthC b3 10 = .seq (nthC b3 11) (nthC b3 18) := by kernel_rfl
theorem c3q11 : nthC b3 11 = .seq (nthC b3 12) (nthC b3 13) := by kernel_rfl
theorem z3q12 : (opsC (nthC b3 12)).size = 22 := by kernel_rfl
theorem o3q12q0 : opAt (opsC (nthC b3 12)) 0 = some (some 10, (.fieldAddr 31 (.tmp 2) 2), none) := by kernel_rfl
theorem o3q12q1 : opAt (opsC (nthC b3 12)) 1 = some (some 11, (.load 25 (.tmp 10)), none) := by kernel_rfl
theorem o3q12q2 : opAt (opsC (nthC b3 12)) 2 = some (some 12, (.call ⟨.builtin .len, #[(.tmp 11)], #[25]⟩), none) := by kernel_rfl
theorem o3q12q3 : opAt (opsC (nthC b3 12)) 3 = some (some 13, (.binOp .gtr 3 (.tmp 12) (.const (.int .i64 20)) 3), none) := by kernel_rfl
theorem o3q12q4 : opAt (opsC (nthC b3 12)) 4 = some (some 14, (.move (.tmp 13)), none) := by kernel_rfl
theorem o3q12q5 : opAt (opsC (nthC b3 12)) 5 = some (some 15, (.fieldAddr 31 (.tmp 3) 2), some (4, false)) := by kernel_rfl
theorem d3q12q4 : (opAt (opsC (nthC b3 12)) 4).bind (·.1) = some 14 := by kernel_rfl
theorem o3q12q6 : opAt (opsC (nthC b3 12)) 6 = some (some 16, (.load 25 (.tmp 15)), some (4, false)) := by kernel_rfl
theorem o3q12q7 : opAt (opsC (nthC b3 12)) 7 = some (some 17, (.call ⟨.builtin .len, #[(.tmp 16)], #[25]⟩), some (4, false)) := by kernel_rfl
theorem o3q12q8 : opAt (opsC (nthC b3 12)) 8 = some (some 18, (.binOp .gtr 3 (.tmp 17) (.const (.int .i64 20)) 3), some (4, false)) := by kernel_rfl
theorem o3q12q9 : opAt (opsC (nthC b3 12)) 9 = some (some 19, (.pick (.tmp 14) (.const (.bool true)) (.tmp 18)), none) := by kernel_rfl
theorem o3q12q10 : opAt (opsC (nthC b3 12)) 10 = some (some 20, (.move (.tmp 19)), none) := by kernel_rfl
theorem o3q12q11 : opAt (opsC (nthC b3 12)) 11 = some (some 21, (.fieldAddr 31 (.tmp 2) 3), some (10, false)) := by kernel_rfl
theorem d3q12q10 : (opAt (opsC (nthC b3 12)) 10).bind (·.1) = some 20 := by kernel_rfl
theorem o3q12q12 : opAt (opsC (nthC b3 12)) 12 = some (some 22, (.load 26 (.tmp 21)), some (10, false)) := by kernel_rfl
theorem o3q12q13 : opAt (opsC (nthC b3 12)) 13 = some (some 23, (.call ⟨.builtin .len, #[(.tmp 22)], #[26]⟩), some (10, false)) := by kernel_rfl
theorem o3q12q14 : opAt (opsC (nthC b3 12)) 14 = some (some 24, (.binOp .gtr 3 (.tmp 23) (.const (.int .i64 10)) 3), some (10, false)) := by kernel_rfl
theorem o3q12q15 : opAt (opsC (nthC b3 12)) 15 = some (some 25, (.pick (.tmp 20) (.const (.bool true)) (.tmp 24)), none) := by kernel_rfl
theorem o3q12q16 : opAt (opsC (nthC b3 12)) 16 = some (some 26, (.move (.tmp 25)), none) := by kernel_rfl
theorem o3q12q17 : opAt (opsC (nthC b3 12)) 17 = some (some 27, (.fieldAddr 31 (.tmp 3) 3), some (16, false)) := by kernel_rfl
theorem d3q12q16 : (opAt (opsC (nthC b3 12)) 16).bind (·.1) = some 26 := by kernel_rfl
theorem o3q12q18 : opAt (opsC (nthC b3 12)) 18 = some (some 28, (.load 26 (.tmp 27)), some (16, false)) := by kernel_rfl
theorem o3q12q19 : opAt (opsC (nthC b3 12)) 19 = some (some 29, (.call ⟨.builtin .len, #[(.tmp 28)], #[26]⟩), some (16, false)) := by kernel_rfl
theorem o3q12q20 : opAt (opsC (nthC b3 12)) 20 = some (some 30, (.binOp .gtr 3 (.tmp 29) (.const (.int .i64 10)) 3), some (16, false)) := by kernel_rfl
theorem o3q12q21 : opAt (opsC (nthC b3 12)) 21 = some (some 31, (.pick (.tmp 26) (.const (.bool true)) (.tmp 30)), none) := by kernel_rfl
theorem c3q12 : nthC b3 12 = .region 3 (opsC (nthC b3 12)) false := by kernel_rfl
theorem c3q13 : nthC b3 13 = .cond (.tmp 31) (nthC b3 14) (nthC b3 17) := by kernel_rfl
theorem c3q14 : nthC b3 14 = .seq (nthC b3 15) (nthC b3 16) := by kernel_rfl
theorem z3q15 : (opsC (nthC b3 15)).size = 1 := by kernel_rfl
theorem o3q15q0 : opAt (opsC (nthC b3 15)) 0 = some (some 4, (.assign (.const (.bool true))), none) := by kernel_rfl
theorem c3q15 : nthC b3 15 = .region 4 (opsC (nthC b3 15)) false := by kernel_rfl
theorem c3q16 : nthC b3 16 = .ret := by kernel_rfl
theorem c3q17 : nthC b3 17 = .skip := by kernel_rfl
theorem c3q18 : nthC b3 18 = .seq (nthC b3 19) (nthC b3 20) := by kernel_rfl
theorem z3q19 : (opsC (nthC b3 19)).size = 8 := by kernel_rfl
theorem o3q19q0 : opAt (opsC (nthC b3 19)) 0 = some (some 32, (.fieldAddr 31 (.tmp 2) 3), none) := by kernel_rfl
theorem o3q19q1 : opAt (opsC (nthC b3 19)) 1 = some (some 33, (.load 26 (.tmp 32)), none) := by kernel_rfl
theorem o3q19q2 : opAt (opsC (nthC b3 19)) 2 = some (some 34, (.call ⟨.builtin .len, #[(.tmp 33)], #[26]⟩), none) := by kernel_rfl
theorem o3q19q3 : opAt (opsC (nthC b3 19)) 3 = some (some 35, (.fieldAddr 31 (.tmp 3) 3), none) := by kernel_rfl
theorem o3q19q4 : opAt (opsC (nthC b3 19)) 4 = some (some 36, (.load 26 (.tmp 35)), none) := by kernel_rfl
theorem o3q19q5 : opAt (opsC (nthC b3 19)) 5 = some (some 37, (.call ⟨.builtin .len, #[(.tmp 36)], #[26]⟩), none) := by kernel_rfl
theorem o3q19q6 : opAt (opsC (nthC b3 19)) 6 = some (some 38, (.binOp .eql 3 (.tmp 34) (.tmp 37) 3), none) := by kernel_rfl
theorem o3q19q7 : opAt (opsC (nthC b3 19)) 7 = some (some 5, (.assign (.tmp 38)), none) := by kernel_rfl
theorem c3q19 : nthC b3 19 = .region 5 (opsC (nthC b3 19)) false := by kernel_rfl
theorem c3q20 : nthC b3 20 = .seq (nthC b3 21) (nthC b3 35) := by kernel_rfl
theorem c3q21 : nthC b3 21 = .seq (nthC b3 22) (nthC b3 23) := by kernel_rfl
theorem z3q22 : (opsC (nthC b3 22)).size = 1 := by kernel_rfl
theorem o3q22q0 : opAt (opsC (nthC b3 22)) 0 = some (some 6, (.assign (.const (.int .i64 0))), none) := by kernel_rfl
theorem c3q22 : nthC b3 22 = .region 6 (opsC (nthC b3 22)) false := by kernel_rfl
theorem c3q23 : nthC b3 23 = .block 0 (nthC b3 24) := by kernel_rfl
theorem c3q24 : nthC b3 24 = .loop (nthC b3 25) := by kernel_rfl
theorem c3q25 : nthC b3 25 = .seq (nthC b3 26) (nthC b3 31) := by kernel_rfl
theorem c3q26 : nthC b3 26 = .seq (nthC b3 27) (nthC b3 28) := by kernel_rfl
theorem z3q27 : (opsC (nthC b3 27)).size = 8 := by kernel_rfl
theorem o3q27q0 : opAt (opsC (nthC b3 27)) 0 = some (some 39, (.move (.tmp 5)), none) := by kernel_rfl
theorem o3q27q1 : opAt (opsC (nthC b3 27)) 1 = some (some 40, (.move (.tmp 39)), none) := by kernel_rfl
theorem o3q27q2 : opAt (opsC (nthC b3 27)) 2 = some (some 41, (.move (.tmp 6)), some (1, true)) := by kernel_rfl
theorem d3q27q1 : (opAt (opsC (nthC b3 27)) 1).bind (·.1) = some 40 := by kernel_rfl
theorem o3q27q3 : opAt (opsC (nthC b3 27)) 3 = some (some 42, (.fieldAddr 31 (.tmp 2) 3), some (1, true)) := by kernel_rfl
theorem o3q27q4 : opAt (opsC (nthC b3 27)) 4 = some (some 43, (.load 26 (.tmp 42)), some (1, true)) := by kernel_rfl
theorem o3q27q5 : opAt (opsC (nthC b3 27)) 5 = some (some 44, (.call ⟨.builtin .len, #[(.tmp 43)], #[26]⟩), some (1, true)) := by kernel_rfl
theorem o3q27q6 : opAt (opsC (nthC b3 27)) 6 = some (some 45, (.binOp .lss 3 (.tmp 41) (.tmp 44) 3), some (1, true)) := by kernel_rfl
theorem o3q27q7 : opAt (opsC (nthC b3 27)) 7 = some (some 46, (.pick (.tmp 40) (.tmp 45) (.const (.bool false))), none) := by kernel_rfl
theorem c3q27 : nthC b3 27 = .region 7 (opsC (nthC b3 27)) false := by kernel_rfl
theorem c3q28 : nthC b3 28 = .cond (.tmp 46) (nthC b3 29) (nthC b3 30) := by kernel_rfl
theorem c3q29 : nthC b3 29 = .skip := by kernel_rfl
theorem c3q30 : nthC b3 30 = .exit 0 := by kernel_rfl
theorem c3q31 : nthC b3 31 = .seq (nthC b3 32) (nthC b3 34) := by kernel_rfl
theorem c3q32 : nthC b3 32 = .block 1 (nthC b3 33) := by kernel_rfl
theorem z3q33 : (opsC (nthC b3 33)).size = 12 := by kernel_rfl
theorem o3q33q0 : opAt (opsC (nthC b3 33)) 0 = some (some 49, (.fieldAddr 31 (.tmp 2) 3), none) := by kernel_rfl
theorem o3q33q1 : opAt (opsC (nthC b3 33)) 1 = some (some 50, (.load 26 (.tmp 49)), none) := by kernel_rfl
theorem o3q33q2 : opAt (opsC (nthC b3 33)) 2 = some (some 51, (.move (.tmp 6)), none) := by kernel_rfl
theorem o3q33q3 : opAt (opsC (nthC b3 33)) 3 = some (some 52, (.indexAddr 26 (.tmp 50) (.tmp 51)), none) := by kernel_rfl
theorem o3q33q4 : opAt (opsC (nthC b3 33)) 4 = some (some 53, (.load 36 (.tmp 52)), none) := by kernel_rfl
theorem o3q33q5 : opAt (opsC (nthC b3 33)) 5 = some (some 54, (.fieldAddr 31 (.tmp 3) 3), none) := by kernel_rfl
theorem o3q33q6 : opAt (opsC (nthC b3 33)) 6 = some (some 55, (.load 26 (.tmp 54)), none) := by kernel_rfl
theorem o3q33q7 : opAt (opsC (nthC b3 33)) 7 = some (some 56, (.move (.tmp 6)), none) := by kernel_rfl
theorem o3q33q8 : opAt (opsC (nthC b3 33)) 8 = some (some 57, (.indexAddr 26 (.tmp 55) (.tmp 56)), none) := by kernel_rfl
theorem o3q33q9 : opAt (opsC (nthC b3 33)) 9 = some (some 58, (.load 36 (.tmp 57)), none) := by kernel_rfl
theorem o3q33q10 : opAt (opsC (nthC b3 33)) 10 = some (some 59, (.call ⟨.value (.func 6), #[(.tmp 53), (.tmp 58)], #[36, 36]⟩), none) := by kernel_rfl
theorem o3q33q11 : opAt (opsC (nthC b3 33)) 11 = some (some 5, (.assign (.tmp 59)), none) := by kernel_rfl
theorem c3q33 : nthC b3 33 = .region 9 (opsC (nthC b3 33)) true := by kernel_rfl
theorem z3q34 : (opsC (nthC b3 34)).size = 3 := by kernel_rfl
theorem o3q34q0 : opAt (opsC (nthC b3 34)) 0 = some (some 47, (.move (.tmp 6)), none) := by kernel_rfl
theorem o3q34q1 : opAt (opsC (nthC b3 34)) 1 = some (some 48, (.binOp .add 3 (.tmp 47) (.const (.int .i64 1)) 3), none) := by kernel_rfl
theorem o3q34q2 : opAt (opsC (nthC b3 34)) 2 = some (some 6, (.assign (.tmp 48)), none) := by kernel_rfl
theorem c3q34 : nthC b3 34 = .region 8 (opsC (nthC b3 34)) false := by kernel_rfl
theorem c3q35 : nthC b3 35 = .seq (nthC b3 36) (nthC b3 37) := by kernel_rfl
theorem z3q36 : (opsC (nthC b3 36)).size = 50 := by kernel_rfl
theorem o3q36q0 : opAt (opsC (nthC b3 36)) 0 = some (some 60, (.fieldAddr 31 (.tmp 2) 0), none) := by kernel_rfl
theorem o3q36q1 : opAt (opsC (nthC b3 36)) 1 = some (some 61, (.load 22 (.tmp 60)), none) := by kernel_rfl
theorem o3q36q2 : opAt (opsC (nthC b3 36)) 2 = some (some 62, (.fieldAddr 31 (.tmp 3) 0), none) := by kernel_rfl
theorem o3q36q3 : opAt (opsC (nthC b3 36)) 3 = some (some 63, (.load 22 (.tmp 62)), none) := by kernel_rfl
theorem o3q36q4 : opAt (opsC (nthC b3 36)) 4 = some (some 64, (.binOp .eql 22 (.tmp 61) (.tmp 63) 22), none) := by kernel_rfl
theorem o3q36q5 : opAt (opsC (nthC b3 36)) 5 = some (some 65, (.move (.tmp 64)), none) := by kernel_rfl
theorem o3q36q6 : opAt (opsC (nthC b3 36)) 6 = some (some 66, (.fieldAddr 31 (.tmp 2) 1), some (5, true)) := by kernel_rfl
theorem d3q36q5 : (opAt (opsC (nthC b3 36)) 5).bind (·.1) = some 65 := by kernel_rfl
theorem o3q36q7 : opAt (opsC (nthC b3 36)) 7 = some (some 67, (.load 24 (.tmp 66)), some (5, true)) := by kernel_rfl
theorem o3q36q8 : opAt (opsC (nthC b3 36)) 8 = some (some 68, (.fieldAddr 31 (.tmp 3) 1), some (5, true)) := by kernel_rfl
theorem o3q36q9 : opAt (opsC (nthC b3 36)) 9 = some (some 69, (.load 24 (.tmp 68)), some (5, true)) := by kernel_rfl
theorem o3q36q10 : opAt (opsC (nthC b3 36)) 10 = some (some 70, (.binOp .eql 24 (.tmp 67) (.tmp 69) 24), some (5, true)) := by kernel_rfl
theorem o3q36q11 : opAt (opsC (nthC b3 36)) 11 = some (some 71, (.pick (.tmp 65) (.tmp 70) (.const (.bool false))), none) := by kernel_rfl
theorem o3q36q12 : opAt (opsC (nthC b3 36)) 12 = some (some 72, (.move (.tmp 71)), none) := by kernel_rfl
theorem o3q36q13 : opAt (opsC (nthC b3 36)) 13 = some (some 73, (.fieldAddr 31 (.tmp 2) 2), some (12, true)) := by kernel_rfl
theorem d3q36q12 : (opAt (opsC (nthC b3 36)) 12).bind (·.1) = some 72 := by kernel_rfl
theorem o3q36q14 : opAt (opsC (nthC b3 36)) 14 = some (some 74, (.load 25 (.tmp 73)), some (12, true)) := by kernel_rfl
theorem o3q36q15 : opAt (opsC (nthC b3 36)) 15 = some (some 75, (.fieldAddr 31 (.tmp 3) 2), some (12, true)) := by kernel_rfl
theorem o3q36q16 : opAt (opsC (nthC b3 36)) 16 = some (some 76, (.load 25 (.tmp 75)), some (12, true)) := by kernel_rfl
theorem o3q36q17 : opAt (opsC (nthC b3 36)) 17 = some (some 77, (.call ⟨.value (.func 7), #[(.tmp 74), (.tmp 76)], #[25, 25]⟩), some (12, true)) := by kernel_rfl
theorem o3q36q18 : opAt (opsC (nthC b3 36)) 18 = some (some 78, (.pick (.tmp 72) (.tmp 77) (.const (.bool false))), none) := by kernel_rfl
theorem o3q36q19 : opAt (opsC (nthC b3 36)) 19 = some (some 79, (.move (.tmp 78)), none) := by kernel_rfl
theorem o3q36q20 : opAt (opsC (nthC b3 36)) 20 = some (some 80, (.move (.tmp 5)), some (19, true)) := by kernel_rfl
theorem d3q36q19 : (opAt (opsC (nthC b3 36)) 19).bind (·.1) = some 79 := by kernel_rfl
theorem o3q36q21 : opAt (opsC (nthC b3 36)) 21 = some (some 81, (.pick (.tmp 79) (.tmp 80) (.const (.bool false))), none) := by kernel_rfl
theorem o3q36q22 : opAt (opsC (nthC b3 36)) 22 = some (some 82, (.move (.tmp 81)), none) := by kernel_rfl
theorem o3q36q23 : opAt (opsC (nthC b3 36)) 23 = some (some 83, (.fieldAddr 31 (.tmp 2) 4), some (22, true)) := by kernel_rfl
theorem d3q36q22 : (opAt (opsC (nthC b3 36)) 22).bind (·.1) = some 82 := by kernel_rfl
theorem o3q36q24 : opAt (opsC (nthC b3 36)) 24 = some (some 84, (.fieldAddr 29 (.tmp 83) 0), some (22, true)) := by kernel_rfl
theorem o3q36q25 : opAt (opsC (nthC b3 36)) 25 = some (some 85, (.load 3 (.tmp 84)), some (22, true)) := by kernel_rfl
theorem o3q36q26 : opAt (opsC (nthC b3 36)) 26 = some (some 86, (.fieldAddr 31 (.tmp 3) 4), some (22, true)) := by kernel_rfl
theorem o3q36q27 : opAt (opsC (nthC b3 36)) 27 = some (some 87, (.fieldAddr 29 (.tmp 86) 0), some (22, true)) := by kernel_rfl
theorem o3q36q28 : opAt (opsC (nthC b3 36)) 28 = some (some 88, (.load 3 (.tmp 87)), some (22, true)) := by kernel_rfl
theorem o3q36q29 : opAt (opsC (nthC b3 36)) 29 = some (some 89, (.binOp .eql 3 (.tmp 85) (.tmp 88) 3), some (22, true)) := by kernel_rfl
theorem o3q36q30 : opAt (opsC (nthC b3 36)) 30 = some (some 90, (.pick (.tmp 82) (.tmp 89) (.const (.bool false))), none) := by kernel_rfl
theorem o3q36q31 : opAt (opsC (nthC b3 36)) 31 = some (some 91, (.move (.tmp 90)), none) := by kernel_rfl
theorem o3q36q32 : opAt (opsC (nthC b3 36)) 32 = some (some 92, (.fieldAddr 31 (.tmp 2) 4), some (31, true)) := by kernel_rfl
theorem d3q36q31 : (opAt (opsC (nthC b3 36)) 31).bind (·.1) = some 91 := by kernel_rfl
theorem o3q36q33 : opAt (opsC (nthC b3 36)) 33 = some (some 93, (.fieldAddr 29 (.tmp 92) 1), some (31, true)) := by kernel_rfl
theorem o3q36q34 : opAt (opsC (nthC b3 36)) 34 = some (some 94, (.load 3 (.tmp 93)), some (31, true)) := by kernel_rfl
theorem o3q36q35 : opAt (opsC (nthC b3 36)) 35 = some (some 95, (.fieldAddr 31 (.tmp 3) 4), some (31, true)) := by kernel_rfl
theorem o3q36q36 : opAt (opsC (nthC b3 36)) 36 = some (some 96, (.fieldAddr 29 (.tmp 95) 1), some (31, true)) := by kernel_rfl
theorem o3q36q37 : opAt (opsC (nthC b3 36)) 37 = some (some 97, (.load 3 (.tmp 96)), some (31, true)) := by kernel_rfl
theorem o3q36q38 : opAt (opsC (nthC b3 36)) 38 = some (some 98, (.binOp .eql 3 (.tmp 94) (.tmp 97) 3), some (31, true)) := by kernel_rfl
theorem o3q36q39 : opAt (opsC (nthC b3 36)) 39 = some (some 99, (.pick (.tmp 91) (.tmp 98) (.const (.bool false))), none) := by kernel_rfl
theorem o3q36q40 : opAt (opsC (nthC b3 36)) 40 = some (some 100, (.move (.tmp 99)), none) := by kernel_rfl
theorem o3q36q41 : opAt (opsC (nthC b3 36)) 41 = some (some 101, (.fieldAddr 31 (.tmp 2) 4), some (40, true)) := by kernel_rfl
theorem d3q36q40 : (opAt (opsC (nthC b3 36)) 40).bind (·.1) = some 100 := by kernel_rfl
theorem o3q36q42 : opAt (opsC (nthC b3 36)) 42 = some (some 102, (.fieldAddr 29 (.tmp 101) 2), some (40, true)) := by kernel_rfl
theorem o3q36q43 : opAt (opsC (nthC b3 36)) 43 = some (some 103, (.load 27 (.tmp 102)), some (40, true)) := by kernel_rfl
theorem o3q36q44 : opAt (opsC (nthC b3 36)) 44 = some (some 104, (.fieldAddr 31 (.tmp 3) 4), some (40, true)) := by kernel_rfl
theorem o3q36q45 : opAt (opsC (nthC b3 36)) 45 = some (some 105, (.fieldAddr 29 (.tmp 104) 2), some (40, true)) := by kernel_rfl
theorem o3q36q46 : opAt (opsC (nthC b3 36)) 46 = some (some 106, (.load 27 (.tmp 105)), some (40, true)) := by kernel_rfl
theorem o3q36q47 : opAt (opsC (nthC b3 36)) 47 = some (some 107, (.call ⟨.value (.func 8), #[(.tmp 103), (.tmp 106)], #[27, 27]⟩), some (40, true)) := by kernel_rfl
theorem o3q36q48 : opAt (opsC (nthC b3 36)) 48 = some (some 108, (.pick (.tmp 100) (.tmp 107) (.const (.bool false))), none) := by kernel_rfl
theorem o3q36q49 : opAt (opsC (nthC b3 36)) 49 = some (some 7, (.assign (.tmp 108)), none) := by kernel_rfl
theorem c3q36 : nthC b3 36 = .region 10 (opsC (nthC b3 36)) false := by kernel_rfl
theorem c3q37 : nthC b3 37 = .seq (nthC b3 38) (nthC b3 39) := by kernel_rfl
theorem z3q38 : (opsC (nthC b3 38)).size = 6 := by kernel_rfl
theorem o3q38q0 : opAt (opsC (nthC b3 38)) 0 = some (some 109, (.load 31 (.tmp 2)), none) := by kernel_rfl
theorem o3q38q1 : opAt (opsC (nthC b3 38)) 1 = some (some 110, (.load 31 (.tmp 3)), none) := by kernel_rfl
theorem o3q38q2 : opAt (opsC (nthC b3 38)) 2 = some (some 111, (.call ⟨.value (.func 9), #[(.tmp 109), (.tmp 110)], #[31, 31]⟩), none) := by kernel_rfl
theorem o3q38q3 : opAt (opsC (nthC b3 38)) 3 = some (some 112, (.move (.tmp 7)), none) := by kernel_rfl
theorem o3q38q4 : opAt (opsC (nthC b3 38)) 4 = some (some 113, (.binOp .eql 4 (.tmp 111) (.tmp 112) 4), none) := by kernel_rfl
theorem o3q38q5 : opAt (opsC (nthC b3 38)) 5 = some (some 4, (.assign (.tmp 113)), none) := by kernel_rfl
theorem c3q38 : nthC b3 38 = .region 11 (opsC (nthC b3 38)) false := by kernel_rfl
theorem c3q39 : nthC b3 39 = .ret := by kernel_rfl
noncomputable def b6 : Code := (Tryz.f6.body).getD .skip
theorem hb6 : Tryz.f6.body = some (nthC b6 0) := by kernel_rfl
theorem c6q0 : nthC b6 0 = .seq (nthC b6 1) (nthC b6 2) := by kernel_rfl
theorem z6q1 : (opsC (nthC b6 1)).size = 3 := by kernel_rfl
theorem o6q1q0 : opAt (opsC (nthC b6 1)) 0 = some (some 2, (.box 36 (.tmp 0)), none) := by kernel_rfl
theorem o6q1q1 : opAt (opsC (nthC b6 1)) 1 = some (some 3, (.box 36 (.tmp 1)), none) := by kernel_rfl
theorem o6q1q2 : opAt (opsC (nthC b6 1)) 2 = some (some 4, (.assign (.const (.bool false))), none) := by kernel_rfl
theorem c6q1 : nthC b6 1 = .region 0 (opsC (nthC b6 1)) false := by kernel_rfl
theorem c6q2 : nthC b6 2 = .seq (nthC b6 3) (nthC b6 10) := by kernel_rfl
theorem c6q3 : nthC b6 3 = .seq (nthC b6 4) (nthC b6 5) := by kernel_rfl
theorem z6q4 : (opsC (nthC b6 4)).size = 14 := by kernel_rfl
theorem o6q4q0 : opAt (opsC (nthC b6 4)) 0 = some (some 6, (.fieldAddr 36 (.tmp 2) 0), none) := by kernel_rfl
theorem o6q4q1 : opAt (opsC (nthC b6 4)) 1 = some (some 7, (.load 24 (.tmp 6)), none) := by kernel_rfl
theorem o6q4q2 : opAt (opsC (nthC b6 4)) 2 = some (some 8, (.fieldAddr 36 (.tmp 3) 0), none) := by kernel_rfl
theorem o6q4q3 : opAt (opsC (nthC b6 4)) 3 = some (some 9, (.load 24 (.tmp 8)), none) := by kernel_rfl
theorem o6q4q4 : opAt (opsC (nthC b6 4)) 4 = some (some 10, (.binOp .neq 24 (.tmp 7) (.tmp 9) 24), none) := by kernel_rfl
theorem o6q4q5 : opAt (opsC (nthC b6 4)) 5 = some (some 11, (.move (.tmp 10)), none) := by kernel_rfl
theorem o6q4q6 : opAt (opsC (nthC b6 4)) 6 = some (some 12, (.fieldAddr 36 (.tmp 2) 1), some (5, false)) := by kernel_rfl
theorem d6q4q5 : (opAt (opsC (nthC b6 4)) 5).bind (·.1) = some 11 := by kernel_rfl
theorem o6q4q7 : opAt (opsC (nthC b6 4)) 7 = some (some 13, (.load 34 (.tmp 12)), some (5, false)) := by kernel_rfl
theorem o6q4q8 : opAt (opsC (nthC b6 4)) 8 = some (some 14, (.call ⟨.builtin .len, #[(.tmp 13)], #[34]⟩), some (5, false)) := by kernel_rfl
theorem o6q4q9 : opAt (opsC (nthC b6 4)) 9 = some (some 15, (.fieldAddr 36 (.tmp 3) 1), some (5, false)) := by kernel_rfl
theorem o6q4q10 : opAt (opsC (nthC b6 4)) 10 = some (some 16, (.load 34 (.tmp 15)), some (5, false)) := by kernel_rfl
theorem o6q4q11 : opAt (opsC (nthC b6 4)) 11 = some (some 17, (.call ⟨.builtin .len, #[(.tmp 16)], #[34]⟩), some (5, false)) := by kernel_rfl
theorem o6q4q12 : opAt (opsC (nthC b6 4)) 12 = some (some 18, (.binOp .neq 3 (.tmp 14) (.tmp 17) 3), some (5, false)) := by kernel_rfl
theorem o6q4q13 : opAt (opsC (nthC b6 4)) 13 = some (some 19, (.pick (.tmp 11) (.const (.bool true)) (.tmp 18)), none) := by kernel_rfl
theorem c6q4 : nthC b6 4 = .region 1 (opsC (nthC b6 4)) false := by kernel_rfl
theorem c6q5 : nthC b6 5 = .cond (.tmp 19) (nthC b6 6) (nthC b6 9) := by kernel_rfl
theorem c6q6 : nthC b6 6 = .seq (nthC b6 7) (nthC b6 8) := by kernel_rfl
theorem z6q7 : (opsC (nthC b6 7)).size = 1 := by kernel_rfl
theorem o6q7q0 : opAt (opsC (nthC b6 7)) 0 = some (some 4, (.assign (.const (.bool false))), none) := by kernel_rfl
theorem c6q7 : nthC b6 7 = .region 2 (opsC (nthC b6 7)) false := by kernel_rfl
theorem c6q8 : nthC b6 8 = .ret := by kernel_rfl
theorem c6q9 : nthC b6 9 = .skip := by kernel_rfl
theorem c6q10 : nthC b6 10 = .seq (nthC b6 11) (nthC b6 31) := by kernel_rfl
theorem c6q11 : nthC b6 11 = .seq (nthC b6 12) (nthC b6 13) := by kernel_rfl
theorem z6q12 : (opsC (nthC b6 12)).size = 1 := by kernel_rfl
theorem o6q12q0 : opAt (opsC (nthC b6 12)) 0 = some (some 5, (.assign (.const (.int .i64 0))), none) := by kernel_rfl
theorem c6q12 : nthC b6 12 = .region 3 (opsC (nthC b6 12)) false := by kernel_rfl
theorem c6q13 : nthC b6 13 = .block 0 (nthC b6 14) := by kernel_rfl
theorem c6q14 : nthC b6 14 = .loop (nthC b6 15) := by kernel_rfl
theorem c6q15 : nthC b6 15 = .seq (nthC b6 16) (nthC b6 21) := by kernel_rfl
theorem c6q16 : nthC b6 16 = .seq (nthC b6 17) (nthC b6 18) := by kernel_rfl
theorem z6q17 : (opsC (nthC b6 17)).size = 5 := by kernel_rfl
theorem o6q17q0 : opAt (opsC (nthC b6 17)) 0 = some (some 20, (.move (.tmp 5)), none) := by kernel_rfl
theorem o6q17q1 : opAt (opsC (nthC b6 17)) 1 = some (some 21, (.fieldAddr 36 (.tmp 2) 1), none) := by kernel_rfl
theorem o6q17q2 : opAt (opsC (nthC b6 17)) 2 = some (some 22, (.load 34 (.tmp 21)), none) := by kernel_rfl
theorem o6q17q3 : opAt (opsC (nthC b6 17)) 3 = some (some 23, (.call ⟨.builtin .len, #[(.tmp 22)], #[34]⟩), none) := by kernel_rfl
theorem o6q17q4 : opAt (opsC (nthC b6 17)) 4 = some (some 24, (.binOp .lss 3 (.tmp 20) (.tmp 23) 3), none) := by kernel_rfl
theorem c6q17 : nthC b6 17 = .region 4 (opsC (nthC b6 17)) false := by kernel_rfl
theorem c6q18 : nthC b6 18 = .cond (.tmp 24) (nthC b6 19) (nthC b6 20) := by kernel_rfl
theorem c6q19 : nthC b6 19 = .skip := by kernel_rfl
theorem c6q20 : nthC b6 20 = .exit 0 := by kernel_rfl
theorem c6q21 : nthC b6 21 = .seq (nthC b6 22) (nthC b6 30) := by kernel_rfl
theorem c6q22 : nthC b6 22 = .block 1 (nthC b6 23) := by kernel_rfl
theorem c6q23 : nthC b6 23 = .seq (nthC b6 24) (nthC b6 25) := by kernel_rfl
theorem z6q24 : (opsC (nthC b6 24)).size = 29 := by kernel_rfl
theorem o6q24q0 : opAt (opsC (nthC b6 24)) 0 = some (some 27, (.fieldAddr 36 (.tmp 2) 1), none) := by kernel_rfl
theorem o6q24q1 : opAt (opsC (nthC b6 24)) 1 = some (some 28, (.load 34 (.tmp 27)), none) := by kernel_rfl
theorem o6q24q2 : opAt (opsC (nthC b6 24)) 2 = some (some 29, (.move (.tmp 5)), none) := by kernel_rfl
theorem o6q24q3 : opAt (opsC (nthC b6 24)) 3 = some (some 30, (.indexAddr 34 (.tmp 28) (.tmp 29)), none) := by kernel_rfl
theorem o6q24q4 : opAt (opsC (nthC b6 24)) 4 = some (some 31, (.fieldAddr 74 (.tmp 30) 0), none) := by kernel_rfl
theorem o6q24q5 : opAt (opsC (nthC b6 24)) 5 = some (some 32, (.load 3 (.tmp 31)), none) := by kernel_rfl
theorem o6q24q6 : opAt (opsC (nthC b6 24)) 6 = some (some 33, (.fieldAddr 36 (.tmp 3) 1), none) := by kernel_rfl
theorem o6q24q7 : opAt (opsC (nthC b6 24)) 7 = some (some 34, (.load 34 (.tmp 33)), none) := by kernel_rfl
theorem o6q24q8 : opAt (opsC (nthC b6 24)) 8 = some (some 35, (.move (.tmp 5)), none) := by kernel_rfl
theorem o6q24q9 : opAt (opsC (nthC b6 24)) 9 = some (some 36, (.indexAddr 34 (.tmp 34) (.tmp 35)), none) := by kernel_rfl
theorem o6q24q10 : opAt (opsC (nthC b6 24)) 10 = some (some 37, (.fieldAddr 74 (.tmp 36) 0), none) := by kernel_rfl
theorem o6q24q11 : opAt (opsC (nthC b6 24)) 11 = some (some 38, (.load 3 (.tmp 37)), none) := by kernel_rfl
theorem o6q24q12 : opAt (opsC (nthC b6 24)) 12 = some (some 39, (.binOp .neq 3 (.tmp 32) (.tmp 38) 3), none) := by kernel_rfl
theorem o6q24q13 : opAt (opsC (nthC b6 24)) 13 = some (some 40, (.move (.tmp 39)), none) := by kernel_rfl
theorem o6q24q14 : opAt (opsC (nthC b6 24)) 14 = some (some 41, (.fieldAddr 36 (.tmp 2) 1), some (13, false)) := by kernel_rfl
theorem d6q24q13 : (opAt (opsC (nthC b6 24)) 13).bind (·.1) = some 40 := by kernel_rfl
theorem o6q24q15 : opAt (opsC (nthC b6 24)) 15 = some (some 42, (.load 34 (.tmp 41)), some (13, false)) := by kernel_rfl
theorem o6q24q16 : opAt (opsC (nthC b6 24)) 16 = some (some 43, (.move (.tmp 5)), some (13, false)) := by kernel_rfl
theorem o6q24q17 : opAt (opsC (nthC b6 24)) 17 = some (some 44, (.indexAddr 34 (.tmp 42) (.tmp 43)), some (13, false)) := by kernel_rfl
theorem o6q24q18 : opAt (opsC (nthC b6 24)) 18 = some (some 45, (.fieldAddr 74 (.tmp 44) 1), some (13, false)) := by kernel_rfl
theorem o6q24q19 : opAt (opsC (nthC b6 24)) 19 = some (some 46, (.load 25 (.tmp 45)), some (13, false)) := by kernel_rfl
theorem o6q24q20 : opAt (opsC (nthC b6 24)) 20 = some (some 47, (.fieldAddr 36 (.tmp 3) 1), some (13, false)) := by kernel_rfl
theorem o6q24q21 : opAt (opsC (nthC b6 24)) 21 = some (some 48, (.load 34 (.tmp 47)), some (13, false)) := by kernel_rfl
theorem o6q24q22 : opAt (opsC (nthC b6 24)) 22 = some (some 49, (.move (.tmp 5)), some (13, false)) := by kernel_rfl
theorem o6q24q23 : opAt (opsC (nthC b6 24)) 23 = some (some 50, (.indexAddr 34 (.tmp 48) (.tmp 49)), some (13, false)) := by kernel_rfl
theorem o6q24q24 : opAt (opsC (nthC b6 24)) 24 = some (some 51, (.fieldAddr 74 (.tmp 50) 1), some (13, false)) := by kernel_rfl
theorem o6q24q25 : opAt (opsC (nthC b6 24)) 25 = some (some 52, (.load 25 (.tmp 51)), some (13, false)) := by kernel_rfl
theorem o6q24q26 : opAt (opsC (nthC b6 24)) 26 = some (some 53, (.call ⟨.value (.func 7), #[(.tmp 46), (.tmp 52)], #[25, 25]⟩), some (13, false)) := by kernel_rfl
theorem o6q24q27 : opAt (opsC (nthC b6 24)) 27 = some (some 54, (.unOp .not 4 (.tmp 53)), some (13, false)) := by kernel_rfl
theorem o6q24q28 : opAt (opsC (nthC b6 24)) 28 = some (some 55, (.pick (.tmp 40) (.const (.bool true)) (.tmp 54)), none) := by kernel_rfl
theorem c6q24 : nthC b6 24 = .region 6 (opsC (nthC b6 24)) true := by kernel_rfl
theorem c6q25 : nthC b6 25 = .cond (.tmp 55) (nthC b6 26) (nthC b6 29) := by kernel_rfl
theorem c6q26 : nthC b6 26 = .seq (nthC b6 27) (nthC b6 28) := by kernel_rfl
theorem z6q27 : (opsC (nthC b6 27)).size = 1 := by kernel_rfl
theorem o6q27q0 : opAt (opsC (nthC b6 27)) 0 = some (some 4, (.assign (.const (.bool false))), none) := by kernel_rfl
theorem c6q27 : nthC b6 27 = .region 7 (opsC (nthC b6 27)) false := by kernel_rfl
theorem c6q28 : nthC b6 28 = .ret := by kernel_rfl
theorem c6q29 : nthC b6 29 = .skip := by kernel_rfl
theorem z6q30 : (opsC (nthC b6 30)).size = 3 := by kernel_rfl
theorem o6q30q0 : opAt (opsC (nthC b6 30)) 0 = some (some 25, (.move (.tmp 5)), none) := by kernel_rfl
theorem o6q30q1 : opAt (opsC (nthC b6 30)) 1 = some (some 26, (.binOp .add 3 (.tmp 25) (.const (.int .i64 1)) 3), none) := by kernel_rfl
theorem o6q30q2 : opAt (opsC (nthC b6 30)) 2 = some (some 5, (.assign (.tmp 26)), none) := by kernel_rfl
theorem c6q30 : nthC b6 30 = .region 5 (opsC (nthC b6 30)) false := by kernel_rfl
theorem c6q31 : nthC b6 31 = .seq (nthC b6 32) (nthC b6 33) := by kernel_rfl
theorem z6q32 : (opsC (nthC b6 32)).size = 1 := by kernel_rfl
theorem o6q32q0 : opAt (opsC (nthC b6 32)) 0 = some (some 4, (.assign (.const (.bool true))), none) := by kernel_rfl
theorem c6q32 : nthC b6 32 = .region 8 (opsC (nthC b6 32)) false := by kernel_rfl
theorem c6q33 : nthC b6 33 = .ret := by kernel_rfl
noncomputable def b7 : Code := (Tryz.f7.body).getD .skip
theorem hb7 : Tryz.f7.body = some (nthC b7 0) := by kernel_rfl
theorem c7q0 : nthC b7 0 = .seq (nthC b7 1) (nthC b7 2) := by kernel_rfl
theorem z7q1 : (opsC (nthC b7 1)).size = 1 := by kernel_rfl
theorem o7q1q0 : opAt (opsC (nthC b7 1)) 0 = some (some 4, (.assign (.const (.bool false))), none) := by kernel_rfl
theorem c7q1 : nthC b7 1 = .region 0 (opsC (nthC b7 1)) false := by kernel_rfl
theorem c7q2 : nthC b7 2 = .seq (nthC b7 3) (nthC b7 10) := by kernel_rfl
theorem c7q3 : nthC b7 3 = .seq (nthC b7 4) (nthC b7 5) := by kernel_rfl
theorem z7q4 : (opsC (nthC b7 4)).size = 5 := by kernel_rfl
theorem o7q4q0 : opAt (opsC (nthC b7 4)) 0 = some (some 6, (.move (.tmp 0)), none) := by kernel_rfl
theorem o7q4q1 : opAt (opsC (nthC b7 4)) 1 = some (some 7, (.call ⟨.builtin .len, #[(.tmp 6)], #[25]⟩), none) := by kernel_rfl
theorem o7q4q2 : opAt (opsC (nthC b7 4)) 2 = some (some 8, (.move (.tmp 1)), none) := by kernel_rfl
theorem o7q4q3 : opAt (opsC (nthC b7 4)) 3 = some (some 9, (.call ⟨.builtin .len, #[(.tmp 8)], #[25]⟩), none) := by kernel_rfl
theorem o7q4q4 : opAt (opsC (nthC b7 4)) 4 = some (some 10, (.binOp .neq 3 (.tmp 7) (.tmp 9) 3), none) := by kernel_rfl
theorem c7q4 : nthC b7 4 = .region 1 (opsC (nthC b7 4)) false := by kernel_rfl
theorem c7q5 : nthC b7 5 = .cond (.tmp 10) (nthC b7 6) (nthC b7 9) := by kernel_rfl
theorem c7q6 : nthC b7 6 = .seq (nthC b7 7) (nthC b7 8) := by kernel_rfl
theorem z7q7 : (opsC (nthC b7 7)).size = 1 := by kernel_rfl
theorem o7q7q0 : opAt (opsC (nthC b7 7)) 0 = some (some 4, (.assign (.const (.bool false))), none) := by kernel_rfl
theorem c7q7 : nthC b7 7 = .region 2 (opsC (nthC b7 7)) false := by kernel_rfl
theorem c7q8 : nthC b7 8 = .ret := by kernel_rfl
theorem c7q9 : nthC b7 9 = .skip := by kernel_rfl
theorem c7q10 : nthC b7 10 = .seq (nthC b7 11) (nthC b7 31) := by kernel_rfl
theorem c7q11 : nthC b7 11 = .seq (nthC b7 12) (nthC b7 13) := by kernel_rfl
theorem z7q12 : (opsC (nthC b7 12)).size = 1 := by kernel_rfl
theorem o7q12q0 : opAt (opsC (nthC b7 12)) 0 = some (some 5, (.assign (.const (.int .i64 0))), none) := by kernel_rfl
theorem c7q12 : nthC b7 12 = .region 3 (opsC (nthC b7 12)) false := by kernel_rfl
theorem c7q13 : nthC b7 13 = .block 0 (nthC b7 14) := by kernel_rfl
theorem c7q14 : nthC b7 14 = .loop (nthC b7 15) := by kernel_rfl
theorem c7q15 : nthC b7 15 = .seq (nthC b7 16) (nthC b7 21) := by kernel_rfl
theorem c7q16 : nthC b7 16 = .seq (nthC b7 17) (nthC b7 18) := by kernel_rfl
theorem z7q17 : (opsC (nthC b7 17)).size = 4 := by kernel_rfl
theorem o7q17q0 : opAt (opsC (nthC b7 17)) 0 = some (some 11, (.move (.tmp 5)), none) := by kernel_rfl
theorem o7q17q1 : opAt (opsC (nthC b7 17)) 1 = some (some 12, (.move (.tmp 0)), none) := by kernel_rfl
theorem o7q17q2 : opAt (opsC (nthC b7 17)) 2 = some (some 13, (.call ⟨.builtin .len, #[(.tmp 12)], #[25]⟩), none) := by kernel_rfl
theorem o7q17q3 : opAt (opsC (nthC b7 17)) 3 = some (some 14, (.binOp .lss 3 (.tmp 11) (.tmp 13) 3), none) := by kernel_rfl
theorem c7q17 : nthC b7 17 = .region 4 (opsC (nthC b7 17)) false := by kernel_rfl
theorem c7q18 : nthC b7 18 = .cond (.tmp 14) (nthC b7 19) (nthC b7 20) := by kernel_rfl
theorem c7q19 : nthC b7 19 = .skip := by kernel_rfl
theorem c7q20 : nthC b7 20 = .exit 0 := by kernel_rfl
theorem c7q21 : nthC b7 21 = .seq (nthC b7 22) (nthC b7 30) := by kernel_rfl
theorem c7q22 : nthC b7 22 = .block 1 (nthC b7 23) := by kernel_rfl
theorem c7q23 : nthC b7 23 = .seq (nthC b7 24) (nthC b7 25) := by kernel_rfl
theorem z7q24 : (opsC (nthC b7 24)).size = 9 := by kernel_rfl
theorem o7q24q0 : opAt (opsC (nthC b7 24)) 0 = some (some 17, (.move (.tmp 0)), none) := by kernel_rfl
theorem o7q24q1 : opAt (opsC (nthC b7 24)) 1 = some (some 18, (.move (.tmp 5)), none) := by kernel_rfl
theorem o7q24q2 : opAt (opsC (nthC b7 24)) 2 = some (some 19, (.indexAddr 25 (.tmp 17) (.tmp 18)), none) := by kernel_rfl
theorem o7q24q3 : opAt (opsC (nthC b7 24)) 3 = some (some 20, (.load 71 (.tmp 19)), none) := by kernel_rfl
theorem o7q24q4 : opAt (opsC (nthC b7 24)) 4 = some (some 21, (.move (.tmp 1)), none) := by kernel_rfl
theorem o7q24q5 : opAt (opsC (nthC b7 24)) 5 = some (some 22, (.move (.tmp 5)), none) := by kernel_rfl
theorem o7q24q6 : opAt (opsC (nthC b7 24)) 6 = some (some 23, (.indexAddr 25 (.tmp 21) (.tmp 22)), none) := by kernel_rfl
theorem o7q24q7 : opAt (opsC (nthC b7 24)) 7 = some (some 24, (.load 71 (.tmp 23)), none) := by kernel_rfl
theorem o7q24q8 : opAt (opsC (nthC b7 24)) 8 = some (some 25, (.binOp .neq 71 (.tmp 20) (.tmp 24) 71), none) := by kernel_rfl
theorem c7q24 : nthC b7 24 = .region 6 (opsC (nthC b7 24)) true := by kernel_rfl
theorem c7q25 : nthC b7 25 = .cond (.tmp 25) (nthC b7 26) (nthC b7 29) := by kernel_rfl
theorem c7q26 : nthC b7 26 = .seq (nthC b7 27) (nthC b7 28) := by kernel_rfl
theorem z7q27 : (opsC (nthC b7 27)).size = 1 := by kernel_rfl
theorem o7q27q0 : opAt (opsC (nthC b7 27)) 0 = some (some 4, (.assign (.const (.bool false))), none) := by kernel_rfl
theorem c7q27 : nthC b7 27 = .region 7 (opsC (nthC b7 27)) false := by kernel_rfl
theorem c7q28 : nthC b7 28 = .ret := by kernel_rfl
theorem c7q29 : nthC b7 29 = .skip := by kernel_rfl
theorem z7q30 : (opsC (nthC b7 30)).size = 3 := by kernel_rfl
theorem o7q30q0 : opAt (opsC (nthC b7 30)) 0 = some (some 15, (.move (.tmp 5)), none) := by kernel_rfl
theorem o7q30q1 : opAt (opsC (nthC b7 30)) 1 = some (some 16, (.binOp .add 3 (.tmp 15) (.const (.int .i64 1)) 3), none) := by kernel_rfl
theorem o7q30q2 : opAt (opsC (nthC b7 30)) 2 = some (some 5, (.assign (.tmp 16)), none) := by kernel_rfl
theorem c7q30 : nthC b7 30 = .region 5 (opsC (nthC b7 30)) false := by kernel_rfl
theorem c7q31 : nthC b7 31 = .seq (nthC b7 32) (nthC b7 33) := by kernel_rfl
theorem z7q32 : (opsC (nthC b7 32)).size = 1 := by kernel_rfl
theorem o7q32q0 : opAt (opsC (nthC b7 32)) 0 = some (some 4, (.assign (.const (.bool true))), none) := by kernel_rfl
theorem c7q32 : nthC b7 32 = .region 8 (opsC (nthC b7 32)) false := by kernel_rfl
theorem c7q33 : nthC b7 33 = .ret := by kernel_rfl
noncomputable def b8 : Code := (Tryz.f8.body).getD .skip
theorem hb8 : Tryz.f8.body = some (nthC b8 0) := by kernel_rfl
theorem c8q0 : nthC b8 0 = .seq (nthC b8 1) (nthC b8 2) := by kernel_rfl
theorem z8q1 : (opsC (nthC b8 1)).size = 1 := by kernel_rfl
theorem o8q1q0 : opAt (opsC (nthC b8 1)) 0 = some (some 4, (.assign (.const (.bool false))), none) := by kernel_rfl
theorem c8q1 : nthC b8 1 = .region 0 (opsC (nthC b8 1)) false := by kernel_rfl
theorem c8q2 : nthC b8 2 = .seq (nthC b8 3) (nthC b8 10) := by kernel_rfl
theorem c8q3 : nthC b8 3 = .seq (nthC b8 4) (nthC b8 5) := by kernel_rfl
theorem z8q4 : (opsC (nthC b8 4)).size = 5 := by kernel_rfl
theorem o8q4q0 : opAt (opsC (nthC b8 4)) 0 = some (some 6, (.move (.tmp 0)), none) := by kernel_rfl
theorem o8q4q1 : opAt (opsC (nthC b8 4)) 1 = some (some 7, (.call ⟨.builtin .len, #[(.tmp 6)], #[27]⟩), none) := by kernel_rfl
theorem o8q4q2 : opAt (opsC (nthC b8 4)) 2 = some (some 8, (.move (.tmp 1)), none) := by kernel_rfl
theorem o8q4q3 : opAt (opsC (nthC b8 4)) 3 = some (some 9, (.call ⟨.builtin .len, #[(.tmp 8)], #[27]⟩), none) := by kernel_rfl
theorem o8q4q4 : opAt (opsC (nthC b8 4)) 4 = some (some 10, (.binOp .neq 3 (.tmp 7) (.tmp 9) 3), none) := by kernel_rfl
theorem c8q4 : nthC b8 4 = .region 1 (opsC (nthC b8 4)) false := by kernel_rfl
theorem c8q5 : nthC b8 5 = .cond (.tmp 10) (nthC b8 6) (nthC b8 9) := by kernel_rfl
theorem c8q6 : nthC b8 6 = .seq (nthC b8 7) (nthC b8 8) := by kernel_rfl
theorem z8q7 : (opsC (nthC b8 7)).size = 1 := by kernel_rfl
theorem o8q7q0 : opAt (opsC (nthC b8 7)) 0 = some (some 4, (.assign (.const (.bool false))), none) := by kernel_rfl
theorem c8q7 : nthC b8 7 = .region 2 (opsC (nthC b8 7)) false := by kernel_rfl
theorem c8q8 : nthC b8 8 = .ret := by kernel_rfl
theorem c8q9 : nthC b8 9 = .skip := by kernel_rfl
theorem c8q10 : nthC b8 10 = .seq (nthC b8 11) (nthC b8 31) := by kernel_rfl
theorem c8q11 : nthC b8 11 = .seq (nthC b8 12) (nthC b8 13) := by kernel_rfl
theorem z8q12 : (opsC (nthC b8 12)).size = 1 := by kernel_rfl
theorem o8q12q0 : opAt (opsC (nthC b8 12)) 0 = some (some 5, (.assign (.const (.int .i64 0))), none) := by kernel_rfl
theorem c8q12 : nthC b8 12 = .region 3 (opsC (nthC b8 12)) false := by kernel_rfl
theorem c8q13 : nthC b8 13 = .block 0 (nthC b8 14) := by kernel_rfl
theorem c8q14 : nthC b8 14 = .loop (nthC b8 15) := by kernel_rfl
theorem c8q15 : nthC b8 15 = .seq (nthC b8 16) (nthC b8 21) := by kernel_rfl
theorem c8q16 : nthC b8 16 = .seq (nthC b8 17) (nthC b8 18) := by kernel_rfl
theorem z8q17 : (opsC (nthC b8 17)).size = 4 := by kernel_rfl
theorem o8q17q0 : opAt (opsC (nthC b8 17)) 0 = some (some 11, (.move (.tmp 5)), none) := by kernel_rfl
theorem o8q17q1 : opAt (opsC (nthC b8 17)) 1 = some (some 12, (.move (.tmp 0)), none) := by kernel_rfl
theorem o8q17q2 : opAt (opsC (nthC b8 17)) 2 = some (some 13, (.call ⟨.builtin .len, #[(.tmp 12)], #[27]⟩), none) := by kernel_rfl
theorem o8q17q3 : opAt (opsC (nthC b8 17)) 3 = some (some 14, (.binOp .lss 3 (.tmp 11) (.tmp 13) 3), none) := by kernel_rfl
theorem c8q17 : nthC b8 17 = .region 4 (opsC (nthC b8 17)) false := by kernel_rfl
theorem c8q18 : nthC b8 18 = .cond (.tmp 14) (nthC b8 19) (nthC b8 20) := by kernel_rfl
theorem c8q19 : nthC b8 19 = .skip := by kernel_rfl
theorem c8q20 : nthC b8 20 = .exit 0 := by kernel_rfl
theorem c8q21 : nthC b8 21 = .seq (nthC b8 22) (nthC b8 30) := by kernel_rfl
theorem c8q22 : nthC b8 22 = .block 1 (nthC b8 23) := by kernel_rfl
theorem c8q23 : nthC b8 23 = .seq (nthC b8 24) (nthC b8 25) := by kernel_rfl
theorem z8q24 : (opsC (nthC b8 24)).size = 9 := by kernel_rfl
theorem o8q24q0 : opAt (opsC (nthC b8 24)) 0 = some (some 17, (.move (.tmp 0)), none) := by kernel_rfl
theorem o8q24q1 : opAt (opsC (nthC b8 24)) 1 = some (some 18, (.move (.tmp 5)), none) := by kernel_rfl
theorem o8q24q2 : opAt (opsC (nthC b8 24)) 2 = some (some 19, (.indexAddr 27 (.tmp 17) (.tmp 18)), none) := by kernel_rfl
theorem o8q24q3 : opAt (opsC (nthC b8 24)) 3 = some (some 20, (.load 9 (.tmp 19)), none) := by kernel_rfl
theorem o8q24q4 : opAt (opsC (nthC b8 24)) 4 = some (some 21, (.move (.tmp 1)), none) := by kernel_rfl
theorem o8q24q5 : opAt (opsC (nthC b8 24)) 5 = some (some 22, (.move (.tmp 5)), none) := by kernel_rfl
theorem o8q24q6 : opAt (opsC (nthC b8 24)) 6 = some (some 23, (.indexAddr 27 (.tmp 21) (.tmp 22)), none) := by kernel_rfl
theorem o8q24q7 : opAt (opsC (nthC b8 24)) 7 = some (some 24, (.load 9 (.tmp 23)), none) := by kernel_rfl
theorem o8q24q8 : opAt (opsC (nthC b8 24)) 8 = some (some 25, (.binOp .neq 9 (.tmp 20) (.tmp 24) 9), none) := by kernel_rfl
theorem c8q24 : nthC b8 24 = .region 6 (opsC (nthC b8 24)) true := by kernel_rfl
theorem c8q25 : nthC b8 25 = .cond (.tmp 25) (nthC b8 26) (nthC b8 29) := by kernel_rfl
theorem c8q26 : nthC b8 26 = .seq (nthC b8 27) (nthC b8 28) := by kernel_rfl
theorem z8q27 : (opsC (nthC b8 27)).size = 1 := by kernel_rfl
theorem o8q27q0 : opAt (opsC (nthC b8 27)) 0 = some (some 4, (.assign (.const (.bool false))), none) := by kernel_rfl
theorem c8q27 : nthC b8 27 = .region 7 (opsC (nthC b8 27)) false := by kernel_rfl
theorem c8q28 : nthC b8 28 = .ret := by kernel_rfl
theorem c8q29 : nthC b8 29 = .skip := by kernel_rfl
theorem z8q30 : (opsC (nthC b8 30)).size = 3 := by kernel_rfl
theorem o8q30q0 : opAt (opsC (nthC b8 30)) 0 = some (some 15, (.move (.tmp 5)), none) := by kernel_rfl
theorem o8q30q1 : opAt (opsC (nthC b8 30)) 1 = some (some 16, (.binOp .add 3 (.tmp 15) (.const (.int .i64 1)) 3), none) := by kernel_rfl
theorem o8q30q2 : opAt (opsC (nthC b8 30)) 2 = some (some 5, (.assign (.tmp 16)), none) := by kernel_rfl
theorem c8q30 : nthC b8 30 = .region 5 (opsC (nthC b8 30)) false := by kernel_rfl
theorem c8q31 : nthC b8 31 = .seq (nthC b8 32) (nthC b8 33) := by kernel_rfl
theorem z8q32 : (opsC (nthC b8 32)).size = 1 := by kernel_rfl
theorem o8q32q0 : opAt (opsC (nthC b8 32)) 0 = some (some 4, (.assign (.const (.bool true))), none) := by kernel_rfl
theorem c8q32 : nthC b8 32 = .region 8 (opsC (nthC b8 32)) false := by kernel_rfl
theorem c8q33 : nthC b8 33 = .ret := by kernel_rfl
noncomputable def b9 : Code := (Tryz.f9.body).getD .skip
theorem hb9 : Tryz.f9.body = some (nthC b9 0) := by kernel_rfl
theorem c9q0 : nthC b9 0 = .seq (nthC b9 1) (nthC b9 2) := by kernel_rfl
theorem z9q1 : (opsC (nthC b9 1)).size = 3 := by kernel_rfl
theorem o9q1q0 : opAt (opsC (nthC b9 1)) 0 = some (some 2, (.box 31 (.tmp 0)), none) := by kernel_rfl
theorem o9q1q1 : opAt (opsC (nthC b9 1)) 1 = some (some 3, (.box 31 (.tmp 1)), none) := by kernel_rfl
theorem o9q1q2 : opAt (opsC (nthC b9 1)) 2 = some (some 4, (.assign (.const (.bool false))), none) := by kernel_rfl
theorem c9q1 : nthC b9 1 = .region 0 (opsC (nthC b9 1)) false := by kernel_rfl
theorem c9q2 : nthC b9 2 = .seq (nthC b9 3) (nthC b9 4) := by kernel_rfl
theorem z9q3 : (opsC (nthC b9 3)).size = 34 := by kernel_rfl
theorem o9q3q0 : opAt (opsC (nthC b9 3)) 0 = some (some 5, (.fieldAddr 31 (.tmp 2) 0), none) := by kernel_rfl
theorem o9q3q1 : opAt (opsC (nthC b9 3)) 1 = some (some 6, (.load 22 (.tmp 5)), none) := by kernel_rfl
theorem o9q3q2 : opAt (opsC (nthC b9 3)) 2 = some (some 7, (.fieldAddr 31 (.tmp 3) 0), none) := by kernel_rfl
theorem o9q3q3 : opAt (opsC (nthC b9 3)) 3 = some (some 8, (.load 22 (.tmp 7)), none) := by kernel_rfl
theorem o9q3q4 : opAt (opsC (nthC b9 3)) 4 = some (some 9, (.binOp .eql 22 (.tmp 6) (.tmp 8) 22), none) := by kernel_rfl
theorem o9q3q5 : opAt (opsC (nthC b9 3)) 5 = some (some 10, (.move (.tmp 9)), none) := by kernel_rfl
theorem o9q3q6 : opAt (opsC (nthC b9 3)) 6 = some (some 11, (.fieldAddr 31 (.tmp 2) 1), some (5, true)) := by kernel_rfl
theorem d9q3q5 : (opAt (opsC (nthC b9 3)) 5).bind (·.1) = some 10 := by kernel_rfl
theorem o9q3q7 : opAt (opsC (nthC b9 3)) 7 = some (some 12, (.load 24 (.tmp 11)), some (5, true)) := by kernel_rfl
theorem o9q3q8 : opAt (opsC (nthC b9 3)) 8 = some (some 13, (.fieldAddr 31 (.tmp 3) 1), some (5, true)) := by kernel_rfl
theorem o9q3q9 : opAt (opsC (nthC b9 3)) 9 = some (some 14, (.load 24 (.tmp 13)), some (5, true)) := by kernel_rfl
theorem o9q3q10 : opAt (opsC (nthC b9 3)) 10 = some (some 15, (.binOp .eql 24 (.tmp 12) (.tmp 14) 24), some (5, true)) := by kernel_rfl
theorem o9q3q11 : opAt (opsC (nthC b9 3)) 11 = some (some 16, (.pick (.tmp 10) (.tmp 15) (.const (.bool false))), none) := by kernel_rfl
theorem o9q3q12 : opAt (opsC (nthC b9 3)) 12 = some (some 17, (.move (.tmp 16)), none) := by kernel_rfl
theorem o9q3q13 : opAt (opsC (nthC b9 3)) 13 = some (some 18, (.fieldAddr 31 (.tmp 2) 2), some (12, true)) := by kernel_rfl
theorem d9q3q12 : (opAt (opsC (nthC b9 3)) 12).bind (·.1) = some 17 := by kernel_rfl
theorem o9q3q14 : opAt (opsC (nthC b9 3)) 14 = some (some 19, (.load 25 (.tmp 18)), some (12, true)) := by kernel_rfl
theorem o9q3q15 : opAt (opsC (nthC b9 3)) 15 = some (some 20, (.fieldAddr 31 (.tmp 3) 2), some (12, true)) := by kernel_rfl
theorem o9q3q16 : opAt (opsC (nthC b9 3)) 16 = some (some 21, (.load 25 (.tmp 20)), some (12, true)) := by kernel_rfl
theorem o9q3q17 : opAt (opsC (nthC b9 3)) 17 = some (some 22, (.call ⟨.value (.func 19), #[(.tmp 19), (.tmp 21)], #[25, 25]⟩), some (12, true)) := by kernel_rfl
theorem o9q3q18 : opAt (opsC (nthC b9 3)) 18 = some (some 23, (.pick (.tmp 17) (.tmp 22) (.const (.bool false))), none) := by kernel_rfl
theorem o9q3q19 : opAt (opsC (nthC b9 3)) 19 = some (some 24, (.move (.tmp 23)), none) := by kernel_rfl
theorem o9q3q20 : opAt (opsC (nthC b9 3)) 20 = some (some 25, (.fieldAddr 31 (.tmp 2) 3), some (19, true)) := by kernel_rfl
theorem d9q3q19 : (opAt (opsC (nthC b9 3)) 19).bind (·.1) = some 24 := by kernel_rfl
theorem o9q3q21 : opAt (opsC (nthC b9 3)) 21 = some (some 26, (.load 26 (.tmp 25)), some (19, true)) := by kernel_rfl
theorem o9q3q22 : opAt (opsC (nthC b9 3)) 22 = some (some 27, (.fieldAddr 31 (.tmp 3) 3), some (19, true)) := by kernel_rfl
theorem o9q3q23 : opAt (opsC (nthC b9 3)) 23 = some (some 28, (.load 26 (.tmp 27)), some (19, true)) := by kernel_rfl
theorem o9q3q24 : opAt (opsC (nthC b9 3)) 24 = some (some 29, (.call ⟨.value (.func 20), #[(.tmp 26), (.tmp 28), (.func 21)], #[26, 26, 33]⟩), some (19, true)) := by kernel_rfl
theorem o9q3q25 : opAt (opsC (nthC b9 3)) 25 = some (some 30, (.pick (.tmp 24) (.tmp 29) (.const (.bool false))), none) := by kernel_rfl
theorem o9q3q26 : opAt (opsC (nthC b9 3)) 26 = some (some 31, (.move (.tmp 30)), none) := by kernel_rfl
theorem o9q3q27 : opAt (opsC (nthC b9 3)) 27 = some (some 32, (.fieldAddr 31 (.tmp 2) 4), some (26, true)) := by kernel_rfl
theorem d9q3q26 : (opAt (opsC (nthC b9 3)) 26).bind (·.1) = some 31 := by kernel_rfl
theorem o9q3q28 : opAt (opsC (nthC b9 3)) 28 = some (some 33, (.load 29 (.tmp 32)), some (26, true)) := by kernel_rfl
theorem o9q3q29 : opAt (opsC (nthC b9 3)) 29 = some (some 34, (.fieldAddr 31 (.tmp 3) 4), some (26, true)) := by kernel_rfl
theorem o9q3q30 : opAt (opsC (nthC b9 3)) 30 = some (some 35, (.load 29 (.tmp 34)), some (26, true)) := by kernel_rfl
theorem o9q3q31 : opAt (opsC (nthC b9 3)) 31 = some (some 36, (.call ⟨.value (.func 22), #[(.tmp 33), (.tmp 35)], #[29, 29]⟩), some (26, true)) := by kernel_rfl
theorem o9q3q32 : opAt (opsC (nthC b9 3)) 32 = some (some 37, (.pick (.tmp 31) (.tmp 36) (.const (.bool false))), none) := by kernel_rfl
theorem o9q3q33 : opAt (opsC (nthC b9 3)) 33 = some (some 4, (.assign (.tmp 37)), none) := by kernel_rfl
theorem c9q3 : nthC b9 3 = .region 1 (opsC (nthC b9 3)) false := by kernel_rfl
theorem c9q4 : nthC b9 4 = .ret := by kernel_rfl
noncomputable def b19 : Code := (Tryz.f19.body).getD .skip
theorem hb19 : Tryz.f19.body = some (nthC b19 0) := by kernel_rfl
theorem c19q0 : nthC b19 0 = .seq (nthC b19 1) (nthC b19 2) := by kernel_rfl
theorem z19q1 : (opsC (nthC b19 1)).size = 1 := by kernel_rfl
theorem o19q1q0 : opAt (opsC (nthC b19 1)) 0 = some (some 4, (.assign (.const (.bool false))), none) := by kernel_rfl
theorem c19q1 : nthC b19 1 = .region 0 (opsC (nthC b19 1)) false := by kernel_rfl
theorem c19q2 : nthC b19 2 = .seq (nthC b19 3) (nthC b19 10) := by kernel_rfl
theorem c19q3 : nthC b19 3 = .seq (nthC b19 4) (nthC b19 5) := by kernel_rfl
theorem z19q4 : (opsC (nthC b19 4)).size = 5 := by kernel_rfl
theorem o19q4q0 : opAt (opsC (nthC b19 4)) 0 = some (some 6, (.move (.tmp 0)), none) := by kernel_rfl
theorem o19q4q1 : opAt (opsC (nthC b19 4)) 1 = some (some 7, (.call ⟨.builtin .len, #[(.tmp 6)], #[25]⟩), none) := by kernel_rfl
theorem o19q4q2 : opAt (opsC (nthC b19 4)) 2 = some (some 8, (.move (.tmp 1)), none) := by kernel_rfl
theorem o19q4q3 : opAt (opsC (nthC b19 4)) 3 = some (some 9, (.call ⟨.builtin .len, #[(.tmp 8)], #[25]⟩), none) := by kernel_rfl
theorem o19q4q4 : opAt (opsC (nthC b19 4)) 4 = some (some 10, (.binOp .neq 3 (.tmp 7) (.tmp 9) 3), none) := by kernel_rfl
theorem c19q4 : nthC b19 4 = .region 1 (opsC (nthC b19 4)) false := by kernel_rfl
theorem c19q5 : nthC b19 5 = .cond (.tmp 10) (nthC b19 6) (nthC b19 9) := by kernel_rfl
theorem c19q6 : nthC b19 6 = .seq (nthC b19 7) (nthC b19 8) := by kernel_rfl
theorem z19q7 : (opsC (nthC b19 7)).size = 1 := by kernel_rfl
theorem o19q7q0 : opAt (opsC (nthC b19 7)) 0 = some (some 4, (.assign (.const (.bool false))), none) := by kernel_rfl
theorem c19q7 : nthC b19 7 = .region 2 (opsC (nthC b19 7)) false := by kernel_rfl
theorem c19q8 : nthC b19 8 = .ret := by kernel_rfl
theorem c19q9 : nthC b19 9 = .skip := by kernel_rfl
theorem c19q10 : nthC b19 10 = .seq (nthC b19 11) (nthC b19 33) := by kernel_rfl
theorem c19q11 : nthC b19 11 = .seq (nthC b19 12) (nthC b19 13) := by kernel_rfl
theorem z19q12 : (opsC (nthC b19 12)).size = 3 := by kernel_rfl
theorem o19q12q0 : opAt (opsC (nthC b19 12)) 0 = some (some 11, (.move (.tmp 0)), none) := by kernel_rfl
theorem o19q12q1 : opAt (opsC (nthC b19 12)) 1 = some (some 12, (.call ⟨.builtin .len, #[(.tmp 11)], #[25]⟩), none) := by kernel_rfl
theorem o19q12q2 : opAt (opsC (nthC b19 12)) 2 = some (some 13, (.move (.const (.int .i64 0))), none) := by kernel_rfl
theorem c19q12 : nthC b19 12 = .region 3 (opsC (nthC b19 12)) false := by kernel_rfl
theorem c19q13 : nthC b19 13 = .block 0 (nthC b19 14) := by kernel_rfl
theorem c19q14 : nthC b19 14 = .loop (nthC b19 15) := by kernel_rfl
theorem c19q15 : nthC b19 15 = .seq (nthC b19 16) (nthC b19 17) := by kernel_rfl
theorem z19q16 : (opsC (nthC b19 16)).size = 1 := by kernel_rfl
theorem o19q16q0 : opAt (opsC (nthC b19 16)) 0 = some (some 14, (.binOp .lss 3 (.tmp 13) (.tmp 12) 3), none) := by kernel_rfl
theorem c19q16 : nthC b19 16 = .region 4 (opsC (nthC b19 16)) false := by kernel_rfl
theorem c19q17 : nthC b19 17 = .seq (nthC b19 18) (nthC b19 21) := by kernel_rfl
theorem c19q18 : nthC b19 18 = .cond (.tmp 14) (nthC b19 19) (nthC b19 20) := by kernel_rfl
theorem c19q19 : nthC b19 19 = .skip := by kernel_rfl
theorem c19q20 : nthC b19 20 = .exit 0 := by kernel_rfl
theorem c19q21 : nthC b19 21 = .seq (nthC b19 22) (nthC b19 32) := by kernel_rfl
theorem c19q22 : nthC b19 22 = .block 1 (nthC b19 23) := by kernel_rfl
theorem c19q23 : nthC b19 23 = .seq (nthC b19 24) (nthC b19 25) := by kernel_rfl
theorem z19q24 : (opsC (nthC b19 24)).size = 2 := by kernel_rfl
theorem o19q24q0 : opAt (opsC (nthC b19 24)) 0 = some (some 15, (.move (.tmp 13)), none) := by kernel_rfl
theorem o19q24q1 : opAt (opsC (nthC b19 24)) 1 = some (some 5, (.assign (.tmp 15)), none) := by kernel_rfl
theorem c19q24 : nthC b19 24 = .region 5 (opsC (nthC b19 24)) false := by kernel_rfl
theorem c19q25 : nthC b19 25 = .seq (nthC b19 26) (nthC b19 27) := by kernel_rfl
theorem z19q26 : (opsC (nthC b19 26)).size = 9 := by kernel_rfl
theorem o19q26q0 : opAt (opsC (nthC b19 26)) 0 = some (some 16, (.move (.tmp 0)), none) := by kernel_rfl
theorem o19q26q1 : opAt (opsC (nthC b19 26)) 1 = some (some 17, (.move (.tmp 5)), none) := by kernel_rfl
theorem o19q26q2 : opAt (opsC (nthC b19 26)) 2 = some (some 18, (.indexAddr 25 (.tmp 16) (.tmp 17)), none) := by kernel_rfl
theorem o19q26q3 : opAt (opsC (nthC b19 26)) 3 = some (some 19, (.load 71 (.tmp 18)), none) := by kernel_rfl
theorem o19q26q4 : opAt (opsC (nthC b19 26)) 4 = some (some 20, (.move (.tmp 1)), none) := by kernel_rfl
theorem o19q26q5 : opAt (opsC (nthC b19 26)) 5 = some (some 21, (.move (.tmp 5)), none) := by kernel_rfl
theorem o19q26q6 : opAt (opsC (nthC b19 26)) 6 = some (some 22, (.indexAddr 25 (.tmp 20) (.tmp 21)), none) := by kernel_rfl
theorem o19q26q7 : opAt (opsC (nthC b19 26)) 7 = some (some 23, (.load 71 (.tmp 22)), none) := by kernel_rfl
theorem o19q26q8 : opAt (opsC (nthC b19 26)) 8 = some (some 24, (.binOp .neq 71 (.tmp 19) (.tmp 23) 71), none) := by kernel_rfl
theorem c19q26 : nthC b19 26 = .region 6 (opsC (nthC b19 26)) true := by kernel_rfl
theorem c19q27 : nthC b19 27 = .cond (.tmp 24) (nthC b19 28) (nthC b19 31) := by kernel_rfl
theorem c19q28 : nthC b19 28 = .seq (nthC b19 29) (nthC b19 30) := by kernel_rfl
theorem z19q29 : (opsC (nthC b19 29)).size = 1 := by kernel_rfl
theorem o19q29q0 : opAt (opsC (nthC b19 29)) 0 = some (some 4, (.assign (.const (.bool false))), none) := by kernel_rfl
theorem c19q29 : nthC b19 29 = .region 7 (opsC (nthC b19 29)) false := by kernel_rfl
theorem c19q30 : nthC b19 30 = .ret := by kernel_rfl
theorem c19q31 : nthC b19 31 = .skip := by kernel_rfl
theorem z19q32 : (opsC (nthC b19 32)).size = 2 := by kernel_rfl
theorem o19q32q0 : opAt (opsC (nthC b19 32)) 0 = some (some 25, (.binOp .add 3 (.tmp 13) (.const (.int .i64 1)) 3), none) := by kernel_rfl
theorem o19q32q1 : opAt (opsC (nthC b19 32)) 1 = some (some 13, (.move (.tmp 25)), none) := by kernel_rfl
theorem c19q32 : nthC b19 32 = .region 8 (opsC (nthC b19 32)) false := by kernel_rfl
theorem c19q33 : nthC b19 33 = .seq (nthC b19 34) (nthC b19 35) := by kernel_rfl
theorem z19q34 : (opsC (nthC b19 34)).size = 1 := by kernel_rfl
theorem o19q34q0 : opAt (opsC (nthC b19 34)) 0 = some (some 4, (.assign (.const (.bool true))), none) := by kernel_rfl
theorem c19q34 : nthC b19 34 = .region 9 (opsC (nthC b19 34)) false := by kernel_rfl
theorem c19q35 : nthC b19 35 = .ret := by kernel_rfl
noncomputable def b20 : Code := (Tryz.f20.body).getD .skip
theorem hb20 : Tryz.f20.body = some (nthC b20 0) := by kernel_rfl
theorem c20q0 : nthC b20 0 = .seq (nthC b20 1) (nthC b20 2) := by kernel_rfl
theorem z20q1 : (opsC (nthC b20 1)).size = 1 := by kernel_rfl
theorem o20q1q0 : opAt (opsC (nthC b20 1)) 0 = some (some 6, (.assign (.const (.bool false))), none) := by kernel_rfl
theorem c20q1 : nthC b20 1 = .region 0 (opsC (nthC b20 1)) false := by kernel_rfl
theorem c20q2 : nthC b20 2 = .seq (nthC b20 3) (nthC b20 10) := by kernel_rfl
theorem c20q3 : nthC b20 3 = .seq (nthC b20 4) (nthC b20 5) := by kernel_rfl
theorem z20q4 : (opsC (nthC b20 4)).size = 5 := by kernel_rfl
theorem o20q4q0 : opAt (opsC (nthC b20 4)) 0 = some (some 10, (.move (.tmp 0)), none) := by kernel_rfl
theorem o20q4q1 : opAt (opsC (nthC b20 4)) 1 = some (some 11, (.call ⟨.builtin .len, #[(.tmp 10)], #[26]⟩), none) := by kernel_rfl
theorem o20q4q2 : opAt (opsC (nthC b20 4)) 2 = some (some 12, (.move (.tmp 1)), none) := by kernel_rfl
theorem o20q4q3 : opAt (opsC (nthC b20 4)) 3 = some (some 13, (.call ⟨.builtin .len, #[(.tmp 12)], #[26]⟩), none) := by kernel_rfl
theorem o20q4q4 : opAt (opsC (nthC b20 4)) 4 = some (some 14, (.binOp .neq 3 (.tmp 11) (.tmp 13) 3), none) := by kernel_rfl
theorem c20q4 : nthC b20 4 = .region 1 (opsC (nthC b20 4)) false := by kernel_rfl
theorem c20q5 : nthC b20 5 = .cond (.tmp 14) (nthC b20 6) (nthC b20 9) := by kernel_rfl
theorem c20q6 : nthC b20 6 = .seq (nthC b20 7) (nthC b20 8) := by kernel_rfl
theorem z20q7 : (opsC (nthC b20 7)).size = 1 := by kernel_rfl
theorem o20q7q0 : opAt (opsC (nthC b20 7)) 0 = some (some 6, (.assign (.const (.bool false))), none) := by kernel_rfl
theorem c20q7 : nthC b20 7 = .region 2 (opsC (nthC b20 7)) false := by kernel_rfl
theorem c20q8 : nthC b20 8 = .ret := by kernel_rfl
theorem c20q9 : nthC b20 9 = .skip := by kernel_rfl
theorem c20q10 : nthC b20 10 = .seq (nthC b20 11) (nthC b20 35) := by kernel_rfl
theorem c20q11 : nthC b20 11 = .seq (nthC b20 12) (nthC b20 13) := by kernel_rfl
theorem z20q12 : (opsC (nthC b20 12)).size = 3 := by kernel_rfl
theorem o20q12q0 : opAt (opsC (nthC b20 12)) 0 = some (some 15, (.move (.tmp 0)), none) := by kernel_rfl
theorem o20q12q1 : opAt (opsC (nthC b20 12)) 1 = some (some 16, (.call ⟨.builtin .len, #[(.tmp 15)], #[26]⟩), none) := by kernel_rfl
theorem o20q12q2 : opAt (opsC (nthC b20 12)) 2 = some (some 17, (.move (.const (.int .i64 0))), none) := by kernel_rfl
theorem c20q12 : nthC b20 12 = .region 3 (opsC (nthC b20 12)) false := by kernel_rfl
theorem c20q13 : nthC b20 13 = .block 0 (nthC b20 14) := by kernel_rfl
theorem c20q14 : nthC b20 14 = .loop (nthC b20 15) := by kernel_rfl
theorem c20q15 : nthC b20 15 = .seq (nthC b20 16) (nthC b20 17) := by kernel_rfl
theorem z20q16 : (opsC (nthC b20 16)).size = 1 := by kernel_rfl
theorem o20q16q0 : opAt (opsC (nthC b20 16)) 0 = some (some 18, (.binOp .lss 3 (.tmp 17) (.tmp 16) 3), none) := by kernel_rfl
theorem c20q16 : nthC b20 16 = .region 4 (opsC (nthC b20 16)) false := by kernel_rfl
theorem c20q17 : nthC b20 17 = .seq (nthC b20 18) (nthC b20 21) := by kernel_rfl
theorem c20q18 : nthC b20 18 = .cond (.tmp 18) (nthC b20 19) (nthC b20 20) := by kernel_rfl
theorem c20q19 : nthC b20 19 = .skip := by kernel_rfl
theorem c20q20 : nthC b20 20 = .exit 0 := by kernel_rfl
theorem c20q21 : nthC b20 21 = .seq (nthC b20 22) (nthC b20 34) := by kernel_rfl
theorem c20q22 : nthC b20 22 = .block 1 (nthC b20 23) := by kernel_rfl
theorem c20q23 : nthC b20 23 = .seq (nthC b20 24) (nthC b20 25) := by kernel_rfl
theorem z20q24 : (opsC (nthC b20 24)).size = 6 := by kernel_rfl
theorem o20q24q0 : opAt (opsC (nthC b20 24)) 0 = some (some 19, (.move (.tmp 17)), none) := by kernel_rfl
theorem o20q24q1 : opAt (opsC (nthC b20 24)) 1 = some (some 20, (.indexAddr 26 (.tmp 15) (.tmp 17)), none) := by kernel_rfl
theorem o20q24q2 : opAt (opsC (nthC b20 24)) 2 = some (some 21, (.load 36 (.tmp 20)), none) := by kernel_rfl
theorem o20q24q3 : opAt (opsC (nthC b20 24)) 3 = some (some 8, (.alloc 36), none) := by kernel_rfl
theorem o20q24q4 : opAt (opsC (nthC b20 24)) 4 = some (some 7, (.assign (.tmp 19)), none) := by kernel_rfl
theorem o20q24q5 : opAt (opsC (nthC b20 24)) 5 = some (none, (.store 36 (.tmp 8) (.tmp 21)), none) := by kernel_rfl
theorem c20q24 : nthC b20 24 = .region 5 (opsC (nthC b20 24)) false := by kernel_rfl
theorem c20q25 : nthC b20 25 = .seq (nthC b20 26) (nthC b20 27) := by kernel_rfl
theorem z20q26 : (opsC (nthC b20 26)).size = 6 := by kernel_rfl
theorem o20q26q0 : opAt (opsC (nthC b20 26)) 0 = some (some 22, (.move (.tmp 1)), none) := by kernel_rfl
theorem o20q26q1 : opAt (opsC (nthC b20 26)) 1 = some (some 23, (.move (.tmp 7)), none) := by kernel_rfl
theorem o20q26q2 : opAt (opsC (nthC b20 26)) 2 = some (some 24, (.indexAddr 26 (.tmp 22) (.tmp 23)), none) := by kernel_rfl
theorem o20q26q3 : opAt (opsC (nthC b20 26)) 3 = some (some 25, (.load 36 (.tmp 24)), none) := by kernel_rfl
theorem o20q26q4 : opAt (opsC (nthC b20 26)) 4 = some (some 9, (.alloc 36), none) := by kernel_rfl
theorem o20q26q5 : opAt (opsC (nthC b20 26)) 5 = some (none, (.store 36 (.tmp 9) (.tmp 25)), none) := by kernel_rfl
theorem c20q26 : nthC b20 26 = .region 6 (opsC (nthC b20 26)) false := by kernel_rfl
theorem c20q27 : nthC b20 27 = .seq (nthC b20 28) (nthC b20 29) := by kernel_rfl
theorem z20q28 : (opsC (nthC b20 28)).size = 5 := by kernel_rfl
theorem o20q28q0 : opAt (opsC (nthC b20 28)) 0 = some (some 26, (.move (.tmp 2)), none) := by kernel_rfl
theorem o20q28q1 : opAt (opsC (nthC b20 28)) 1 = some (some 27, (.load 36 (.tmp 8)), none) := by kernel_rfl
theorem o20q28q2 : opAt (opsC (nthC b20 28)) 2 = some (some 28, (.load 36 (.tmp 9)), none) := by kernel_rfl
theorem o20q28q3 : opAt (opsC (nthC b20 28)) 3 = some (some 29, (.call ⟨.value (.tmp 26), #[(.tmp 27), (.tmp 28)], #[36, 36]⟩), none) := by kernel_rfl
theorem o20q28q4 : opAt (opsC (nthC b20 28)) 4 = some (some 30, (.unOp .not 4 (.tmp 29)), none) := by kernel_rfl
theorem c20q28 : nthC b20 28 = .region 7 (opsC (nthC b20 28)) false := by kernel_rfl
theorem c20q29 : nthC b20 29 = .cond (.tmp 30) (nthC b20 30) (nthC b20 33) := by kernel_rfl
theorem c20q30 : nthC b20 30 = .seq (nthC b20 31) (nthC b20 32) := by kernel_rfl
theorem z20q31 : (opsC (nthC b20 31)).size = 1 := by kernel_rfl
theorem o20q31q0 : opAt (opsC (nthC b20 31)) 0 = some (some 6, (.assign (.const (.bool false))), none) := by kernel_rfl
theorem c20q31 : nthC b20 31 = .region 8 (opsC (nthC b20 31)) false := by kernel_rfl
theorem c20q32 : nthC b20 32 = .ret := by kernel_rfl
theorem c20q33 : nthC b20 33 = .skip := by kernel_rfl
theorem z20q34 : (opsC (nthC b20 34)).size = 2 := by kernel_rfl
theorem o20q34q0 : opAt (opsC (nthC b20 34)) 0 = some (some 31, (.binOp .add 3 (.tmp 17) (.const (.int .i64 1)) 3), none) := by kernel_rfl
theorem o20q34q1 : opAt (opsC (nthC b20 34)) 1 = some (some 17, (.move (.tmp 31)), none) := by kernel_rfl
theorem c20q34 : nthC b20 34 = .region 9 (opsC (nthC b20 34)) false := by kernel_rfl
theorem c20q35 : nthC b20 35 = .seq (nthC b20 36) (nthC b20 37) := by kernel_rfl
theorem z20q36 : (opsC (nthC b20 36)).size = 1 := by kernel_rfl
theorem o20q36q0 : opAt (opsC (nthC b20 36)) 0 = some (some 6, (.assign (.const (.bool true))), none) := by kernel_rfl
theorem c20q36 : nthC b20 36 = .region 10 (opsC (nthC b20 36)) false := by kernel_rfl
theorem c20q37 : nthC b20 37 = .ret := by kernel_rfl
noncomputable def b21 : Code := (Tryz.f21.body).getD .skip
theorem hb21 : Tryz.f21.body = some (nthC b21 0) := by kernel_rfl
theorem c21q0 : nthC b21 0 = .seq (nthC b21 1) (nthC b21 2) := by kernel_rfl
theorem z21q1 : (opsC (nthC b21 1)).size = 3 := by kernel_rfl
theorem o21q1q0 : opAt (opsC (nthC b21 1)) 0 = some (some 2, (.box 36 (.tmp 0)), none) := by kernel_rfl
theorem o21q1q1 : opAt (opsC (nthC b21 1)) 1 = some (some 3, (.box 36 (.tmp 1)), none) := by kernel_rfl
theorem o21q1q2 : opAt (opsC (nthC b21 1)) 2 = some (some 4, (.assign (.const (.bool false))), none) := by kernel_rfl
theorem c21q1 : nthC b21 1 = .region 0 (opsC (nthC b21 1)) false := by kernel_rfl
theorem c21q2 : nthC b21 2 = .seq (nthC b21 3) (nthC b21 4) := by kernel_rfl
theorem z21q3 : (opsC (nthC b21 3)).size = 13 := by kernel_rfl
theorem o21q3q0 : opAt (opsC (nthC b21 3)) 0 = some (some 5, (.fieldAddr 36 (.tmp 2) 0), none) := by kernel_rfl
theorem o21q3q1 : opAt (opsC (nthC b21 3)) 1 = some (some 6, (.load 24 (.tmp 5)), none) := by kernel_rfl
theorem o21q3q2 : opAt (opsC (nthC b21 3)) 2 = some (some 7, (.fieldAddr 36 (.tmp 3) 0), none) := by kernel_rfl
theorem o21q3q3 : opAt (opsC (nthC b21 3)) 3 = some (some 8, (.load 24 (.tmp 7)), none) := by kernel_rfl
theorem o21q3q4 : opAt (opsC (nthC b21 3)) 4 = some (some 9, (.binOp .eql 24 (.tmp 6) (.tmp 8) 24), none) := by kernel_rfl
theorem o21q3q5 : opAt (opsC (nthC b21 3)) 5 = some (some 10, (.move (.tmp 9)), none) := by kernel_rfl
theorem o21q3q6 : opAt (opsC (nthC b21 3)) 6 = some (some 11, (.fieldAddr 36 (.tmp 2) 1), some (5, true)) := by kernel_rfl
theorem d21q3q5 : (opAt (opsC (nthC b21 3)) 5).bind (·.1) = some 10 := by kernel_rfl
theorem o21q3q7 : opAt (opsC (nthC b21 3)) 7 = some (some 12, (.load 34 (.tmp 11)), some (5, true)) := by kernel_rfl
theorem o21q3q8 : opAt (opsC (nthC b21 3)) 8 = some (some 13, (.fieldAddr 36 (.tmp 3) 1), some (5, true)) := by kernel_rfl
theorem o21q3q9 : opAt (opsC (nthC b21 3)) 9 = some (some 14, (.load 34 (.tmp 13)), some (5, true)) := by kernel_rfl
theorem o21q3q10 : opAt (opsC (nthC b21 3)) 10 = some (some 15, (.call ⟨.value (.func 47), #[(.tmp 12), (.tmp 14), (.func 48)], #[34, 34, 137]⟩), some (5, true)) := by kernel_rfl
theorem o21q3q11 : opAt (opsC (nthC b21 3)) 11 = some (some 16, (.pick (.tmp 10) (.tmp 15) (.const (.bool false))), none) := by kernel_rfl
theorem o21q3q12 : opAt (opsC (nthC b21 3)) 12 = some (some 4, (.assign (.tmp 16)), none) := by kernel_rfl
theorem c21q3 : nthC b21 3 = .region 1 (opsC (nthC b21 3)) false := by kernel_rfl
theorem c21q4 : nthC b21 4 = .ret := by kernel_rfl
noncomputable def b22 : Code := (Tryz.f22.body).getD .skip
theorem hb22 : Tryz.f22.body = some (nthC b22 0) := by kernel_rfl
theorem c22q0 : nthC b22 0 = .seq (nthC b22 1) (nthC b22 2) := by kernel_rfl
theorem z22q1 : (opsC (nthC b22 1)).size = 3 := by kernel_rfl
theorem o22q1q0 : opAt (opsC (nthC b22 1)) 0 = some (some 2, (.box 29 (.tmp 0)), none) := by kernel_rfl
theorem o22q1q1 : opAt (opsC (nthC b22 1)) 1 = some (some 3, (.box 29 (.tmp 1)), none) := by kernel_rfl
theorem o22q1q2 : opAt (opsC (nthC b22 1)) 2 = some (some 4, (.assign (.const (.bool false))), none) := by kernel_rfl
theorem c22q1 : nthC b22 1 = .region 0 (opsC (nthC b22 1)) false := by kernel_rfl
theorem c22q2 : nthC b22 2 = .seq (nthC b22 3) (nthC b22 4) := by kernel_rfl
theorem z22q3 : (opsC (nthC b22 3)).size = 20 := by kernel_rfl
theorem o22q3q0 : opAt (opsC (nthC b22 3)) 0 = some (some 5, (.fieldAddr 29 (.tmp 2) 0), none) := by kernel_rfl
theorem o22q3q1 : opAt (opsC (nthC b22 3)) 1 = some (some 6, (.load 3 (.tmp 5)), none) := by kernel_rfl
theorem o22q3q2 : opAt (opsC (nthC b22 3)) 2 = some (some 7, (.fieldAddr 29 (.tmp 3) 0), none) := by kernel_rfl
theorem o22q3q3 : opAt (opsC (nthC b22 3)) 3 = some (some 8, (.load 3 (.tmp 7)), none) := by kernel_rfl
theorem o22q3q4 : opAt (opsC (nthC b22 3)) 4 = some (some 9, (.binOp .eql 3 (.tmp 6) (.tmp 8) 3), none) := by kernel_rfl
theorem o22q3q5 : opAt (opsC (nthC b22 3)) 5 = some (some 10, (.move (.tmp 9)), none) := by kernel_rfl
theorem o22q3q6 : opAt (opsC (nthC b22 3)) 6 = some (some 11, (.fieldAddr 29 (.tmp 2) 1), some (5, true)) := by kernel_rfl
theorem d22q3q5 : (opAt (opsC (nthC b22 3)) 5).bind (·.1) = some 10 := by kernel_rfl
theorem o22q3q7 : opAt (opsC (nthC b22 3)) 7 = some (some 12, (.load 3 (.tmp 11)), some (5, true)) := by kernel_rfl
theorem o22q3q8 : opAt (opsC (nthC b22 3)) 8 = some (some 13, (.fieldAddr 29 (.tmp 3) 1), some (5, true)) := by kernel_rfl
theorem o22q3q9 : opAt (opsC (nthC b22 3)) 9 = some (some 14, (.load 3 (.tmp 13)), some (5, true)) := by kernel_rfl
theorem o22q3q10 : opAt (opsC (nthC b22 3)) 10 = some (some 15, (.binOp .eql 3 (.tmp 12) (.tmp 14) 3), some (5, true)) := by kernel_rfl
theorem o22q3q11 : opAt (opsC (nthC b22 3)) 11 = some (some 16, (.pick (.tmp 10) (.tmp 15) (.const (.bool false))), none) := by kernel_rfl
theorem o22q3q12 : opAt (opsC (nthC b22 3)) 12 = some (some 17, (.move (.tmp 16)), none) := by kernel_rfl
theorem o22q3q13 : opAt (opsC (nthC b22 3)) 13 = some (some 18, (.fieldAddr 29 (.tmp 2) 2), some (12, true)) := by kernel_rfl
theorem d22q3q12 : (opAt (opsC (nthC b22 3)) 12).bind (·.1) = some 17 := by kernel_rfl
theorem o22q3q14 : opAt (opsC (nthC b22 3)) 14 = some (some 19, (.load 27 (.tmp 18)), some (12, true)) := by kernel_rfl
theorem o22q3q15 : opAt (opsC (nthC b22 3)) 15 = some (some 20, (.fieldAddr 29 (.tmp 3) 2), some (12, true)) := by kernel_rfl
theorem o22q3q16 : opAt (opsC (nthC b22 3)) 16 = some (some 21, (.load 27 (.tmp 20)), some (12, true)) := by kernel_rfl
theorem o22q3q17 : opAt (opsC (nthC b22 3)) 17 = some (some 22, (.call ⟨.value (.func 49), #[(.tmp 19), (.tmp 21)], #[27, 27]⟩), some (12, true)) := by kernel_rfl
theorem o22q3q18 : opAt (opsC (nthC b22 3)) 18 = some (some 23, (.pick (.tmp 17) (.tmp 22) (.const (.bool false))), none) := by kernel_rfl
theorem o22q3q19 : opAt (opsC (nthC b22 3)) 19 = some (some 4, (.assign (.tmp 23)), none) := by kernel_rfl
theorem c22q3 : nthC b22 3 = .region 1 (opsC (nthC b22 3)) false := by kernel_rfl
theorem c22q4 : nthC b22 4 = .ret := by kernel_rfl
noncomputable def b47 : Code := (Tryz.f47.body).getD .skip
theorem hb47 : Tryz.f47.body = some (nthC b47 0) := by kernel_rfl
theorem c47q0 : nthC b47 0 = .seq (nthC b47 1) (nthC b47 2) := by kernel_rfl
theorem z47q1 : (opsC (nthC b47 1)).size = 1 := by kernel_rfl
theorem o47q1q0 : opAt (opsC (nthC b47 1)) 0 = some (some 6, (.assign (.const (.bool false))), none) := by kernel_rfl
theorem c47q1 : nthC b47 1 = .region 0 (opsC (nthC b47 1)) false := by kernel_rfl
theorem c47q2 : nthC b47 2 = .seq (nthC b47 3) (nthC b47 10) := by kernel_rfl
theorem c47q3 : nthC b47 3 = .seq (nthC b47 4) (nthC b47 5) := by kernel_rfl
theorem z47q4 : (opsC (nthC b47 4)).size = 5 := by kernel_rfl
theorem o47q4q0 : opAt (opsC (nthC b47 4)) 0 = some (some 10, (.move (.tmp 0)), none) := by kernel_rfl
theorem o47q4q1 : opAt (opsC (nthC b47 4)) 1 = some (some 11, (.call ⟨.builtin .len, #[(.tmp 10)], #[34]⟩), none) := by kernel_rfl
theorem o47q4q2 : opAt (opsC (nthC b47 4)) 2 = some (some 12, (.move (.tmp 1)), none) := by kernel_rfl
theorem o47q4q3 : opAt (opsC (nthC b47 4)) 3 = some (some 13, (.call ⟨.builtin .len, #[(.tmp 12)], #[34]⟩), none) := by kernel_rfl
theorem o47q4q4 : opAt (opsC (nthC b47 4)) 4 = some (some 14, (.binOp .neq 3 (.tmp 11) (.tmp 13) 3), none) := by kernel_rfl
theorem c47q4 : nthC b47 4 = .region 1 (opsC (nthC b47 4)) false := by kernel_rfl
theorem c47q5 : nthC b47 5 = .cond (.tmp 14) (nthC b47 6) (nthC b47 9) := by kernel_rfl
theorem c47q6 : nthC b47 6 = .seq (nthC b47 7) (nthC b47 8) := by kernel_rfl
theorem z47q7 : (opsC (nthC b47 7)).size = 1 := by kernel_rfl
theorem o47q7q0 : opAt (opsC (nthC b47 7)) 0 = some (some 6, (.assign (.const (.bool false))), none) := by kernel_rfl
theorem c47q7 : nthC b47 7 = .region 2 (opsC (nthC b47 7)) false := by kernel_rfl
theorem c47q8 : nthC b47 8 = .ret := by kernel_rfl
theorem c47q9 : nthC b47 9 = .skip := by kernel_rfl
theorem c47q10 : nthC b47 10 = .seq (nthC b47 11) (nthC b47 35) := by kernel_rfl
theorem c47q11 : nthC b47 11 = .seq (nthC b47 12) (nthC b47 13) := by kernel_rfl
theorem z47q12 : (opsC (nthC b47 12)).size = 3 := by kernel_rfl
theorem o47q12q0 : opAt (opsC (nthC b47 12)) 0 = some (some 15, (.move (.tmp 0)), none) := by kernel_rfl
theorem o47q12q1 : opAt (opsC (nthC b47 12)) 1 = some (some 16, (.call ⟨.builtin .len, #[(.tmp 15)], #[34]⟩), none) := by kernel_rfl
theorem o47q12q2 : opAt (opsC (nthC b47 12)) 2 = some (some 17, (.move (.const (.int .i64 0))), none) := by kernel_rfl
theorem c47q12 : nthC b47 12 = .region 3 (opsC (nthC b47 12)) false := by kernel_rfl
theorem c47q13 : nthC b47 13 = .block 0 (nthC b47 14) := by kernel_rfl
theorem c47q14 : nthC b47 14 = .loop (nthC b47 15) := by kernel_rfl
theorem c47q15 : nthC b47 15 = .seq (nthC b47 16) (nthC b47 17) := by kernel_rfl
theorem z47q16 : (opsC (nthC b47 16)).size = 1 := by kernel_rfl
theorem o47q16q0 : opAt (opsC (nthC b47 16)) 0 = some (some 18, (.binOp .lss 3 (.tmp 17) (.tmp 16) 3), none) := by kernel_rfl
theorem c47q16 : nthC b47 16 = .region 4 (opsC (nthC b47 16)) false := by kernel_rfl
theorem c47q17 : nthC b47 17 = .seq (nthC b47 18) (nthC b47 21) := by kernel_rfl
theorem c47q18 : nthC b47 18 = .cond (.tmp 18) (nthC b47 19) (nthC b47 20) := by kernel_rfl
theorem c47q19 : nthC b47 19 = .skip := by kernel_rfl
theorem c47q20 : nthC b47 20 = .exit 0 := by kernel_rfl
theorem c47q21 : nthC b47 21 = .seq (nthC b47 22) (nthC b47 34) := by kernel_rfl
theorem c47q22 : nthC b47 22 = .block 1 (nthC b47 23) := by kernel_rfl
theorem c47q23 : nthC b47 23 = .seq (nthC b47 24) (nthC b47 25) := by kernel_rfl
theorem z47q24 : (opsC (nthC b47 24)).size = 6 := by kernel_rfl
theorem o47q24q0 : opAt (opsC (nthC b47 24)) 0 = some (some 19, (.move (.tmp 17)), none) := by kernel_rfl
theorem o47q24q1 : opAt (opsC (nthC b47 24)) 1 = some (some 20, (.indexAddr 34 (.tmp 15) (.tmp 17)), none) := by kernel_rfl
theorem o47q24q2 : opAt (opsC (nthC b47 24)) 2 = some (some 21, (.load 74 (.tmp 20)), none) := by kernel_rfl
theorem o47q24q3 : opAt (opsC (nthC b47 24)) 3 = some (some 8, (.alloc 74), none) := by kernel_rfl
theorem o47q24q4 : opAt (opsC (nthC b47 24)) 4 = some (some 7, (.assign (.tmp 19)), none) := by kernel_rfl
theorem o47q24q5 : opAt (opsC (nthC b47 24)) 5 = some (none, (.store 74 (.tmp 8) (.tmp 21)), none) := by kernel_rfl
theorem c47q24 : nthC b47 24 = .region 5 (opsC (nthC b47 24)) false := by kernel_rfl
theorem c47q25 : nthC b47 25 = .seq (nthC b47 26) (nthC b47 27) := by kernel_rfl
theorem z47q26 : (opsC (nthC b47 26)).size = 6 := by kernel_rfl
theorem o47q26q0 : opAt (opsC (nthC b47 26)) 0 = some (some 22, (.move (.tmp 1)), none) := by kernel_rfl
theorem o47q26q1 : opAt (opsC (nthC b47 26)) 1 = some (some 23, (.move (.tmp 7)), none) := by kernel_rfl
theorem o47q26q2 : opAt (opsC (nthC b47 26)) 2 = some (some 24, (.indexAddr 34 (.tmp 22) (.tmp 23)), none) := by kernel_rfl
theorem o47q26q3 : opAt (opsC (nthC b47 26)) 3 = some (some 25, (.load 74 (.tmp 24)), none) := by kernel_rfl
theorem o47q26q4 : opAt (opsC (nthC b47 26)) 4 = some (some 9, (.alloc 74), none) := by kernel_rfl
theorem o47q26q5 : opAt (opsC (nthC b47 26)) 5 = some (none, (.store 74 (.tmp 9) (.tmp 25)), none) := by kernel_rfl
theorem c47q26 : nthC b47 26 = .region 6 (opsC (nthC b47 26)) false := by kernel_rfl
theorem c47q27 : nthC b47 27 = .seq (nthC b47 28) (nthC b47 29) := by kernel_rfl
theorem z47q28 : (opsC (nthC b47 28)).size = 5 := by kernel_rfl
theorem o47q28q0 : opAt (opsC (nthC b47 28)) 0 = some (some 26, (.move (.tmp 2)), none) := by kernel_rfl
theorem o47q28q1 : opAt (opsC (nthC b47 28)) 1 = some (some 27, (.load 74 (.tmp 8)), none) := by kernel_rfl
theorem o47q28q2 : opAt (opsC (nthC b47 28)) 2 = some (some 28, (.load 74 (.tmp 9)), none) := by kernel_rfl
theorem o47q28q3 : opAt (opsC (nthC b47 28)) 3 = some (some 29, (.call ⟨.value (.tmp 26), #[(.tmp 27), (.tmp 28)], #[74, 74]⟩), none) := by kernel_rfl
theorem o47q28q4 : opAt (opsC (nthC b47 28)) 4 = some (some 30, (.unOp .not 4 (.tmp 29)), none) := by kernel_rfl
theorem c47q28 : nthC b47 28 = .region 7 (opsC (nthC b47 28)) false := by kernel_rfl
theorem c47q29 : nthC b47 29 = .cond (.tmp 30) (nthC b47 30) (nthC b47 33) := by kernel_rfl
theorem c47q30 : nthC b47 30 = .seq (nthC b47 31) (nthC b47 32) := by kernel_rfl
theorem z47q31 : (opsC (nthC b47 31)).size = 1 := by kernel_rfl
theorem o47q31q0 : opAt (opsC (nthC b47 31)) 0 = some (some 6, (.assign (.const (.bool false))), none) := by kernel_rfl
theorem c47q31 : nthC b47 31 = .region 8 (opsC (nthC b47 31)) false := by kernel_rfl
theorem c47q32 : nthC b47 32 = .ret := by kernel_rfl
theorem c47q33 : nthC b47 33 = .skip := by kernel_rfl
theorem z47q34 : (opsC (nthC b47 34)).size = 2 := by kernel_rfl
theorem o47q34q0 : opAt (opsC (nthC b47 34)) 0 = some (some 31, (.binOp .add 3 (.tmp 17) (.const (.int .i64 1)) 3), none) := by kernel_rfl
theorem o47q34q1 : opAt (opsC (nthC b47 34)) 1 = some (some 17, (.move (.tmp 31)), none) := by kernel_rfl
theorem c47q34 : nthC b47 34 = .region 9 (opsC (nthC b47 34)) false := by kernel_rfl
theorem c47q35 : nthC b47 35 = .seq (nthC b47 36) (nthC b47 37) := by kernel_rfl
theorem z47q36 : (opsC (nthC b47 36)).size = 1 := by kernel_rfl
theorem o47q36q0 : opAt (opsC (nthC b47 36)) 0 = some (some 6, (.assign (.const (.bool true))), none) := by kernel_rfl
theorem c47q36 : nthC b47 36 = .region 10 (opsC (nthC b47 36)) false := by kernel_rfl
theorem c47q37 : nthC b47 37 = .ret := by kernel_rfl
noncomputable def b48 : Code := (Tryz.f48.body).getD .skip
theorem hb48 : Tryz.f48.body = some (nthC b48 0) := by kernel_rfl
theorem c48q0 : nthC b48 0 = .seq (nthC b48 1) (nthC b48 2) := by kernel_rfl
theorem z48q1 : (opsC (nthC b48 1)).size = 3 := by kernel_rfl
theorem o48q1q0 : opAt (opsC (nthC b48 1)) 0 = some (some 2, (.box 74 (.tmp 0)), none) := by kernel_rfl
theorem o48q1q1 : opAt (opsC (nthC b48 1)) 1 = some (some 3, (.box 74 (.tmp 1)), none) := by kernel_rfl
theorem o48q1q2 : opAt (opsC (nthC b48 1)) 2 = some (some 4, (.assign (.const (.bool false))), none) := by kernel_rfl
theorem c48q1 : nthC b48 1 = .region 0 (opsC (nthC b48 1)) false := by kernel_rfl
theorem c48q2 : nthC b48 2 = .seq (nthC b48 3) (nthC b48 4) := by kernel_rfl
theorem z48q3 : (opsC (nthC b48 3)).size = 13 := by kernel_rfl
theorem o48q3q0 : opAt (opsC (nthC b48 3)) 0 = some (some 5, (.fieldAddr 74 (.tmp 2) 0), none) := by kernel_rfl
theorem o48q3q1 : opAt (opsC (nthC b48 3)) 1 = some (some 6, (.load 3 (.tmp 5)), none) := by kernel_rfl
theorem o48q3q2 : opAt (opsC (nthC b48 3)) 2 = some (some 7, (.fieldAddr 74 (.tmp 3) 0), none) := by kernel_rfl
theorem o48q3q3 : opAt (opsC (nthC b48 3)) 3 = some (some 8, (.load 3 (.tmp 7)), none) := by kernel_rfl
theorem o48q3q4 : opAt (opsC (nthC b48 3)) 4 = some (some 9, (.binOp .eql 3 (.tmp 6) (.tmp 8) 3), none) := by kernel_rfl
theorem o48q3q5 : opAt (opsC (nthC b48 3)) 5 = some (some 10, (.move (.tmp 9)), none) := by kernel_rfl
theorem o48q3q6 : opAt (opsC (nthC b48 3)) 6 = some (some 11, (.fieldAddr 74 (.tmp 2) 1), some (5, true)) := by kernel_rfl
theorem d48q3q5 : (opAt (opsC (nthC b48 3)) 5).bind (·.1) = some 10 := by kernel_rfl
theorem o48q3q7 : opAt (opsC (nthC b48 3)) 7 = some (some 12, (.load 25 (.tmp 11)), some (5, true)) := by kernel_rfl
theorem o48q3q8 : opAt (opsC (nthC b48 3)) 8 = some (some 13, (.fieldAddr 74 (.tmp 3) 1), some (5, true)) := by kernel_rfl
theorem o48q3q9 : opAt (opsC (nthC b48 3)) 9 = some (some 14, (.load 25 (.tmp 13)), some (5, true)) := by kernel_rfl
theorem o48q3q10 : opAt (opsC (nthC b48 3)) 10 = some (some 15, (.call ⟨.value (.func 19), #[(.tmp 12), (.tmp 14)], #[25, 25]⟩), some (5, true)) := by kernel_rfl
theorem o48q3q11 : opAt (opsC (nthC b48 3)) 11 = some (some 16, (.pick (.tmp 10) (.tmp 15) (.const (.bool false))), none) := by kernel_rfl
theorem o48q3q12 : opAt (opsC (nthC b48 3)) 12 = some (some 4, (.assign (.tmp 16)), none) := by kernel_rfl
theorem c48q3 : nthC b48 3 = .region 1 (opsC (nthC b48 3)) false := by kernel_rfl
theorem c48q4 : nthC b48 4 = .ret := by kernel_rfl
noncomputable def b49 : Code := (Tryz.f49.body).getD .skip
theorem hb49 : Tryz.f49.body = some (nthC b49 0) := by kernel_rfl
theorem c49q0 : nthC b49 0 = .seq (nthC b49 1) (nthC b49 2) := by kernel_rfl
theorem z49q1 : (opsC (nthC b49 1)).size = 1 := by kernel_rfl
theorem o49q1q0 : opAt (opsC (nthC b49 1)) 0 = some (some 4, (.assign (.const (.bool false))), none) := by kernel_rfl
theorem c49q1 : nthC b49 1 = .region 0 (opsC (nthC b49 1)) false := by kernel_rfl
theorem c49q2 : nthC b49 2 = .seq (nthC b49 3) (nthC b49 10) := by kernel_rfl
theorem c49q3 : nthC b49 3 = .seq (nthC b49 4) (nthC b49 5) := by kernel_rfl
theorem z49q4 : (opsC (nthC b49 4)).size = 5 := by kernel_rfl
theorem o49q4q0 : opAt (opsC (nthC b49 4)) 0 = some (some 6, (.move (.tmp 0)), none) := by kernel_rfl
theorem o49q4q1 : opAt (opsC (nthC b49 4)) 1 = some (some 7, (.call ⟨.builtin .len, #[(.tmp 6)], #[27]⟩), none) := by kernel_rfl
theorem o49q4q2 : opAt (opsC (nthC b49 4)) 2 = some (some 8, (.move (.tmp 1)), none) := by kernel_rfl
theorem o49q4q3 : opAt (opsC (nthC b49 4)) 3 = some (some 9, (.call ⟨.builtin .len, #[(.tmp 8)], #[27]⟩), none) := by kernel_rfl
theorem o49q4q4 : opAt (opsC (nthC b49 4)) 4 = some (some 10, (.binOp .neq 3 (.tmp 7) (.tmp 9) 3), none) := by kernel_rfl
theorem c49q4 : nthC b49 4 = .region 1 (opsC (nthC b49 4)) false := by kernel_rfl
theorem c49q5 : nthC b49 5 = .cond (.tmp 10) (nthC b49 6) (nthC b49 9) := by kernel_rfl
theorem c49q6 : nthC b49 6 = .seq (nthC b49 7) (nthC b49 8) := by kernel_rfl
theorem z49q7 : (opsC (nthC b49 7)).size = 1 := by kernel_rfl
theorem o49q7q0 : opAt (opsC (nthC b49 7)) 0 = some (some 4, (.assign (.const (.bool false))), none) := by kernel_rfl
theorem c49q7 : nthC b49 7 = .region 2 (opsC (nthC b49 7)) false := by kernel_rfl
theorem c49q8 : nthC b49 8 = .ret := by kernel_rfl
theorem c49q9 : nthC b49 9 = .skip := by kernel_rfl
theorem c49q10 : nthC b49 10 = .seq (nthC b49 11) (nthC b49 33) := by kernel_rfl
theorem c49q11 : nthC b49 11 = .seq (nthC b49 12) (nthC b49 13) := by kernel_rfl
theorem z49q12 : (opsC (nthC b49 12)).size = 3 := by kernel_rfl
theorem o49q12q0 : opAt (opsC (nthC b49 12)) 0 = some (some 11, (.move (.tmp 0)), none) := by kernel_rfl
theorem o49q12q1 : opAt (opsC (nthC b49 12)) 1 = some (some 12, (.call ⟨.builtin .len, #[(.tmp 11)], #[27]⟩), none) := by kernel_rfl
theorem o49q12q2 : opAt (opsC (nthC b49 12)) 2 = some (some 13, (.move (.const (.int .i64 0))), none) := by kernel_rfl
theorem c49q12 : nthC b49 12 = .region 3 (opsC (nthC b49 12)) false := by kernel_rfl
theorem c49q13 : nthC b49 13 = .block 0 (nthC b49 14) := by kernel_rfl
theorem c49q14 : nthC b49 14 = .loop (nthC b49 15) := by kernel_rfl
theorem c49q15 : nthC b49 15 = .seq (nthC b49 16) (nthC b49 17) := by kernel_rfl
theorem z49q16 : (opsC (nthC b49 16)).size = 1 := by kernel_rfl
theorem o49q16q0 : opAt (opsC (nthC b49 16)) 0 = some (some 14, (.binOp .lss 3 (.tmp 13) (.tmp 12) 3), none) := by kernel_rfl
theorem c49q16 : nthC b49 16 = .region 4 (opsC (nthC b49 16)) false := by kernel_rfl
theorem c49q17 : nthC b49 17 = .seq (nthC b49 18) (nthC b49 21) := by kernel_rfl
theorem c49q18 : nthC b49 18 = .cond (.tmp 14) (nthC b49 19) (nthC b49 20) := by kernel_rfl
theorem c49q19 : nthC b49 19 = .skip := by kernel_rfl
theorem c49q20 : nthC b49 20 = .exit 0 := by kernel_rfl
theorem c49q21 : nthC b49 21 = .seq (nthC b49 22) (nthC b49 32) := by kernel_rfl
theorem c49q22 : nthC b49 22 = .block 1 (nthC b49 23) := by kernel_rfl
theorem c49q23 : nthC b49 23 = .seq (nthC b49 24) (nthC b49 25) := by kernel_rfl
theorem z49q24 : (opsC (nthC b49 24)).size = 2 := by kernel_rfl
theorem o49q24q0 : opAt (opsC (nthC b49 24)) 0 = some (some 15, (.move (.tmp 13)), none) := by kernel_rfl
theorem o49q24q1 : opAt (opsC (nthC b49 24)) 1 = some (some 5, (.assign (.tmp 15)), none) := by kernel_rfl
theorem c49q24 : nthC b49 24 = .region 5 (opsC (nthC b49 24)) false := by kernel_rfl
theorem c49q25 : nthC b49 25 = .seq (nthC b49 26) (nthC b49 27) := by kernel_rfl
theorem z49q26 : (opsC (nthC b49 26)).size = 9 := by kernel_rfl
theorem o49q26q0 : opAt (opsC (nthC b49 26)) 0 = some (some 16, (.move (.tmp 0)), none) := by kernel_rfl
theorem o49q26q1 : opAt (opsC (nthC b49 26)) 1 = some (some 17, (.move (.tmp 5)), none) := by kernel_rfl
theorem o49q26q2 : opAt (opsC (nthC b49 26)) 2 = some (some 18, (.indexAddr 27 (.tmp 16) (.tmp 17)), none) := by kernel_rfl
theorem o49q26q3 : opAt (opsC (nthC b49 26)) 3 = some (some 19, (.load 9 (.tmp 18)), none) := by kernel_rfl
theorem o49q26q4 : opAt (opsC (nthC b49 26)) 4 = some (some 20, (.move (.tmp 1)), none) := by kernel_rfl
theorem o49q26q5 : opAt (opsC (nthC b49 26)) 5 = some (some 21, (.move (.tmp 5)), none) := by kernel_rfl
theorem o49q26q6 : opAt (opsC (nthC b49 26)) 6 = some (some 22, (.indexAddr 27 (.tmp 20) (.tmp 21)), none) := by kernel_rfl
theorem o49q26q7 : opAt (opsC (nthC b49 26)) 7 = some (some 23, (.load 9 (.tmp 22)), none) := by kernel_rfl
theorem o49q26q8 : opAt (opsC (nthC b49 26)) 8 = some (some 24, (.binOp .neq 9 (.tmp 19) (.tmp 23) 9), none) := by kernel_rfl
theorem c49q26 : nthC b49 26 = .region 6 (opsC (nthC b49 26)) true := by kernel_rfl
theorem c49q27 : nthC b49 27 = .cond (.tmp 24) (nthC b49 28) (nthC b49 31) := by kernel_rfl
theorem c49q28 : nthC b49 28 = .seq (nthC b49 29) (nthC b49 30) := by kernel_rfl
theorem z49q29 : (opsC (nthC b49 29)).size = 1 := by kernel_rfl
theorem o49q29q0 : opAt (opsC (nthC b49 29)) 0 = some (some 4, (.assign (.const (.bool false))), none) := by kernel_rfl
theorem c49q29 : nthC b49 29 = .region 7 (opsC (nthC b49 29)) false := by kernel_rfl
theorem c49q30 : nthC b49 30 = .ret := by kernel_rfl
theorem c49q31 : nthC b49 31 = .skip := by kernel_rfl
theorem z49q32 : (opsC (nthC b49 32)).size = 2 := by kernel_rfl
theorem o49q32q0 : opAt (opsC (nthC b49 32)) 0 = some (some 25, (.binOp .add 3 (.tmp 13) (.const (.int .i64 1)) 3), none) := by kernel_rfl
theorem o49q32q1 : opAt (opsC (nthC b49 32)) 1 = some (some 13, (.move (.tmp 25)), none) := by kernel_rfl
theorem c49q32 : nthC b49 32 = .region 8 (opsC (nthC b49 32)) false := by kernel_rfl
theorem c49q33 : nthC b49 33 = .seq (nthC b49 34) (nthC b49 35) := by kernel_rfl
theorem z49q34 : (opsC (nthC b49 34)).size = 1 := by kernel_rfl
theorem o49q34q0 : opAt (opsC (nthC b49 34)) 0 = some (some 4, (.assign (.const (.bool true))), none) := by kernel_rfl
theorem c49q34 : nthC b49 34 = .region 9 (opsC (nthC b49 34)) false := by kernel_rfl
theorem c49q35 : nthC b49 35 = .ret := by kernel_rfl
def G3q0 := PLift.up (And.intro (Tryz.results3) <| And.intro (A_seq1 Tryz.prog prim 114 c3q0) <| And.intro (A_region1 Tryz.prog prim 114 c3q1) <| And.intro (N_end1 Tryz.prog prim 114 z3q1) <| And.intro (N_op1 Tryz.prog prim 114 o3q1q0) <| And.intro (N_op1 Tryz.prog prim 114 o3q1q1) <| And.intro (N_op1 Tryz.prog prim 114 o3q1q2) <| And.intro (A_seq1 Tryz.prog prim 114 c3q2) <| And.intro (A_seq1 Tryz.prog prim 114 c3q3) <| And.intro (A_region1 Tryz.prog prim 114 c3q4) <| And.intro (N_end1 Tryz.prog prim 114 z3q4) <| And.intro (N_op1 Tryz.prog prim 114 o3q4q0) <| And.intro (N_op1 Tryz.prog prim 114 o3q4q1) <| And.intro (A_cond1 Tryz.prog prim 114 c3q5) <| And.intro (A_seq1 Tryz.prog prim 114 c3q6) <| And.intro (A_region1 Tryz.prog prim 114 c3q7) <| And.intro (N_end1 Tryz.prog prim 114 z3q7) <| And.intro (N_op1 Tryz.prog prim 114 o3q7q0) <| And.intro (A_ret1 Tryz.prog prim 114 c3q8) <| And.intro (A_skip1 Tryz.prog prim 114 c3q9) <| And.intro (A_seq1 Tryz.prog prim 114 c3q10) <| And.intro (A_seq1 Tryz.prog prim 114 c3q11) <| And.intro (A_region1 Tryz.prog prim 114 c3q12) <| And.intro (N_end1 Tryz.prog prim 114 z3q12) <| And.intro (N_op1 Tryz.prog prim 114 o3q12q0) <| And.intro (N_op1 Tryz.prog prim 114 o3q12q1) <| And.intro (N_op1 Tryz.prog prim 114 o3q12q2) <| And.intro (N_op1 Tryz.prog prim 114 o3q12q3) <| And.intro (N_op1 Tryz.prog prim 114 o3q12q4) <| And.intro (N_gd1 Tryz.prog prim 114 o3q12q5 d3q12q4) <| And.intro (N_gd1 Tryz.prog prim 114 o3q12q6 d3q12q4) <| And.intro (N_gd1 Tryz.prog prim 114 o3q12q7 d3q12q4) <| And.intro (N_gd1 Tryz.prog prim 114 o3q12q8 d3q12q4) <| And.intro (N_op1 Tryz.prog prim 114 o3q12q9) <| And.intro (N_op1 Tryz.prog prim 114 o3q12q10) <| And.intro (N_gd1 Tryz.prog prim 114 o3q12q11 d3q12q10) <| And.intro (N_gd1 Tryz.prog prim 114 o3q12q12 d3q12q10) <| And.intro (N_gd1 Tryz.prog prim 114 o3q12q13 d3q12q10) <| And.intro (N_gd1 Tryz.prog prim 114 o3q12q14 d3q12q10) <| And.intro (N_op1 Tryz.prog prim 114 o3q12q15) <| And.intro (N_op1 Tryz.prog prim 114 o3q12q16) <| And.intro (N_gd1 Tryz.prog prim 114 o3q12q17 d3q12q16) <| And.intro (N_gd1 Tryz.prog prim 114 o3q12q18 d3q12q16) <| And.intro (N_gd1 Tryz.prog prim 114 o3q12q19 d3q12q16) <| And.intro (N_gd1 Tryz.prog prim 114 o3q12q20 d3q12q16) <| And.intro (N_op1 Tryz.prog prim 114 o3q12q21) <| And.intro (A_cond1 Tryz.prog prim 114 c3q13) <| And.intro (A_seq1 Tryz.prog prim 114 c3q14) <| And.intro (A_region1 Tryz.prog prim 114 c3q15) <| And.intro (N_end1 Tryz.prog prim 114 z3q15) <| And.intro (N_op1 Tryz.prog prim 114 o3q15q0) <| And.intro (A_ret1 Tryz.prog prim 114 c3q16) <| And.intro (A_skip1 Tryz.prog prim 114 c3q17) <| And.intro (A_seq1 Tryz.prog prim 114 c3q18) <| And.intro (A_region1 Tryz.prog prim 114 c3q19) <| And.intro (N_end1 Tryz.prog prim 114 z3q19) <| And.intro (N_op1 Tryz.prog prim 114 o3q19q0) <| And.intro (N_op1 Tryz.prog prim 114 o3q19q1) <| And.intro (N_op1 Tryz.prog prim 114 o3q19q2) <| N_op1 Tryz.prog prim 114 o3q19q3)
def G3q1 := PLift.up (And.intro (N_op1 Tryz.prog prim 114 o3q19q4) <| And.intro (N_op1 Tryz.prog prim 114 o3q19q5) <| And.intro (N_op1 Tryz.prog prim 114 o3q19q6) <| And.intro (N_op1 Tryz.prog prim 114 o3q19q7) <| And.intro (A_seq1 Tryz.prog prim 114 c3q20) <| And.intro (A_seq1 Tryz.prog prim 114 c3q21) <| And.intro (A_region1 Tryz.prog prim 114 c3q22) <| And.intro (N_end1 Tryz.prog prim 114 z3q22) <| And.intro (N_op1 Tryz.prog prim 114 o3q22q0) <| And.intro (A_block1 Tryz.prog prim 114 c3q23) <| And.intro (A_loop1 Tryz.prog prim 114 c3q24) <| And.intro (A_seq1 Tryz.prog prim 114 c3q25) <| And.intro (A_seq1 Tryz.prog prim 114 c3q26) <| And.intro (A_region1 Tryz.prog prim 114 c3q27) <| And.intro (N_end1 Tryz.prog prim 114 z3q27) <| And.intro (N_op1 Tryz.prog prim 114 o3q27q0) <| And.intro (N_op1 Tryz.prog prim 114 o3q27q1) <| And.intro (N_gd1 Tryz.prog prim 114 o3q27q2 d3q27q1) <| And.intro (N_gd1 Tryz.prog prim 114 o3q27q3 d3q27q1) <| And.intro (N_gd1 Tryz.prog prim 114 o3q27q4 d3q27q1) <| And.intro (N_gd1 Tryz.prog prim 114 o3q27q5 d3q27q1) <| And.intro (N_gd1 Tryz.prog prim 114 o3q27q6 d3q27q1) <| And.intro (N_op1 Tryz.prog prim 114 o3q27q7) <| And.intro (A_cond1 Tryz.prog prim 114 c3q28) <| And.intro (A_skip1 Tryz.prog prim 114 c3q29) <| And.intro (A_exit1 Tryz.prog prim 114 c3q30) <| And.intro (A_seq1 Tryz.prog prim 114 c3q31) <| And.intro (A_block1 Tryz.prog prim 114 c3q32) <| And.intro (A_draw1 Tryz.prog prim 114 c3q33) <| And.intro (A_region1 Tryz.prog prim 114 c3q34) <| And.intro (N_end1 Tryz.prog prim 114 z3q34) <| And.intro (N_op1 Tryz.prog prim 114 o3q34q0) <| And.intro (N_op1 Tryz.prog prim 114 o3q34q1) <| And.intro (N_op1 Tryz.prog prim 114 o3q34q2) <| And.intro (A_region1 Tryz.prog prim 114 c3q36) <| And.intro (N_end1 Tryz.prog prim 114 z3q36) <| And.intro (N_op1 Tryz.prog prim 114 o3q36q0) <| And.intro (N_op1 Tryz.prog prim 114 o3q36q1) <| And.intro (N_op1 Tryz.prog prim 114 o3q36q2) <| And.intro (N_op1 Tryz.prog prim 114 o3q36q3) <| And.intro (N_op1 Tryz.prog prim 114 o3q36q4) <| And.intro (N_op1 Tryz.prog prim 114 o3q36q5) <| And.intro (N_gd1 Tryz.prog prim 114 o3q36q6 d3q36q5) <| And.intro (N_gd1 Tryz.prog prim 114 o3q36q7 d3q36q5) <| And.intro (N_gd1 Tryz.prog prim 114 o3q36q8 d3q36q5) <| And.intro (N_gd1 Tryz.prog prim 114 o3q36q9 d3q36q5) <| And.intro (N_gd1 Tryz.prog prim 114 o3q36q10 d3q36q5) <| And.intro (N_op1 Tryz.prog prim 114 o3q36q11) <| And.intro (N_op1 Tryz.prog prim 114 o3q36q12) <| And.intro (N_gd1 Tryz.prog prim 114 o3q36q13 d3q36q12) <| And.intro (N_gd1 Tryz.prog prim 114 o3q36q14 d3q36q12) <| And.intro (N_gd1 Tryz.prog prim 114 o3q36q15 d3q36q12) <| And.intro (N_gd1 Tryz.prog prim 114 o3q36q16 d3q36q12) <| And.intro (N_gd1 Tryz.prog prim 114 o3q36q17 d3q36q12) <| And.intro (N_op1 Tryz.prog prim 114 o3q36q18) <| And.intro (N_op1 Tryz.prog prim 114 o3q36q19) <| And.intro (N_gd1 Tryz.prog prim 114 o3q36q20 d3q36q19) <| And.intro (N_op1 Tryz.prog prim 114 o3q36q21) <| And.intro (N_op1 Tryz.prog prim 114 o3q36q22) <| N_gd1 Tryz.prog prim 114 o3q36q23 d3q36q22)
def G3q2 := PLift.up (And.intro (N_gd1 Tryz.prog prim 114 o3q36q24 d3q36q22) <| And.intro (N_gd1 Tryz.prog prim 114 o3q36q25 d3q36q22) <| And.intro (N_gd1 Tryz.prog prim 114 o3q36q26 d3q36q22) <| And.intro (N_gd1 Tryz.prog prim 114 o3q36q27 d3q36q22) <| And.intro (N_gd1 Tryz.prog prim 114 o3q36q28 d3q36q22) <| And.intro (N_gd1 Tryz.prog prim 114 o3q36q29 d3q36q22) <| And.intro (N_op1 Tryz.prog prim 114 o3q36q30) <| And.intro (N_op1 Tryz.prog prim 114 o3q36q31) <| And.intro (N_gd1 Tryz.prog prim 114 o3q36q32 d3q36q31) <| And.intro (N_gd1 Tryz.prog prim 114 o3q36q33 d3q36q31) <| And.intro (N_gd1 Tryz.prog prim 114 o3q36q34 d3q36q31) <| And.intro (N_gd1 Tryz.prog prim 114 o3q36q35 d3q36q31) <| And.intro (N_gd1 Tryz.prog prim 114 o3q36q36 d3q36q31) <| And.intro (N_gd1 Tryz.prog prim 114 o3q36q37 d3q36q31) <| And.intro (N_gd1 Tryz.prog prim 114 o3q36q38 d3q36q31) <| And.intro (N_op1 Tryz.prog prim 114 o3q36q39) <| And.intro (N_op1 Tryz.prog prim 114 o3q36q40) <| And.intro (N_gd1 Tryz.prog prim 114 o3q36q41 d3q36q40) <| And.intro (N_gd1 Tryz.prog prim 114 o3q36q42 d3q36q40) <| And.intro (N_gd1 Tryz.prog prim 114 o3q36q43 d3q36q40) <| And.intro (N_gd1 Tryz.prog prim 114 o3q36q44 d3q36q40) <| And.intro (N_gd1 Tryz.prog prim 114 o3q36q45 d3q36q40) <| And.intro (N_gd1 Tryz.prog prim 114 o3q36q46 d3q36q40) <| And.intro (N_gd1 Tryz.prog prim 114 o3q36q47 d3q36q40) <| And.intro (N_op1 Tryz.prog prim 114 o3q36q48) <| And.intro (N_op1 Tryz.prog prim 114 o3q36q49) <| And.intro (A_seq1 Tryz.prog prim 114 c3q37) <| And.intro (A_region1 Tryz.prog prim 114 c3q38) <| And.intro (N_end1 Tryz.prog prim 114 z3q38) <| And.intro (N_op1 Tryz.prog prim 114 o3q38q0) <| And.intro (N_op1 Tryz.prog prim 114 o3q38q1) <| And.intro (N_op1 Tryz.prog prim 114 o3q38q2) <| And.intro (N_op1 Tryz.prog prim 114 o3q38q3) <| And.intro (N_op1 Tryz.prog prim 114 o3q38q4) <| And.intro (N_op1 Tryz.prog prim 114 o3q38q5) <| A_ret1 Tryz.prog prim 114 c3q39)
def G6q0 := PLift.up (And.intro (Tryz.results6) <| And.intro (A_seq1 Tryz.prog prim 56 c6q0) <| And.intro (A_region1 Tryz.prog prim 56 c6q1) <| And.intro (N_end1 Tryz.prog prim 56 z6q1) <| And.intro (N_op1 Tryz.prog prim 56 o6q1q0) <| And.intro (N_op1 Tryz.prog prim 56 o6q1q1) <| And.intro (N_op1 Tryz.prog prim 56 o6q1q2) <| And.intro (A_seq1 Tryz.prog prim 56 c6q2) <| And.intro (A_seq1 Tryz.prog prim 56 c6q3) <| And.intro (A_region1 Tryz.prog prim 56 c6q4) <| And.intro (N_end1 Tryz.prog prim 56 z6q4) <| And.intro (N_op1 Tryz.prog prim 56 o6q4q0) <| And.intro (N_op1 Tryz.prog prim 56 o6q4q1) <| And.intro (N_op1 Tryz.prog prim 56 o6q4q2) <| And.intro (N_op1 Tryz.prog prim 56 o6q4q3) <| And.intro (N_op1 Tryz.prog prim 56 o6q4q4) <| And.intro (N_op1 Tryz.prog prim 56 o6q4q5) <| And.intro (N_gd1 Tryz.prog prim 56 o6q4q6 d6q4q5) <| And.intro (N_gd1 Tryz.prog prim 56 o6q4q7 d6q4q5) <| And.intro (N_gd1 Tryz.prog prim 56 o6q4q8 d6q4q5) <| And.intro (N_gd1 Tryz.prog prim 56 o6q4q9 d6q4q5) <| And.intro (N_gd1 Tryz.prog prim 56 o6q4q10 d6q4q5) <| And.intro (N_gd1 Tryz.prog prim 56 o6q4q11 d6q4q5) <| And.intro (N_gd1 Tryz.prog prim 56 o6q4q12 d6q4q5) <| And.intro (N_op1 Tryz.prog prim 56 o6q4q13) <| And.intro (A_cond1 Tryz.prog prim 56 c6q5) <| And.intro (A_seq1 Tryz.prog prim 56 c6q6) <| And.intro (A_region1 Tryz.prog prim 56 c6q7) <| And.intro (N_end1 Tryz.prog prim 56 z6q7) <| And.intro (N_op1 Tryz.prog prim 56 o6q7q0) <| And.intro (A_ret1 Tryz.prog prim 56 c6q8) <| And.intro (A_skip1 Tryz.prog prim 56 c6q9) <| And.intro (A_seq1 Tryz.prog prim 56 c6q10) <| And.intro (A_seq1 Tryz.prog prim 56 c6q11) <| And.intro (A_region1 Tryz.prog prim 56 c6q12) <| And.intro (N_end1 Tryz.prog prim 56 z6q12) <| And.intro (N_op1 Tryz.prog prim 56 o6q12q0) <| And.intro (A_block1 Tryz.prog prim 56 c6q13) <| And.intro (A_loop1 Tryz.prog prim 56 c6q14) <| And.intro (A_seq1 Tryz.prog prim 56 c6q15) <| And.intro (A_seq1 Tryz.prog prim 56 c6q16) <| And.intro (A_region1 Tryz.prog prim 56 c6q17) <| And.intro (N_end1 Tryz.prog prim 56 z6q17) <| And.intro (N_op1 Tryz.prog prim 56 o6q17q0) <| And.intro (N_op1 Tryz.prog prim 56 o6q17q1) <| And.intro (N_op1 Tryz.prog prim 56 o6q17q2) <| And.intro (N_op1 Tryz.prog prim 56 o6q17q3) <| And.intro (N_op1 Tryz.prog prim 56 o6q17q4) <| And.intro (A_cond1 Tryz.prog prim 56 c6q18) <| And.intro (A_skip1 Tryz.prog prim 56 c6q19) <| And.intro (A_exit1 Tryz.prog prim 56 c6q20) <| And.intro (A_seq1 Tryz.prog prim 56 c6q21) <| And.intro (A_block1 Tryz.prog prim 56 c6q22) <| And.intro (A_seq1 Tryz.prog prim 56 c6q23) <| And.intro (A_draw1 Tryz.prog prim 56 c6q24) <| And.intro (A_cond1 Tryz.prog prim 56 c6q25) <| And.intro (A_seq1 Tryz.prog prim 56 c6q26) <| And.intro (A_region1 Tryz.prog prim 56 c6q27) <| And.intro (N_end1 Tryz.prog prim 56 z6q27) <| N_op1 Tryz.prog prim 56 o6q27q0)
def G6q1 := PLift.up (And.intro (A_ret1 Tryz.prog prim 56 c6q28) <| And.intro (A_skip1 Tryz.prog prim 56 c6q29) <| And.intro (A_region1 Tryz.prog prim 56 c6q30) <| And.intro (N_end1 Tryz.prog prim 56 z6q30) <| And.intro (N_op1 Tryz.prog prim 56 o6q30q0) <| And.intro (N_op1 Tryz.prog prim 56 o6q30q1) <| And.intro (N_op1 Tryz.prog prim 56 o6q30q2) <| And.intro (A_seq1 Tryz.prog prim 56 c6q31) <| And.intro (A_region1 Tryz.prog prim 56 c6q32) <| And.intro (N_end1 Tryz.prog prim 56 z6q32) <| And.intro (N_op1 Tryz.prog prim 56 o6q32q0) <| A_ret1 Tryz.prog prim 56 c6q33)
def G7q0 := PLift.up (And.intro (Tryz.results7) <| And.intro (A_seq1 Tryz.prog prim 26 c7q0) <| And.intro (A_region1 Tryz.prog prim 26 c7q1) <| And.intro (N_end1 Tryz.prog prim 26 z7q1) <| And.intro (N_op1 Tryz.prog prim 26 o7q1q0) <| And.intro (A_seq1 Tryz.prog prim 26 c7q2) <| And.intro (A_seq1 Tryz.prog prim 26 c7q3) <| And.intro (A_region1 Tryz.prog prim 26 c7q4) <| And.intro (N_end1 Tryz.prog prim 26 z7q4) <| And.intro (N_op1 Tryz.prog prim 26 o7q4q0) <| And.intro (N_op1 Tryz.prog prim 26 o7q4q1) <| And.intro (N_op1 Tryz.prog prim 26 o7q4q2) <| And.intro (N_op1 Tryz.prog prim 26 o7q4q3) <| And.intro (N_op1 Tryz.prog prim 26 o7q4q4) <| And.intro (A_cond1 Tryz.prog prim 26 c7q5) <| And.intro (A_seq1 Tryz.prog prim 26 c7q6) <| And.intro (A_region1 Tryz.prog prim 26 c7q7) <| And.intro (N_end1 Tryz.prog prim 26 z7q7) <| And.intro (N_op1 Tryz.prog prim 26 o7q7q0) <| And.intro (A_ret1 Tryz.prog prim 26 c7q8) <| And.intro (A_skip1 Tryz.prog prim 26 c7q9) <| And.intro (A_seq1 Tryz.prog prim 26 c7q10) <| And.intro (A_seq1 Tryz.prog prim 26 c7q11) <| And.intro (A_region1 Tryz.prog prim 26 c7q12) <| And.intro (N_end1 Tryz.prog prim 26 z7q12) <| And.intro (N_op1 Tryz.prog prim 26 o7q12q0) <| And.intro (A_block1 Tryz.prog prim 26 c7q13) <| And.intro (A_loop1 Tryz.prog prim 26 c7q14) <| And.intro (A_seq1 Tryz.prog prim 26 c7q15) <| And.intro (A_seq1 Tryz.prog prim 26 c7q16) <| And.intro (A_region1 Tryz.prog prim 26 c7q17) <| And.intro (N_end1 Tryz.prog prim 26 z7q17) <| And.intro (N_op1 Tryz.prog prim 26 o7q17q0) <| And.intro (N_op1 Tryz.prog prim 26 o7q17q1) <| And.intro (N_op1 Tryz.prog prim 26 o7q17q2) <| And.intro (N_op1 Tryz.prog prim 26 o7q17q3) <| And.intro (A_cond1 Tryz.prog prim 26 c7q18) <| And.intro (A_skip1 Tryz.prog prim 26 c7q19) <| And.intro (A_exit1 Tryz.prog prim 26 c7q20) <| And.intro (A_seq1 Tryz.prog prim 26 c7q21) <| And.intro (A_block1 Tryz.prog prim 26 c7q22) <| And.intro (A_seq1 Tryz.prog prim 26 c7q23) <| And.intro (A_draw1 Tryz.prog prim 26 c7q24) <| And.intro (A_cond1 Tryz.prog prim 26 c7q25) <| And.intro (A_seq1 Tryz.prog prim 26 c7q26) <| And.intro (A_region1 Tryz.prog prim 26 c7q27) <| And.intro (N_end1 Tryz.prog prim 26 z7q27) <| And.intro (N_op1 Tryz.prog prim 26 o7q27q0) <| And.intro (A_ret1 Tryz.prog prim 26 c7q28) <| And.intro (A_skip1 Tryz.prog prim 26 c7q29) <| And.intro (A_region1 Tryz.prog prim 26 c7q30) <| And.intro (N_end1 Tryz.prog prim 26 z7q30) <| And.intro (N_op1 Tryz.prog prim 26 o7q30q0) <| And.intro (N_op1 Tryz.prog prim 26 o7q30q1) <| And.intro (N_op1 Tryz.prog prim 26 o7q30q2) <| And.intro (A_seq1 Tryz.prog prim 26 c7q31) <| And.intro (A_region1 Tryz.prog prim 26 c7q32) <| And.intro (N_end1 Tryz.prog prim 26 z7q32) <| And.intro (N_op1 Tryz.prog prim 26 o7q32q0) <| A_ret1 Tryz.prog prim 26 c7q33)
def G8q0 := PLift.up (And.intro (Tryz.results8) <| And.intro (A_seq1 Tryz.prog prim 26 c8q0) <| And.intro (A_region1 Tryz.prog prim 26 c8q1) <| And.intro (N_end1 Tryz.prog prim 26 z8q1) <| And.intro (N_op1 Tryz.prog prim 26 o8q1q0) <| And.intro (A_seq1 Tryz.prog prim 26 c8q2) <| And.intro (A_seq1 Tryz.prog prim 26 c8q3) <| And.intro (A_region1 Tryz.prog prim 26 c8q4) <| And.intro (N_end1 Tryz.prog prim 26 z8q4) <| And.intro (N_op1 Tryz.prog prim 26 o8q4q0) <| And.intro (N_op1 Tryz.prog prim 26 o8q4q1) <| And.intro (N_op1 Tryz.prog prim 26 o8q4q2) <| And.intro (N_op1 Tryz.prog prim 26 o8q4q3) <| And.intro (N_op1 Tryz.prog prim 26 o8q4q4) <| And.intro (A_cond1 Tryz.prog prim 26 c8q5) <| And.intro (A_seq1 Tryz.prog prim 26 c8q6) <| And.intro (A_region1 Tryz.prog prim 26 c8q7) <| And.intro (N_end1 Tryz.prog prim 26 z8q7) <| And.intro (N_op1 Tryz.prog prim 26 o8q7q0) <| And.intro (A_ret1 Tryz.prog prim 26 c8q8) <| And.intro (A_skip1 Tryz.prog prim 26 c8q9) <| And.intro (A_seq1 Tryz.prog prim 26 c8q10) <| And.intro (A_seq1 Tryz.prog prim 26 c8q11) <| And.intro (A_region1 Tryz.prog prim 26 c8q12) <| And.intro (N_end1 Tryz.prog prim 26 z8q12) <| And.intro (N_op1 Tryz.prog prim 26 o8q12q0) <| And.intro (A_block1 Tryz.prog prim 26 c8q13) <| And.intro (A_loop1 Tryz.prog prim 26 c8q14) <| And.intro (A_seq1 Tryz.prog prim 26 c8q15) <| And.intro (A_seq1 Tryz.prog prim 26 c8q16) <| And.intro (A_region1 Tryz.prog prim 26 c8q17) <| And.intro (N_end1 Tryz.prog prim 26 z8q17) <| And.intro (N_op1 Tryz.prog prim 26 o8q17q0) <| And.intro (N_op1 Tryz.prog prim 26 o8q17q1) <| And.intro (N_op1 Tryz.prog prim 26 o8q17q2) <| And.intro (N_op1 Tryz.prog prim 26 o8q17q3) <| And.intro (A_cond1 Tryz.prog prim 26 c8q18) <| And.intro (A_skip1 Tryz.prog prim 26 c8q19) <| And.intro (A_exit1 Tryz.prog prim 26 c8q20) <| And.intro (A_seq1 Tryz.prog prim 26 c8q21) <| And.intro (A_block1 Tryz.prog prim 26 c8q22) <| And.intro (A_seq1 Tryz.prog prim 26 c8q23) <| And.intro (A_draw1 Tryz.prog prim 26 c8q24) <| And.intro (A_cond1 Tryz.prog prim 26 c8q25) <| And.intro (A_seq1 Tryz.prog prim 26 c8q26) <| And.intro (A_region1 Tryz.prog prim 26 c8q27) <| And.intro (N_end1 Tryz.prog prim 26 z8q27) <| And.intro (N_op1 Tryz.prog prim 26 o8q27q0) <| And.intro (A_ret1 Tryz.prog prim 26 c8q28) <| And.intro (A_skip1 Tryz.prog prim 26 c8q29) <| And.intro (A_region1 Tryz.prog prim 26 c8q30) <| And.intro (N_end1 Tryz.prog prim 26 z8q30) <| And.intro (N_op1 Tryz.prog prim 26 o8q30q0) <| And.intro (N_op1 Tryz.prog prim 26 o8q30q1) <| And.intro (N_op1 Tryz.prog prim 26 o8q30q2) <| And.intro (A_seq1 Tryz.prog prim 26 c8q31) <| And.intro (A_region1 Tryz.prog prim 26 c8q32) <| And.intro (N_end1 Tryz.prog prim 26 z8q32) <| And.intro (N_op1 Tryz.prog prim 26 o8q32q0) <| A_ret1 Tryz.prog prim 26 c8q33)
def G9q0 := PLift.up (And.intro (Tryz.results9) <| And.intro (A_seq1 Tryz.prog prim 38 c9q0) <| And.intro (A_region1 Tryz.prog prim 38 c9q1) <| And.intro (N_end1 Tryz.prog prim 38 z9q1) <| And.intro (N_op1 Tryz.prog prim 38 o9q1q0) <| And.intro (N_op1 Tryz.prog prim 38 o9q1q1) <| And.intro (N_op1 Tryz.prog prim 38 o9q1q2) <| And.intro (A_seq1 Tryz.prog prim 38 c9q2) <| And.intro (A_region1 Tryz.prog prim 38 c9q3) <| And.intro (N_end1 Tryz.prog prim 38 z9q3) <| And.intro (N_op1 Tryz.prog prim 38 o9q3q0) <| And.intro (N_op1 Tryz.prog prim 38 o9q3q1) <| And.intro (N_op1 Tryz.prog prim 38 o9q3q2) <| And.intro (N_op1 Tryz.prog prim 38 o9q3q3) <| And.intro (N_op1 Tryz.prog prim 38 o9q3q4) <| And.intro (N_op1 Tryz.prog prim 38 o9q3q5) <| And.intro (N_gd1 Tryz.prog prim 38 o9q3q6 d9q3q5) <| And.intro (N_gd1 Tryz.prog prim 38 o9q3q7 d9q3q5) <| And.intro (N_gd1 Tryz.prog prim 38 o9q3q8 d9q3q5) <| And.intro (N_gd1 Tryz.prog prim 38 o9q3q9 d9q3q5) <| And.intro (N_gd1 Tryz.prog prim 38 o9q3q10 d9q3q5) <| And.intro (N_op1 Tryz.prog prim 38 o9q3q11) <| And.intro (N_op1 Tryz.prog prim 38 o9q3q12) <| And.intro (N_gd1 Tryz.prog prim 38 o9q3q13 d9q3q12) <| And.intro (N_gd1 Tryz.prog prim 38 o9q3q14 d9q3q12) <| And.intro (N_gd1 Tryz.prog prim 38 o9q3q15 d9q3q12) <| And.intro (N_gd1 Tryz.prog prim 38 o9q3q16 d9q3q12) <| And.intro (N_gd1 Tryz.prog prim 38 o9q3q17 d9q3q12) <| And.intro (N_op1 Tryz.prog prim 38 o9q3q18) <| And.intro (N_op1 Tryz.prog prim 38 o9q3q19) <| And.intro (N_gd1 Tryz.prog prim 38 o9q3q20 d9q3q19) <| And.intro (N_gd1 Tryz.prog prim 38 o9q3q21 d9q3q19) <| And.intro (N_gd1 Tryz.prog prim 38 o9q3q22 d9q3q19) <| And.intro (N_gd1 Tryz.prog prim 38 o9q3q23 d9q3q19) <| And.intro (N_gd1 Tryz.prog prim 38 o9q3q24 d9q3q19) <| And.intro (N_op1 Tryz.prog prim 38 o9q3q25) <| And.intro (N_op1 Tryz.prog prim 38 o9q3q26) <| And.intro (N_gd1 Tryz.prog prim 38 o9q3q27 d9q3q26) <| And.intro (N_gd1 Tryz.prog prim 38 o9q3q28 d9q3q26) <| And.intro (N_gd1 Tryz.prog prim 38 o9q3q29 d9q3q26) <| And.intro (N_gd1 Tryz.prog prim 38 o9q3q30 d9q3q26) <| And.intro (N_gd1 Tryz.prog prim 38 o9q3q31 d9q3q26) <| And.intro (N_op1 Tryz.prog prim 38 o9q3q32) <| And.intro (N_op1 Tryz.prog prim 38 o9q3q33) <| A_ret1 Tryz.prog prim 38 c9q4)
def G19q0 := PLift.up (And.intro (Tryz.results19) <| And.intro (A_seq1 Tryz.prog prim 26 c19q0) <| And.intro (A_region1 Tryz.prog prim 26 c19q1) <| And.intro (N_end1 Tryz.prog prim 26 z19q1) <| And.intro (N_op1 Tryz.prog prim 26 o19q1q0) <| And.intro (A_seq1 Tryz.prog prim 26 c19q2) <| And.intro (A_seq1 Tryz.prog prim 26 c19q3) <| And.intro (A_region1 Tryz.prog prim 26 c19q4) <| And.intro (N_end1 Tryz.prog prim 26 z19q4) <| And.intro (N_op1 Tryz.prog prim 26 o19q4q0) <| And.intro (N_op1 Tryz.prog prim 26 o19q4q1) <| And.intro (N_op1 Tryz.prog prim 26 o19q4q2) <| And.intro (N_op1 Tryz.prog prim 26 o19q4q3) <| And.intro (N_op1 Tryz.prog prim 26 o19q4q4) <| And.intro (A_cond1 Tryz.prog prim 26 c19q5) <| And.intro (A_seq1 Tryz.prog prim 26 c19q6) <| And.intro (A_region1 Tryz.prog prim 26 c19q7) <| And.intro (N_end1 Tryz.prog prim 26 z19q7) <| And.intro (N_op1 Tryz.prog prim 26 o19q7q0) <| And.intro (A_ret1 Tryz.prog prim 26 c19q8) <| And.intro (A_skip1 Tryz.prog prim 26 c19q9) <| And.intro (A_seq1 Tryz.prog prim 26 c19q10) <| And.intro (A_seq1 Tryz.prog prim 26 c19q11) <| And.intro (A_region1 Tryz.prog prim 26 c19q12) <| And.intro (N_end1 Tryz.prog prim 26 z19q12) <| And.intro (N_op1 Tryz.prog prim 26 o19q12q0) <| And.intro (N_op1 Tryz.prog prim 26 o19q12q1) <| And.intro (N_op1 Tryz.prog prim 26 o19q12q2) <| And.intro (A_block1 Tryz.prog prim 26 c19q13) <| And.intro (A_loop1 Tryz.prog prim 26 c19q14) <| And.intro (A_seq1 Tryz.prog prim 26 c19q15) <| And.intro (A_region1 Tryz.prog prim 26 c19q16) <| And.intro (N_end1 Tryz.prog prim 26 z19q16) <| And.intro (N_op1 Tryz.prog prim 26 o19q16q0) <| And.intro (A_seq1 Tryz.prog prim 26 c19q17) <| And.intro (A_cond1 Tryz.prog prim 26 c19q18) <| And.intro (A_skip1 Tryz.prog prim 26 c19q19) <| And.intro (A_exit1 Tryz.prog prim 26 c19q20) <| And.intro (A_seq1 Tryz.prog prim 26 c19q21) <| And.intro (A_block1 Tryz.prog prim 26 c19q22) <| And.intro (A_seq1 Tryz.prog prim 26 c19q23) <| And.intro (A_region1 Tryz.prog prim 26 c19q24) <| And.intro (N_end1 Tryz.prog prim 26 z19q24) <| And.intro (N_op1 Tryz.prog prim 26 o19q24q0) <| And.intro (N_op1 Tryz.prog prim 26 o19q24q1) <| And.intro (A_seq1 Tryz.prog prim 26 c19q25) <| And.intro (A_draw1 Tryz.prog prim 26 c19q26) <| And.intro (A_cond1 Tryz.prog prim 26 c19q27) <| And.intro (A_seq1 Tryz.prog prim 26 c19q28) <| And.intro (A_region1 Tryz.prog prim 26 c19q29) <| And.intro (N_end1 Tryz.prog prim 26 z19q29) <| And.intro (N_op1 Tryz.prog prim 26 o19q29q0) <| And.intro (A_ret1 Tryz.prog prim 26 c19q30) <| And.intro (A_skip1 Tryz.prog prim 26 c19q31) <| And.intro (A_region1 Tryz.prog prim 26 c19q32) <| And.intro (N_end1 Tryz.prog prim 26 z19q32) <| And.intro (N_op1 Tryz.prog prim 26 o19q32q0) <| And.intro (N_op1 Tryz.prog prim 26 o19q32q1) <| And.intro (A_seq1 Tryz.prog prim 26 c19q33) <| A_region1 Tryz.prog prim 26 c19q34)
def G19q1 := PLift.up (And.intro (N_end1 Tryz.prog prim 26 z19q34) <| And.intro (N_op1 Tryz.prog prim 26 o19q34q0) <| A_ret1 Tryz.prog prim 26 c19q35)
def G20q0 := PLift.up (And.intro (Tryz.results20) <| And.intro (A_seq1 Tryz.prog prim 32 c20q0) <| And.intro (A_region1 Tryz.prog prim 32 c20q1) <| And.intro (N_end1 Tryz.prog prim 32 z20q1) <| And.intro (N_op1 Tryz.prog prim 32 o20q1q0) <| And.intro (A_seq1 Tryz.prog prim 32 c20q2) <| And.intro (A_seq1 Tryz.prog prim 32 c20q3) <| And.intro (A_region1 Tryz.prog prim 32 c20q4) <| And.intro (N_end1 Tryz.prog prim 32 z20q4) <| And.intro (N_op1 Tryz.prog prim 32 o20q4q0) <| And.intro (N_op1 Tryz.prog prim 32 o20q4q1) <| And.intro (N_op1 Tryz.prog prim 32 o20q4q2) <| And.intro (N_op1 Tryz.prog prim 32 o20q4q3) <| And.intro (N_op1 Tryz.prog prim 32 o20q4q4) <| And.intro (A_cond1 Tryz.prog prim 32 c20q5) <| And.intro (A_seq1 Tryz.prog prim 32 c20q6) <| And.intro (A_region1 Tryz.prog prim 32 c20q7) <| And.intro (N_end1 Tryz.prog prim 32 z20q7) <| And.intro (N_op1 Tryz.prog prim 32 o20q7q0) <| And.intro (A_ret1 Tryz.prog prim 32 c20q8) <| And.intro (A_skip1 Tryz.prog prim 32 c20q9) <| And.intro (A_seq1 Tryz.prog prim 32 c20q10) <| And.intro (A_seq1 Tryz.prog prim 32 c20q11) <| And.intro (A_region1 Tryz.prog prim 32 c20q12) <| And.intro (N_end1 Tryz.prog prim 32 z20q12) <| And.intro (N_op1 Tryz.prog prim 32 o20q12q0) <| And.intro (N_op1 Tryz.prog prim 32 o20q12q1) <| And.intro (N_op1 Tryz.prog prim 32 o20q12q2) <| And.intro (A_block1 Tryz.prog prim 32 c20q13) <| And.intro (A_loop1 Tryz.prog prim 32 c20q14) <| And.intro (A_seq1 Tryz.prog prim 32 c20q15) <| And.intro (A_region1 Tryz.prog prim 32 c20q16) <| And.intro (N_end1 Tryz.prog prim 32 z20q16) <| And.intro (N_op1 Tryz.prog prim 32 o20q16q0) <| And.intro (A_seq1 Tryz.prog prim 32 c20q17) <| And.intro (A_cond1 Tryz.prog prim 32 c20q18) <| And.intro (A_skip1 Tryz.prog prim 32 c20q19) <| And.intro (A_exit1 Tryz.prog prim 32 c20q20) <| And.intro (A_seq1 Tryz.prog prim 32 c20q21) <| And.intro (A_block1 Tryz.prog prim 32 c20q22) <| And.intro (A_seq1 Tryz.prog prim 32 c20q23) <| And.intro (A_region1 Tryz.prog prim 32 c20q24) <| And.intro (N_end1 Tryz.prog prim 32 z20q24) <| And.intro (N_op1 Tryz.prog prim 32 o20q24q0) <| And.intro (N_op1 Tryz.prog prim 32 o20q24q1) <| And.intro (N_op1 Tryz.prog prim 32 o20q24q2) <| And.intro (N_op1 Tryz.prog prim 32 o20q24q3) <| And.intro (N_op1 Tryz.prog prim 32 o20q24q4) <| And.intro (N_op1 Tryz.prog prim 32 o20q24q5) <| And.intro (A_seq1 Tryz.prog prim 32 c20q25) <| And.intro (A_region1 Tryz.prog prim 32 c20q26) <| And.intro (N_end1 Tryz.prog prim 32 z20q26) <| And.intro (N_op1 Tryz.prog prim 32 o20q26q0) <| And.intro (N_op1 Tryz.prog prim 32 o20q26q1) <| And.intro (N_op1 Tryz.prog prim 32 o20q26q2) <| And.intro (N_op1 Tryz.prog prim 32 o20q26q3) <| And.intro (N_op1 Tryz.prog prim 32 o20q26q4) <| And.intro (N_op1 Tryz.prog prim 32 o20q26q5) <| And.intro (A_seq1 Tryz.prog prim 32 c20q27) <| A_region1 Tryz.prog prim 32 c20q28)
def G20q1 := PLift.up (And.intro (N_end1 Tryz.prog prim 32 z20q28) <| And.intro (N_op1 Tryz.prog prim 32 o20q28q0) <| And.intro (N_op1 Tryz.prog prim 32 o20q28q1) <| And.intro (N_op1 Tryz.prog prim 32 o20q28q2) <| And.intro (N_op1 Tryz.prog prim 32 o20q28q3) <| And.intro (N_op1 Tryz.prog prim 32 o20q28q4) <| And.intro (A_cond1 Tryz.prog prim 32 c20q29) <| And.intro (A_seq1 Tryz.prog prim 32 c20q30) <| And.intro (A_region1 Tryz.prog prim 32 c20q31) <| And.intro (N_end1 Tryz.prog prim 32 z20q31) <| And.intro (N_op1 Tryz.prog prim 32 o20q31q0) <| And.intro (A_ret1 Tryz.prog prim 32 c20q32) <| And.intro (A_skip1 Tryz.prog prim 32 c20q33) <| And.intro (A_region1 Tryz.prog prim 32 c20q34) <| And.intro (N_end1 Tryz.prog prim 32 z20q34) <| And.intro (N_op1 Tryz.prog prim 32 o20q34q0) <| And.intro (N_op1 Tryz.prog prim 32 o20q34q1) <| And.intro (A_seq1 Tryz.prog prim 32 c20q35) <| And.intro (A_region1 Tryz.prog prim 32 c20q36) <| And.intro (N_end1 Tryz.prog prim 32 z20q36) <| And.intro (N_op1 Tryz.prog prim 32 o20q36q0) <| A_ret1 Tryz.prog prim 32 c20q37)
def G21q0 := PLift.up (And.intro (Tryz.results21) <| And.intro (A_seq1 Tryz.prog prim 17 c21q0) <| And.intro (A_region1 Tryz.prog prim 17 c21q1) <| And.intro (N_end1 Tryz.prog prim 17 z21q1) <| And.intro (N_op1 Tryz.prog prim 17 o21q1q0) <| And.intro (N_op1 Tryz.prog prim 17 o21q1q1) <| And.intro (N_op1 Tryz.prog prim 17 o21q1q2) <| And.intro (A_seq1 Tryz.prog prim 17 c21q2) <| And.intro (A_region1 Tryz.prog prim 17 c21q3) <| And.intro (N_end1 Tryz.prog prim 17 z21q3) <| And.intro (N_op1 Tryz.prog prim 17 o21q3q0) <| And.intro (N_op1 Tryz.prog prim 17 o21q3q1) <| And.intro (N_op1 Tryz.prog prim 17 o21q3q2) <| And.intro (N_op1 Tryz.prog prim 17 o21q3q3) <| And.intro (N_op1 Tryz.prog prim 17 o21q3q4) <| And.intro (N_op1 Tryz.prog prim 17 o21q3q5) <| And.intro (N_gd1 Tryz.prog prim 17 o21q3q6 d21q3q5) <| And.intro (N_gd1 Tryz.prog prim 17 o21q3q7 d21q3q5) <| And.intro (N_gd1 Tryz.prog prim 17 o21q3q8 d21q3q5) <| And.intro (N_gd1 Tryz.prog prim 17 o21q3q9 d21q3q5) <| And.intro (N_gd1 Tryz.prog prim 17 o21q3q10 d21q3q5) <| And.intro (N_op1 Tryz.prog prim 17 o21q3q11) <| And.intro (N_op1 Tryz.prog prim 17 o21q3q12) <| A_ret1 Tryz.prog prim 17 c21q4)
def G22q0 := PLift.up (And.intro (Tryz.results22) <| And.intro (A_seq1 Tryz.prog prim 24 c22q0) <| And.intro (A_region1 Tryz.prog prim 24 c22q1) <| And.intro (N_end1 Tryz.prog prim 24 z22q1) <| And.intro (N_op1 Tryz.prog prim 24 o22q1q0) <| And.intro (N_op1 Tryz.prog prim 24 o22q1q1) <| And.intro (N_op1 Tryz.prog prim 24 o22q1q2) <| And.intro (A_seq1 Tryz.prog prim 24 c22q2) <| And.intro (A_region1 Tryz.prog prim 24 c22q3) <| And.intro (N_end1 Tryz.prog prim 24 z22q3) <| And.intro (N_op1 Tryz.prog prim 24 o22q3q0) <| And.intro (N_op1 Tryz.prog prim 24 o22q3q1) <| And.intro (N_op1 Tryz.prog prim 24 o22q3q2) <| And.intro (N_op1 Tryz.prog prim 24 o22q3q3) <| And.intro (N_op1 Tryz.prog prim 24 o22q3q4) <| And.intro (N_op1 Tryz.prog prim 24 o22q3q5) <| And.intro (N_gd1 Tryz.prog prim 24 o22q3q6 d22q3q5) <| And.intro (N_gd1 Tryz.prog prim 24 o22q3q7 d22q3q5) <| And.intro (N_gd1 Tryz.prog prim 24 o22q3q8 d22q3q5) <| And.intro (N_gd1 Tryz.prog prim 24 o22q3q9 d22q3q5) <| And.intro (N_gd1 Tryz.prog prim 24 o22q3q10 d22q3q5) <| And.intro (N_op1 Tryz.prog prim 24 o22q3q11) <| And.intro (N_op1 Tryz.prog prim 24 o22q3q12) <| And.intro (N_gd1 Tryz.prog prim 24 o22q3q13 d22q3q12) <| And.intro (N_gd1 Tryz.prog prim 24 o22q3q14 d22q3q12) <| And.intro (N_gd1 Tryz.prog prim 24 o22q3q15 d22q3q12) <| And.intro (N_gd1 Tryz.prog prim 24 o22q3q16 d22q3q12) <| And.intro (N_gd1 Tryz.prog prim 24 o22q3q17 d22q3q12) <| And.intro (N_op1 Tryz.prog prim 24 o22q3q18) <| And.intro (N_op1 Tryz.prog prim 24 o22q3q19) <| A_ret1 Tryz.prog prim 24 c22q4)
def G47q0 := PLift.up (And.intro (Tryz.results47) <| And.intro (A_seq1 Tryz.prog prim 32 c47q0) <| And.intro (A_region1 Tryz.prog prim 32 c47q1) <| And.intro (N_end1 Tryz.prog prim 32 z47q1) <| And.intro (N_op1 Tryz.prog prim 32 o47q1q0) <| And.intro (A_seq1 Tryz.prog prim 32 c47q2) <| And.intro (A_seq1 Tryz.prog prim 32 c47q3) <| And.intro (A_region1 Tryz.prog prim 32 c47q4) <| And.intro (N_end1 Tryz.prog prim 32 z47q4) <| And.intro (N_op1 Tryz.prog prim 32 o47q4q0) <| And.intro (N_op1 Tryz.prog prim 32 o47q4q1) <| And.intro (N_op1 Tryz.prog prim 32 o47q4q2) <| And.intro (N_op1 Tryz.prog prim 32 o47q4q3) <| And.intro (N_op1 Tryz.prog prim 32 o47q4q4) <| And.intro (A_cond1 Tryz.prog prim 32 c47q5) <| And.intro (A_seq1 Tryz.prog prim 32 c47q6) <| And.intro (A_region1 Tryz.prog prim 32 c47q7) <| And.intro (N_end1 Tryz.prog prim 32 z47q7) <| And.intro (N_op1 Tryz.prog prim 32 o47q7q0) <| And.intro (A_ret1 Tryz.prog prim 32 c47q8) <| And.intro (A_skip1 Tryz.prog prim 32 c47q9) <| And.intro (A_seq1 Tryz.prog prim 32 c47q10) <| And.intro (A_seq1 Tryz.prog prim 32 c47q11) <| And.intro (A_region1 Tryz.prog prim 32 c47q12) <| And.intro (N_end1 Tryz.prog prim 32 z47q12) <| And.intro (N_op1 Tryz.prog prim 32 o47q12q0) <| And.intro (N_op1 Tryz.prog prim 32 o47q12q1) <| And.intro (N_op1 Tryz.prog prim 32 o47q12q2) <| And.intro (A_block1 Tryz.prog prim 32 c47q13) <| And.intro (A_loop1 Tryz.prog prim 32 c47q14) <| And.intro (A_seq1 Tryz.prog prim 32 c47q15) <| And.intro (A_region1 Tryz.prog prim 32 c47q16) <| And.intro (N_end1 Tryz.prog prim 32 z47q16) <| And.intro (N_op1 Tryz.prog prim 32 o47q16q0) <| And.intro (A_seq1 Tryz.prog prim 32 c47q17) <| And.intro (A_cond1 Tryz.prog prim 32 c47q18) <| And.intro (A_skip1 Tryz.prog prim 32 c47q19) <| And.intro (A_exit1 Tryz.prog prim 32 c47q20) <| And.intro (A_seq1 Tryz.prog prim 32 c47q21) <| And.intro (A_block1 Tryz.prog prim 32 c47q22) <| And.intro (A_seq1 Tryz.prog prim 32 c47q23) <| And.intro (A_region1 Tryz.prog prim 32 c47q24) <| And.intro (N_end1 Tryz.prog prim 32 z47q24) <| And.intro (N_op1 Tryz.prog prim 32 o47q24q0) <| And.intro (N_op1 Tryz.prog prim 32 o47q24q1) <| And.intro (N_op1 Tryz.prog prim 32 o47q24q2) <| And.intro (N_op1 Tryz.prog prim 32 o47q24q3) <| And.intro (N_op1 Tryz.prog prim 32 o47q24q4) <| And.intro (N_op1 Tryz.prog prim 32 o47q24q5) <| And.intro (A_seq1 Tryz.prog prim 32 c47q25) <| And.intro (A_region1 Tryz.prog prim 32 c47q26) <| And.intro (N_end1 Tryz.prog prim 32 z47q26) <| And.intro (N_op1 Tryz.prog prim 32 o47q26q0) <| And.intro (N_op1 Tryz.prog prim 32 o47q26q1) <| And.intro (N_op1 Tryz.prog prim 32 o47q26q2) <| And.intro (N_op1 Tryz.prog prim 32 o47q26q3) <| And.intro (N_op1 Tryz.prog prim 32 o47q26q4) <| And.intro (N_op1 Tryz.prog prim 32 o47q26q5) <| And.intro (A_seq1 Tryz.prog prim 32 c47q27) <| A_region1 Tryz.prog prim 32 c47q28)
def G47q1 := PLift.up (And.intro (N_end1 Tryz.prog prim 32 z47q28) <| And.intro (N_op1 Tryz.prog prim 32 o47q28q0) <| And.intro (N_op1 Tryz.prog prim 32 o47q28q1) <| And.intro (N_op1 Tryz.prog prim 32 o47q28q2) <| And.intro (N_op1 Tryz.prog prim 32 o47q28q3) <| And.intro (N_op1 Tryz.prog prim 32 o47q28q4) <| And.intro (A_cond1 Tryz.prog prim 32 c47q29) <| And.intro (A_seq1 Tryz.prog prim 32 c47q30) <| And.intro (A_region1 Tryz.prog prim 32 c47q31) <| And.intro (N_end1 Tryz.prog prim 32 z47q31) <| And.intro (N_op1 Tryz.prog prim 32 o47q31q0) <| And.intro (A_ret1 Tryz.prog prim 32 c47q32) <| And.intro (A_skip1 Tryz.prog prim 32 c47q33) <| And.intro (A_region1 Tryz.prog prim 32 c47q34) <| And.intro (N_end1 Tryz.prog prim 32 z47q34) <| And.intro (N_op1 Tryz.prog prim 32 o47q34q0) <| And.intro (N_op1 Tryz.prog prim 32 o47q34q1) <| And.intro (A_seq1 Tryz.prog prim 32 c47q35) <| And.intro (A_region1 Tryz.prog prim 32 c47q36) <| And.intro (N_end1 Tryz.prog prim 32 z47q36) <| And.intro (N_op1 Tryz.prog prim 32 o47q36q0) <| A_ret1 Tryz.prog prim 32 c47q37)
def G48q0 := PLift.up (And.intro (Tryz.results48) <| And.intro (A_seq1 Tryz.prog prim 17 c48q0) <| And.intro (A_region1 Tryz.prog prim 17 c48q1) <| And.intro (N_end1 Tryz.prog prim 17 z48q1) <| And.intro (N_op1 Tryz.prog prim 17 o48q1q0) <| And.intro (N_op1 Tryz.prog prim 17 o48q1q1) <| And.intro (N_op1 Tryz.prog prim 17 o48q1q2) <| And.intro (A_seq1 Tryz.prog prim 17 c48q2) <| And.intro (A_region1 Tryz.prog prim 17 c48q3) <| And.intro (N_end1 Tryz.prog prim 17 z48q3) <| And.intro (N_op1 Tryz.prog prim 17 o48q3q0) <| And.intro (N_op1 Tryz.prog prim 17 o48q3q1) <| And.intro (N_op1 Tryz.prog prim 17 o48q3q2) <| And.intro (N_op1 Tryz.prog prim 17 o48q3q3) <| And.intro (N_op1 Tryz.prog prim 17 o48q3q4) <| And.intro (N_op1 Tryz.prog prim 17 o48q3q5) <| And.intro (N_gd1 Tryz.prog prim 17 o48q3q6 d48q3q5) <| And.intro (N_gd1 Tryz.prog prim 17 o48q3q7 d48q3q5) <| And.intro (N_gd1 Tryz.prog prim 17 o48q3q8 d48q3q5) <| And.intro (N_gd1 Tryz.prog prim 17 o48q3q9 d48q3q5) <| And.intro (N_gd1 Tryz.prog prim 17 o48q3q10 d48q3q5) <| And.intro (N_op1 Tryz.prog prim 17 o48q3q11) <| And.intro (N_op1 Tryz.prog prim 17 o48q3q12) <| A_ret1 Tryz.prog prim 17 c48q4)
def G49q0 := PLift.up (And.intro (Tryz.results49) <| And.intro (A_seq1 Tryz.prog prim 26 c49q0) <| And.intro (A_region1 Tryz.prog prim 26 c49q1) <| And.intro (N_end1 Tryz.prog prim 26 z49q1) <| And.intro (N_op1 Tryz.prog prim 26 o49q1q0) <| And.intro (A_seq1 Tryz.prog prim 26 c49q2) <| And.intro (A_seq1 Tryz.prog prim 26 c49q3) <| And.intro (A_region1 Tryz.prog prim 26 c49q4) <| And.intro (N_end1 Tryz.prog prim 26 z49q4) <| And.intro (N_op1 Tryz.prog prim 26 o49q4q0) <| And.intro (N_op1 Tryz.prog prim 26 o49q4q1) <| And.intro (N_op1 Tryz.prog prim 26 o49q4q2) <| And.intro (N_op1 Tryz.prog prim 26 o49q4q3) <| And.intro (N_op1 Tryz.prog prim 26 o49q4q4) <| And.intro (A_cond1 Tryz.prog prim 26 c49q5) <| And.intro (A_seq1 Tryz.prog prim 26 c49q6) <| And.intro (A_region1 Tryz.prog prim 26 c49q7) <| And.intro (N_end1 Tryz.prog prim 26 z49q7) <| And.intro (N_op1 Tryz.prog prim 26 o49q7q0) <| And.intro (A_ret1 Tryz.prog prim 26 c49q8) <| And.intro (A_skip1 Tryz.prog prim 26 c49q9) <| And.intro (A_seq1 Tryz.prog prim 26 c49q10) <| And.intro (A_seq1 Tryz.prog prim 26 c49q11) <| And.intro (A_region1 Tryz.prog prim 26 c49q12) <| And.intro (N_end1 Tryz.prog prim 26 z49q12) <| And.intro (N_op1 Tryz.prog prim 26 o49q12q0) <| And.intro (N_op1 Tryz.prog prim 26 o49q12q1) <| And.intro (N_op1 Tryz.prog prim 26 o49q12q2) <| And.intro (A_block1 Tryz.prog prim 26 c49q13) <| And.intro (A_loop1 Tryz.prog prim 26 c49q14) <| And.intro (A_seq1 Tryz.prog prim 26 c49q15) <| And.intro (A_region1 Tryz.prog prim 26 c49q16) <| And.intro (N_end1 Tryz.prog prim 26 z49q16) <| And.intro (N_op1 Tryz.prog prim 26 o49q16q0) <| And.intro (A_seq1 Tryz.prog prim 26 c49q17) <| And.intro (A_cond1 Tryz.prog prim 26 c49q18) <| And.intro (A_skip1 Tryz.prog prim 26 c49q19) <| And.intro (A_exit1 Tryz.prog prim 26 c49q20) <| And.intro (A_seq1 Tryz.prog prim 26 c49q21) <| And.intro (A_block1 Tryz.prog prim 26 c49q22) <| And.intro (A_seq1 Tryz.prog prim 26 c49q23) <| And.intro (A_region1 Tryz.prog prim 26 c49q24) <| And.intro (N_end1 Tryz.prog prim 26 z49q24) <| And.intro (N_op1 Tryz.prog prim 26 o49q24q0) <| And.intro (N_op1 Tryz.prog prim 26 o49q24q1) <| And.intro (A_seq1 Tryz.prog prim 26 c49q25) <| And.intro (A_draw1 Tryz.prog prim 26 c49q26) <| And.intro (A_cond1 Tryz.prog prim 26 c49q27) <| And.intro (A_seq1 Tryz.prog prim 26 c49q28) <| And.intro (A_region1 Tryz.prog prim 26 c49q29) <| And.intro (N_end1 Tryz.prog prim 26 z49q29) <| And.intro (N_op1 Tryz.prog prim 26 o49q29q0) <| And.intro (A_ret1 Tryz.prog prim 26 c49q30) <| And.intro (A_skip1 Tryz.prog prim 26 c49q31) <| And.intro (A_region1 Tryz.prog prim 26 c49q32) <| And.intro (N_end1 Tryz.prog prim 26 z49q32) <| And.intro (N_op1 Tryz.prog prim 26 o49q32q0) <| And.intro (N_op1 Tryz.prog prim 26 o49q32q1) <| And.intro (A_seq1 Tryz.prog prim 26 c49q33) <| A_region1 Tryz.prog prim 26 c49q34)
def G49q1 := PLift.up (And.intro (N_end1 Tryz.prog prim 26 z49q34) <| And.intro (N_op1 Tryz.prog prim 26 o49q34q0) <| A_ret1 Tryz.prog prim 26 c49q35)


abbrev big : Nat := 9223372036854775808

abbrev I3 := Bool × Int × Int
/-- an Int's cells -/
def c3 (x : I3) : List AV := [.b x.1, .i .u64 x.2.1, .i .u64 x.2.2]
theorem guard71 (x y : Operand) : guardB Tryz.prog 71 x y = true := by kernel_rfl
theorem fe71 : fieldEqsV (eqV Tryz.prog 19) Tryz.prog [⟨"Neg", 4, 0, false, "", "", 0⟩, ⟨"Hi", 23, 1, false, "", "", 8⟩, ⟨"Lo", 23, 2, false, "", "", 16⟩] = some [(false, 1, 0, eqV Tryz.prog 19 4), (false, 1, 1, eqV Tryz.prog 19 23), (false, 1, 2, eqV Tryz.prog 19 23)] := by kernel_rfl
theorem st71 : Tryz.prog.stoodInHeld 71 = false := by kernel_rfl
theorem eq71 (x y : I3) : eqV Tryz.prog 20 71 (.agg (c3 x)) (.agg (c3 y)) = some (decide (x = y)) := by
  obtain ⟨a, b, c⟩ := x
  obtain ⟨a', b', c'⟩ := y
  rw [show (20 : Nat) = 19 + 1 from rfl, eqV_struct Tryz.underlying71 st71 fe71]
  simp only [c3, eqFieldsV, partV, List.getElem?_cons_zero, List.getElem?_cons_succ, eqV_bool (d := 18) Tryz.underlying4, eqV_int (d := 18) Tryz.underlying23]
  by_cases h1 : a = a'
  · subst h1
    by_cases h2 : b = b'
    · subst h2
      by_cases h3 : c = c'
      · subst h3; simp
      · simp [h3]
    · simp [h2]
  · have : (a == a') = false := by simpa using h1
    simp [this, h1]
theorem ne71 (o p : Operand) (x y : I3) : binV Tryz.prog .neq 71 o p (.agg (c3 x)) (.agg (c3 y)) = some (.b !decide (x = y)) :=
  binV_neq Tryz.underlying71 (fun k h => by cases h) (fun h => by cases h) (guard71 o p) (eq71 x y)

theorem take_succ_eq {α : Type} {xs ys : List α} {j : Nat} (ht : xs.take j = ys.take j) (hx : j < xs.length) (hy : j < ys.length) (he : xs[j] = ys[j]) : xs.take (j + 1) = ys.take (j + 1) := by
  rw [List.take_succ_eq_append_getElem hx, List.take_succ_eq_append_getElem hy, ht, he]
theorem take_all {α : Type} {xs ys : List α} {j : Nat} (ht : xs.take j = ys.take j) (hlen : xs.length = ys.length) (hj : ¬ j < xs.length) : xs = ys := by
  rwa [List.take_of_length_le (by omega), List.take_of_length_le (by omega)] at ht

/-! rows of Ints -/
def IntsAt (h : Hp) (n : Pos) (v : AV) (xs : List I3) : Prop := SlAt h n 3 v (xs.map c3) ∧ xs.length < big
theorem IntsAt.ext {h h' : Hp} {n n' : Pos} {v : AV} {xs : List I3} (a : Ext h n h' n') (hs : IntsAt h n v xs) : IntsAt h' n' v xs := ⟨hs.1.ext a, hs.2⟩
theorem IntsAt.len {h : Hp} {n : Pos} {v : AV} {xs : List I3} (hs : IntsAt h n v xs) : lenV Tryz.prog #[25] [v] = some (.i .i64 xs.length) := by
  rcases hs.1 with ⟨h1, rfl⟩ | ⟨id, cap, e, rest, rfl, _⟩
  · rw [lenV_nilsl Tryz.underlying25]; simp at h1; subst h1; rfl
  · rw [lenV_sl Tryz.underlying25]; simp
theorem IntsAt.get {h : Hp} {n : Pos} {v : AV} {xs : List I3} (hs : IntsAt h n v xs) {j : Nat} (hj : j < xs.length) :
    ∃ id off, indexAddrV Tryz.prog 25 [v, .i .i64 (j : Int)] = some (.ptr id off) ∧ loadV true 3 h id off = some (.agg (c3 xs[j])) := by
  rcases hs.1 with ⟨h1, rfl⟩ | ⟨id, cap, e, rest, rfl, _, hc, hl⟩
  · simp at h1; subst h1; simp at hj
  · refine ⟨id, j * 3, ?_, ?_⟩
    · rw [indexAddrV_slice Tryz.underlying25 sz71, if_pos (by simp; omega)]
      simp
    · rw [loadV_of hc]
      have := partV_chunk (rest := rest) hl (j := j) (by simpa using hj)
      simpa using this

/-! rows of texts -/
def c1 (x : List Nat) : List AV := [.s x]
def StrsAt (h : Hp) (n : Pos) (v : AV) (xs : List (List Nat)) : Prop := SlAt h n 1 v (xs.map c1) ∧ xs.length < big
theorem StrsAt.ext {h h' : Hp} {n n' : Pos} {v : AV} {xs : List (List Nat)} (a : Ext h n h' n') (hs : StrsAt h n v xs) : StrsAt h' n' v xs := ⟨hs.1.ext a, hs.2⟩
theorem StrsAt.len {h : Hp} {n : Pos} {v : AV} {xs : List (List Nat)} (hs : StrsAt h n v xs) : lenV Tryz.prog #[27] [v] = some (.i .i64 xs.length) := by
  rcases hs.1 with ⟨h1, rfl⟩ | ⟨id, cap, e, rest, rfl, _⟩
  · rw [lenV_nilsl Tryz.underlying27]; simp at h1; subst h1; rfl
  · rw [lenV_sl Tryz.underlying27]; simp
theorem StrsAt.get {h : Hp} {n : Pos} {v : AV} {xs : List (List Nat)} (hs : StrsAt h n v xs) {j : Nat} (hj : j < xs.length) :
    ∃ id off, indexAddrV Tryz.prog 27 [v, .i .i64 (j : Int)] = some (.ptr id off) ∧ loadV false 1 h id off = some (.s xs[j]) := by
  rcases hs.1 with ⟨h1, rfl⟩ | ⟨id, cap, e, rest, rfl, _, hc, hl⟩
  · simp at h1; subst h1; simp at hj
  · refine ⟨id, j * 1, ?_, ?_⟩
    · rw [indexAddrV_slice Tryz.underlying27 sz9, if_pos (by simp; omega)]
      simp
    · rw [loadV_of hc]
      exact partV_one hl (by simpa using hj) (by simp [c1])

def SameQ (p : Prop) [Decidable p] (h : Hp) (n : Pos) (v : AV) (h' : Hp) (n' : Pos) : Prop := v = .b (decide p) ∧ Ext h n h' n'

set_option maxHeartbeats 1000000 in
set_option maxRecDepth 10000 in
/-- values -/
theorem values_ok (h : Hp) (n : Pos) (va vb : AV) (xs ys : List I3) (ha : IntsAt h n va xs) (hb : IntsAt h n vb ys) :
   AC Tryz.prog prim 7 [va, vb] h n (SameQ (xs = ys) h n) := by
  refine enter (by rfl) Tryz.func7 hb7 Tryz.ntmps7 rfl (by decide) (by simp) ?_
  have la := ha.len
  have lb := hb.len
  have hla := ha.2
  unfold big at hla
  simp only [G7q0.down, S_wpO_len (P := Tryz.prog) nm25, S_wpDO_len (P := Tryz.prog) nm25, lenV_sl (P := Tryz.prog) Tryz.underlying25, lenV_nilsl (P := Tryz.prog) Tryz.underlying25, binV_int (P := Tryz.prog) (k0 := .i64) Tryz.underlying3, D_end (his := [0, 0, 0, 0, 0, 0, 0, 0, 0]) z7q24 rfl, D_op (his := [0, 0, 0, 0, 0, 0, 0, 0, 0]) (hi := 0) o7q24q0 rfl, D_op (his := [0, 0, 0, 0, 0, 0, 0, 0, 0]) (hi := 0) o7q24q1 rfl, D_op (his := [0, 0, 0, 0, 0, 0, 0, 0, 0]) (hi := 0) o7q24q2 rfl, indexAddrV_slice (P := Tryz.prog) Tryz.underlying25 sz71, D_op (his := [0, 0, 0, 0, 0, 0, 0, 0, 0]) (hi := 0) o7q24q3 rfl, S_wpO_load (P := Tryz.prog) ag71 sz71, D_op (his := [0, 0, 0, 0, 0, 0, 0, 0, 0]) (hi := 0) o7q24q4 rfl, D_op (his := [0, 0, 0, 0, 0, 0, 0, 0, 0]) (hi := 0) o7q24q5 rfl, D_op (his := [0, 0, 0, 0, 0, 0, 0, 0, 0]) (hi := 0) o7q24q6 rfl, D_op (his := [0, 0, 0, 0, 0, 0, 0, 0, 0]) (hi := 0) o7q24q7 rfl, D_op (his := [0, 0, 0, 0, 0, 0, 0, 0, 0]) (hi := 0) o7q24q8 rfl, W0.down, W1.down, W2.down, W3.down, Nat.reduceAdd, Nat.reduceEqDiff, Nat.reduceLT, Nat.reduceLeDiff, Nat.reduceMul, OK.isLoud, advP, argsE, cellsA, evOs, intV, okC, partV, reduceCtorEq, reduceIte, resV, strV, undefA, Option.map_some, Option.bind_some, Bool.true_eq_false, Bool.false_eq_true, if_true, if_false, true_and, and_true, ne_eq, not_false_eq_true, not_true_eq_false, Nat.zero_add, Nat.add_zero, List.getElem?_toArray, List.getElem?_cons_succ, List.getElem?_cons_zero, List.drop_succ_cons, List.drop_zero, List.take_succ_cons, List.take_zero, List.length_cons, List.length_nil, List.cons_append, List.nil_append, Int.toNat_natCast, List.append_nil, la, lb]
  by_cases hlen : xs.length = ys.length
  · simp only [hlen, decide_true, Bool.not_true, W0.down, W1.down, W2.down, W3.down, Nat.reduceAdd, Nat.reduceEqDiff, Nat.reduceLT, Nat.reduceLeDiff, Nat.reduceMul, OK.isLoud, advP, argsE, cellsA, evOs, intV, okC, partV, reduceCtorEq, reduceIte, resV, strV, undefA, Option.map_some, Option.bind_some, Bool.true_eq_false, Bool.false_eq_true, if_true, if_false, true_and, and_true, ne_eq, not_false_eq_true, not_true_eq_false, Nat.zero_add, Nat.add_zero, List.getElem?_toArray, List.getElem?_cons_succ, List.getElem?_cons_zero, List.drop_succ_cons, List.drop_zero, List.take_succ_cons, List.take_zero, List.length_cons, List.length_nil, List.cons_append, List.nil_append, Int.toNat_natCast, List.append_nil, G7q0.down, S_wpO_len (P := Tryz.prog) nm25, S_wpDO_len (P := Tryz.prog) nm25, lenV_sl (P := Tryz.prog) Tryz.underlying25, lenV_nilsl (P := Tryz.prog) Tryz.underlying25, binV_int (P := Tryz.prog) (k0 := .i64) Tryz.underlying3, D_end (his := [0, 0, 0, 0, 0, 0, 0, 0, 0]) z7q24 rfl, D_op (his := [0, 0, 0, 0, 0, 0, 0, 0, 0]) (hi := 0) o7q24q0 rfl, D_op (his := [0, 0, 0, 0, 0, 0, 0, 0, 0]) (hi := 0) o7q24q1 rfl, D_op (his := [0, 0, 0, 0, 0, 0, 0, 0, 0]) (hi := 0) o7q24q2 rfl, indexAddrV_slice (P := Tryz.prog) Tryz.underlying25 sz71, D_op (his := [0, 0, 0, 0, 0, 0, 0, 0, 0]) (hi := 0) o7q24q3 rfl, S_wpO_load (P := Tryz.prog) ag71 sz71, D_op (his := [0, 0, 0, 0, 0, 0, 0, 0, 0]) (hi := 0) o7q24q4 rfl, D_op (his := [0, 0, 0, 0, 0, 0, 0, 0, 0]) (hi := 0) o7q24q5 rfl, D_op (his := [0, 0, 0, 0, 0, 0, 0, 0, 0]) (hi := 0) o7q24q6 rfl, D_op (his := [0, 0, 0, 0, 0, 0, 0, 0, 0]) (hi := 0) o7q24q7 rfl, D_op (his := [0, 0, 0, 0, 0, 0, 0, 0, 0]) (hi := 0) o7q24q8 rfl]
    refine loop_inv (fun m l h' n' => ∃ j : Nat, j ≤ xs.length ∧ m = xs.length - j ∧ h' = h ∧ n' = n ∧ lk 0 l = some va ∧ lk 1 l = some vb ∧ lk 5 l = some (.i .i64 (j : Int)) ∧ xs.take j = ys.take j) xs.length (by omega) ⟨0, by omega, by omega, rfl, rfl, rfl, rfl, rfl, rfl⟩ ?_
    rintro m l h' n' ⟨j, hj, rfl, rfl, rfl, h0, h1, h5, ht⟩
    simp only [W0.down, W1.down, W2.down, W3.down, Nat.reduceAdd, Nat.reduceEqDiff, Nat.reduceLT, Nat.reduceLeDiff, Nat.reduceMul, OK.isLoud, advP, argsE, cellsA, evOs, intV, okC, partV, reduceCtorEq, reduceIte, resV, strV, undefA, Option.map_some, Option.bind_some, Bool.true_eq_false, Bool.false_eq_true, if_true, if_false, true_and, and_true, ne_eq, not_false_eq_true, not_true_eq_false, Nat.zero_add, Nat.add_zero, List.getElem?_toArray, List.getElem?_cons_succ, List.getElem?_cons_zero, List.drop_succ_cons, List.drop_zero, List.take_succ_cons, List.take_zero, List.length_cons, List.length_nil, List.cons_append, List.nil_append, Int.toNat_natCast, List.append_nil, G7q0.down, S_wpO_len (P := Tryz.prog) nm25, S_wpDO_len (P := Tryz.prog) nm25, lenV_sl (P := Tryz.prog) Tryz.underlying25, lenV_nilsl (P := Tryz.prog) Tryz.underlying25, binV_int (P := Tryz.prog) (k0 := .i64) Tryz.underlying3, D_end (his := [0, 0, 0, 0, 0, 0, 0, 0, 0]) z7q24 rfl, D_op (his := [0, 0, 0, 0, 0, 0, 0, 0, 0]) (hi := 0) o7q24q0 rfl, D_op (his := [0, 0, 0, 0, 0, 0, 0, 0, 0]) (hi := 0) o7q24q1 rfl, D_op (his := [0, 0, 0, 0, 0, 0, 0, 0, 0]) (hi := 0) o7q24q2 rfl, indexAddrV_slice (P := Tryz.prog) Tryz.underlying25 sz71, D_op (his := [0, 0, 0, 0, 0, 0, 0, 0, 0]) (hi := 0) o7q24q3 rfl, S_wpO_load (P := Tryz.prog) ag71 sz71, D_op (his := [0, 0, 0, 0, 0, 0, 0, 0, 0]) (hi := 0) o7q24q4 rfl, D_op (his := [0, 0, 0, 0, 0, 0, 0, 0, 0]) (hi := 0) o7q24q5 rfl, D_op (his := [0, 0, 0, 0, 0, 0, 0, 0, 0]) (hi := 0) o7q24q6 rfl, D_op (his := [0, 0, 0, 0, 0, 0, 0, 0, 0]) (hi := 0) o7q24q7 rfl, D_op (his := [0, 0, 0, 0, 0, 0, 0, 0, 0]) (hi := 0) o7q24q8 rfl, la, h0, h1, h5]
    by_cases hjl : j < xs.length
    · have e1 : decide ((j : Int) < xs.length) = true := by simpa using hjl
      obtain ⟨ia, oa, a1, a2⟩ := ha.get hjl
      obtain ⟨ib, ob, b1, b2⟩ := hb.get (show j < ys.length by omega)
      simp only [e1, W0.down, W1.down, W2.down, W3.down, Nat.reduceAdd, Nat.reduceEqDiff, Nat.reduceLT, Nat.reduceLeDiff, Nat.reduceMul, OK.isLoud, advP, argsE, cellsA, evOs, intV, okC, partV, reduceCtorEq, reduceIte, resV, strV, undefA, Option.map_some, Option.bind_some, Bool.true_eq_false, Bool.false_eq_true, if_true, if_false, true_and, and_true, ne_eq, not_false_eq_true, not_true_eq_false, Nat.zero_add, Nat.add_zero, List.getElem?_toArray, List.getElem?_cons_succ, List.getElem?_cons_zero, List.drop_succ_cons, List.drop_zero, List.take_succ_cons, List.take_zero, List.length_cons, List.length_nil, List.cons_append, List.nil_append, Int.toNat_natCast, List.append_nil, G7q0.down, S_wpO_len (P := Tryz.prog) nm25, S_wpDO_len (P := Tryz.prog) nm25, lenV_sl (P := Tryz.prog) Tryz.underlying25, lenV_nilsl (P := Tryz.prog) Tryz.underlying25, binV_int (P := Tryz.prog) (k0 := .i64) Tryz.underlying3, D_end (his := [0, 0, 0, 0, 0, 0, 0, 0, 0]) z7q24 rfl, D_op (his := [0, 0, 0, 0, 0, 0, 0, 0, 0]) (hi := 0) o7q24q0 rfl, D_op (his := [0, 0, 0, 0, 0, 0, 0, 0, 0]) (hi := 0) o7q24q1 rfl, D_op (his := [0, 0, 0, 0, 0, 0, 0, 0, 0]) (hi := 0) o7q24q2 rfl, indexAddrV_slice (P := Tryz.prog) Tryz.underlying25 sz71, D_op (his := [0, 0, 0, 0, 0, 0, 0, 0, 0]) (hi := 0) o7q24q3 rfl, S_wpO_load (P := Tryz.prog) ag71 sz71, D_op (his := [0, 0, 0, 0, 0, 0, 0, 0, 0]) (hi := 0) o7q24q4 rfl, D_op (his := [0, 0, 0, 0, 0, 0, 0, 0, 0]) (hi := 0) o7q24q5 rfl, D_op (his := [0, 0, 0, 0, 0, 0, 0, 0, 0]) (hi := 0) o7q24q6 rfl, D_op (his := [0, 0, 0, 0, 0, 0, 0, 0, 0]) (hi := 0) o7q24q7 rfl, D_op (his := [0, 0, 0, 0, 0, 0, 0, 0, 0]) (hi := 0) o7q24q8 rfl]
      refine draw_at (by decide) [0, 0, 0, 0, 0, 0, 0, 0, 0] 0 (by kernel_rfl) ?_
      simp only [W0.down, W1.down, W2.down, W3.down, Nat.reduceAdd, Nat.reduceEqDiff, Nat.reduceLT, Nat.reduceLeDiff, Nat.reduceMul, OK.isLoud, advP, argsE, cellsA, evOs, intV, okC, partV, reduceCtorEq, reduceIte, resV, strV, undefA, Option.map_some, Option.bind_some, Bool.true_eq_false, Bool.false_eq_true, if_true, if_false, true_and, and_true, ne_eq, not_false_eq_true, not_true_eq_false, Nat.zero_add, Nat.add_zero, List.getElem?_toArray, List.getElem?_cons_succ, List.getElem?_cons_zero, List.drop_succ_cons, List.drop_zero, List.take_succ_cons, List.take_zero, List.length_cons, List.length_nil, List.cons_append, List.nil_append, Int.toNat_natCast, List.append_nil, G7q0.down, S_wpO_len (P := Tryz.prog) nm25, S_wpDO_len (P := Tryz.prog) nm25, lenV_sl (P := Tryz.prog) Tryz.underlying25, lenV_nilsl (P := Tryz.prog) Tryz.underlying25, binV_int (P := Tryz.prog) (k0 := .i64) Tryz.underlying3, D_end (his := [0, 0, 0, 0, 0, 0, 0, 0, 0]) z7q24 rfl, D_op (his := [0, 0, 0, 0, 0, 0, 0, 0, 0]) (hi := 0) o7q24q0 rfl, D_op (his := [0, 0, 0, 0, 0, 0, 0, 0, 0]) (hi := 0) o7q24q1 rfl, D_op (his := [0, 0, 0, 0, 0, 0, 0, 0, 0]) (hi := 0) o7q24q2 rfl, indexAddrV_slice (P := Tryz.prog) Tryz.underlying25 sz71, D_op (his := [0, 0, 0, 0, 0, 0, 0, 0, 0]) (hi := 0) o7q24q3 rfl, S_wpO_load (P := Tryz.prog) ag71 sz71, D_op (his := [0, 0, 0, 0, 0, 0, 0, 0, 0]) (hi := 0) o7q24q4 rfl, D_op (his := [0, 0, 0, 0, 0, 0, 0, 0, 0]) (hi := 0) o7q24q5 rfl, D_op (his := [0, 0, 0, 0, 0, 0, 0, 0, 0]) (hi := 0) o7q24q6 rfl, D_op (his := [0, 0, 0, 0, 0, 0, 0, 0, 0]) (hi := 0) o7q24q7 rfl, D_op (his := [0, 0, 0, 0, 0, 0, 0, 0, 0]) (hi := 0) o7q24q8 rfl, h0, h1, h5, a1, a2, b1, b2, ne71]
      by_cases he : xs[j] = ys[j]
      · simp only [he, decide_true, Bool.not_true, W0.down, W1.down, W2.down, W3.down, Nat.reduceAdd, Nat.reduceEqDiff, Nat.reduceLT, Nat.reduceLeDiff, Nat.reduceMul, OK.isLoud, advP, argsE, cellsA, evOs, intV, okC, partV, reduceCtorEq, reduceIte, resV, strV, undefA, Option.map_some, Option.bind_some, Bool.true_eq_false, Bool.false_eq_true, if_true, if_false, true_and, and_true, ne_eq, not_false_eq_true, not_true_eq_false, Nat.zero_add, Nat.add_zero, List.getElem?_toArray, List.getElem?_cons_succ, List.getElem?_cons_zero, List.drop_succ_cons, List.drop_zero, List.take_succ_cons, List.take_zero, List.length_cons, List.length_nil, List.cons_append, List.nil_append, Int.toNat_natCast, List.append_nil, G7q0.down, S_wpO_len (P := Tryz.prog) nm25, S_wpDO_len (P := Tryz.prog) nm25, lenV_sl (P := Tryz.prog) Tryz.underlying25, lenV_nilsl (P := Tryz.prog) Tryz.underlying25, binV_int (P := Tryz.prog) (k0 := .i64) Tryz.underlying3, D_end (his := [0, 0, 0, 0, 0, 0, 0, 0, 0]) z7q24 rfl, D_op (his := [0, 0, 0, 0, 0, 0, 0, 0, 0]) (hi := 0) o7q24q0 rfl, D_op (his := [0, 0, 0, 0, 0, 0, 0, 0, 0]) (hi := 0) o7q24q1 rfl, D_op (his := [0, 0, 0, 0, 0, 0, 0, 0, 0]) (hi := 0) o7q24q2 rfl, indexAddrV_slice (P := Tryz.prog) Tryz.underlying25 sz71, D_op (his := [0, 0, 0, 0, 0, 0, 0, 0, 0]) (hi := 0) o7q24q3 rfl, S_wpO_load (P := Tryz.prog) ag71 sz71, D_op (his := [0, 0, 0, 0, 0, 0, 0, 0, 0]) (hi := 0) o7q24q4 rfl, D_op (his := [0, 0, 0, 0, 0, 0, 0, 0, 0]) (hi := 0) o7q24q5 rfl, D_op (his := [0, 0, 0, 0, 0, 0, 0, 0, 0]) (hi := 0) o7q24q6 rfl, D_op (his := [0, 0, 0, 0, 0, 0, 0, 0, 0]) (hi := 0) o7q24q7 rfl, D_op (his := [0, 0, 0, 0, 0, 0, 0, 0, 0]) (hi := 0) o7q24q8 rfl, h5, wrap_nat (show j < 9223372036854775807 by omega)]
        first | exact ⟨_, (by omega), j + 1, (by omega), rfl, rfl, take_succ_eq ht hjl (by omega) he⟩ | exact ⟨_, (by omega), j + 1, (by omega), rfl, h0, h1, rfl, take_succ_eq ht hjl (by omega) he⟩
      · have hne : xs ≠ ys := fun hh => he (by subst hh; rfl)
        simp only [he, hne, decide_false, Bool.not_false, W0.down, W1.down, W2.down, W3.down, Nat.reduceAdd, Nat.reduceEqDiff, Nat.reduceLT, Nat.reduceLeDiff, Nat.reduceMul, OK.isLoud, advP, argsE, cellsA, evOs, intV, okC, partV, reduceCtorEq, reduceIte, resV, strV, undefA, Option.map_some, Option.bind_some, Bool.true_eq_false, Bool.false_eq_true, if_true, if_false, true_and, and_true, ne_eq, not_false_eq_true, not_true_eq_false, Nat.zero_add, Nat.add_zero, List.getElem?_toArray, List.getElem?_cons_succ, List.getElem?_cons_zero, List.drop_succ_cons, List.drop_zero, List.take_succ_cons, List.take_zero, List.length_cons, List.length_nil, List.cons_append, List.nil_append, Int.toNat_natCast, List.append_nil, G7q0.down, S_wpO_len (P := Tryz.prog) nm25, S_wpDO_len (P := Tryz.prog) nm25, lenV_sl (P := Tryz.prog) Tryz.underlying25, lenV_nilsl (P := Tryz.prog) Tryz.underlying25, binV_int (P := Tryz.prog) (k0 := .i64) Tryz.underlying3, D_end (his := [0, 0, 0, 0, 0, 0, 0, 0, 0]) z7q24 rfl, D_op (his := [0, 0, 0, 0, 0, 0, 0, 0, 0]) (hi := 0) o7q24q0 rfl, D_op (his := [0, 0, 0, 0, 0, 0, 0, 0, 0]) (hi := 0) o7q24q1 rfl, D_op (his := [0, 0, 0, 0, 0, 0, 0, 0, 0]) (hi := 0) o7q24q2 rfl, indexAddrV_slice (P := Tryz.prog) Tryz.underlying25 sz71, D_op (his := [0, 0, 0, 0, 0, 0, 0, 0, 0]) (hi := 0) o7q24q3 rfl, S_wpO_load (P := Tryz.prog) ag71 sz71, D_op (his := [0, 0, 0, 0, 0, 0, 0, 0, 0]) (hi := 0) o7q24q4 rfl, D_op (his := [0, 0, 0, 0, 0, 0, 0, 0, 0]) (hi := 0) o7q24q5 rfl, D_op (his := [0, 0, 0, 0, 0, 0, 0, 0, 0]) (hi := 0) o7q24q6 rfl, D_op (his := [0, 0, 0, 0, 0, 0, 0, 0, 0]) (hi := 0) o7q24q7 rfl, D_op (his := [0, 0, 0, 0, 0, 0, 0, 0, 0]) (hi := 0) o7q24q8 rfl, SameQ]
        exact Ext.refl _ _
    · have e1 : decide ((j : Int) < xs.length) = false := by simpa using hjl
      have := take_all ht hlen hjl
      simp only [e1, W0.down, W1.down, W2.down, W3.down, Nat.reduceAdd, Nat.reduceEqDiff, Nat.reduceLT, Nat.reduceLeDiff, Nat.reduceMul, OK.isLoud, advP, argsE, cellsA, evOs, intV, okC, partV, reduceCtorEq, reduceIte, resV, strV, undefA, Option.map_some, Option.bind_some, Bool.true_eq_false, Bool.false_eq_true, if_true, if_false, true_and, and_true, ne_eq, not_false_eq_true, not_true_eq_false, Nat.zero_add, Nat.add_zero, List.getElem?_toArray, List.getElem?_cons_succ, List.getElem?_cons_zero, List.drop_succ_cons, List.drop_zero, List.take_succ_cons, List.take_zero, List.length_cons, List.length_nil, List.cons_append, List.nil_append, Int.toNat_natCast, List.append_nil, G7q0.down, S_wpO_len (P := Tryz.prog) nm25, S_wpDO_len (P := Tryz.prog) nm25, lenV_sl (P := Tryz.prog) Tryz.underlying25, lenV_nilsl (P := Tryz.prog) Tryz.underlying25, binV_int (P := Tryz.prog) (k0 := .i64) Tryz.underlying3, D_end (his := [0, 0, 0, 0, 0, 0, 0, 0, 0]) z7q24 rfl, D_op (his := [0, 0, 0, 0, 0, 0, 0, 0, 0]) (hi := 0) o7q24q0 rfl, D_op (his := [0, 0, 0, 0, 0, 0, 0, 0, 0]) (hi := 0) o7q24q1 rfl, D_op (his := [0, 0, 0, 0, 0, 0, 0, 0, 0]) (hi := 0) o7q24q2 rfl, indexAddrV_slice (P := Tryz.prog) Tryz.underlying25 sz71, D_op (his := [0, 0, 0, 0, 0, 0, 0, 0, 0]) (hi := 0) o7q24q3 rfl, S_wpO_load (P := Tryz.prog) ag71 sz71, D_op (his := [0, 0, 0, 0, 0, 0, 0, 0, 0]) (hi := 0) o7q24q4 rfl, D_op (his := [0, 0, 0, 0, 0, 0, 0, 0, 0]) (hi := 0) o7q24q5 rfl, D_op (his := [0, 0, 0, 0, 0, 0, 0, 0, 0]) (hi := 0) o7q24q6 rfl, D_op (his := [0, 0, 0, 0, 0, 0, 0, 0, 0]) (hi := 0) o7q24q7 rfl, D_op (his := [0, 0, 0, 0, 0, 0, 0, 0, 0]) (hi := 0) o7q24q8 rfl]
      simp only [this, decide_true, SameQ, true_and]
      exact Ext.refl _ _
  · have hne : xs ≠ ys := fun hh => hlen (by rw [hh])
    have e1 : ¬ ((xs.length : Int) = ys.length) := by omega
    simp only [e1, hne, decide_false, Bool.not_false, W0.down, W1.down, W2.down, W3.down, Nat.reduceAdd, Nat.reduceEqDiff, Nat.reduceLT, Nat.reduceLeDiff, Nat.reduceMul, OK.isLoud, advP, argsE, cellsA, evOs, intV, okC, partV, reduceCtorEq, reduceIte, resV, strV, undefA, Option.map_some, Option.bind_some, Bool.true_eq_false, Bool.false_eq_true, if_true, if_false, true_and, and_true, ne_eq, not_false_eq_true, not_true_eq_false, Nat.zero_add, Nat.add_zero, List.getElem?_toArray, List.getElem?_cons_succ, List.getElem?_cons_zero, List.drop_succ_cons, List.drop_zero, List.take_succ_cons, List.take_zero, List.length_cons, List.length_nil, List.cons_append, List.nil_append, Int.toNat_natCast, List.append_nil, G7q0.down, S_wpO_len (P := Tryz.prog) nm25, S_wpDO_len (P := Tryz.prog) nm25, lenV_sl (P := Tryz.prog) Tryz.underlying25, lenV_nilsl (P := Tryz.prog) Tryz.underlying25, binV_int (P := Tryz.prog) (k0 := .i64) Tryz.underlying3, D_end (his := [0, 0, 0, 0, 0, 0, 0, 0, 0]) z7q24 rfl, D_op (his := [0, 0, 0, 0, 0, 0, 0, 0, 0]) (hi := 0) o7q24q0 rfl, D_op (his := [0, 0, 0, 0, 0, 0, 0, 0, 0]) (hi := 0) o7q24q1 rfl, D_op (his := [0, 0, 0, 0, 0, 0, 0, 0, 0]) (hi := 0) o7q24q2 rfl, indexAddrV_slice (P := Tryz.prog) Tryz.underlying25 sz71, D_op (his := [0, 0, 0, 0, 0, 0, 0, 0, 0]) (hi := 0) o7q24q3 rfl, S_wpO_load (P := Tryz.prog) ag71 sz71, D_op (his := [0, 0, 0, 0, 0, 0, 0, 0, 0]) (hi := 0) o7q24q4 rfl, D_op (his := [0, 0, 0, 0, 0, 0, 0, 0, 0]) (hi := 0) o7q24q5 rfl, D_op (his := [0, 0, 0, 0, 0, 0, 0, 0, 0]) (hi := 0) o7q24q6 rfl, D_op (his := [0, 0, 0, 0, 0, 0, 0, 0, 0]) (hi := 0) o7q24q7 rfl, D_op (his := [0, 0, 0, 0, 0, 0, 0, 0, 0]) (hi := 0) o7q24q8 rfl, SameQ]
    exact Ext.refl _ _

set_option maxHeartbeats 1000000 in
set_option maxRecDepth 10000 in
/-- slices.Equal, at Ints -/
theorem equalInts_ok (h : Hp) (n : Pos) (va vb : AV) (xs ys : List I3) (ha : IntsAt h n va xs) (hb : IntsAt h n vb ys) :
   AC Tryz.prog prim 19 [va, vb] h n (SameQ (xs = ys) h n) := by
  refine enter (by rfl) Tryz.func19 hb19 Tryz.ntmps19 rfl (by decide) (by simp) ?_
  have la := ha.len
  have lb := hb.len
  have hla := ha.2
  unfold big at hla
  simp only [G19q0.down, G19q1.down, S_wpO_len (P := Tryz.prog) nm25, S_wpDO_len (P := Tryz.prog) nm25, lenV_sl (P := Tryz.prog) Tryz.underlying25, lenV_nilsl (P := Tryz.prog) Tryz.underlying25, binV_int (P := Tryz.prog) (k0 := .i64) Tryz.underlying3, D_end (his := [0, 0, 0, 0, 0, 0, 0, 0, 0]) z19q26 rfl, D_op (his := [0, 0, 0, 0, 0, 0, 0, 0, 0]) (hi := 0) o19q26q0 rfl, D_op (his := [0, 0, 0, 0, 0, 0, 0, 0, 0]) (hi := 0) o19q26q1 rfl, D_op (his := [0, 0, 0, 0, 0, 0, 0, 0, 0]) (hi := 0) o19q26q2 rfl, indexAddrV_slice (P := Tryz.prog) Tryz.underlying25 sz71, D_op (his := [0, 0, 0, 0, 0, 0, 0, 0, 0]) (hi := 0) o19q26q3 rfl, S_wpO_load (P := Tryz.prog) ag71 sz71, D_op (his := [0, 0, 0, 0, 0, 0, 0, 0, 0]) (hi := 0) o19q26q4 rfl, D_op (his := [0, 0, 0, 0, 0, 0, 0, 0, 0]) (hi := 0) o19q26q5 rfl, D_op (his := [0, 0, 0, 0, 0, 0, 0, 0, 0]) (hi := 0) o19q26q6 rfl, D_op (his := [0, 0, 0, 0, 0, 0, 0, 0, 0]) (hi := 0) o19q26q7 rfl, D_op (his := [0, 0, 0, 0, 0, 0, 0, 0, 0]) (hi := 0) o19q26q8 rfl, W0.down, W1.down, W2.down, W3.down, Nat.reduceAdd, Nat.reduceEqDiff, Nat.reduceLT, Nat.reduceLeDiff, Nat.reduceMul, OK.isLoud, advP, argsE, cellsA, evOs, intV, okC, partV, reduceCtorEq, reduceIte, resV, strV, undefA, Option.map_some, Option.bind_some, Bool.true_eq_false, Bool.false_eq_true, if_true, if_false, true_and, and_true, ne_eq, not_false_eq_true, not_true_eq_false, Nat.zero_add, Nat.add_zero, List.getElem?_toArray, List.getElem?_cons_succ, List.getElem?_cons_zero, List.drop_succ_cons, List.drop_zero, List.take_succ_cons, List.take_zero, List.length_cons, List.length_nil, List.cons_append, List.nil_append, Int.toNat_natCast, List.append_nil, la, lb]
  by_cases hlen : xs.length = ys.length
  · simp only [hlen, decide_true, Bool.not_true, W0.down, W1.down, W2.down, W3.down, Nat.reduceAdd, Nat.reduceEqDiff, Nat.reduceLT, Nat.reduceLeDiff, Nat.reduceMul, OK.isLoud, advP, argsE, cellsA, evOs, intV, okC, partV, reduceCtorEq, reduceIte, resV, strV, undefA, Option.map_some, Option.bind_some, Bool.true_eq_false, Bool.false_eq_true, if_true, if_false, true_and, and_true, ne_eq, not_false_eq_true, not_true_eq_false, Nat.zero_add, Nat.add_zero, List.getElem?_toArray, List.getElem?_cons_succ, List.getElem?_cons_zero, List.drop_succ_cons, List.drop_zero, List.take_succ_cons, List.take_zero, List.length_cons, List.length_nil, List.cons_append, List.nil_append, Int.toNat_natCast, List.append_nil, lb, la, G19q0.down, G19q1.down, S_wpO_len (P := Tryz.prog) nm25, S_wpDO_len (P := Tryz.prog) nm25, lenV_sl (P := Tryz.prog) Tryz.underlying25, lenV_nilsl (P := Tryz.prog) Tryz.underlying25, binV_int (P := Tryz.prog) (k0 := .i64) Tryz.underlying3, D_end (his := [0, 0, 0, 0, 0, 0, 0, 0, 0]) z19q26 rfl, D_op (his := [0, 0, 0, 0, 0, 0, 0, 0, 0]) (hi := 0) o19q26q0 rfl, D_op (his := [0, 0, 0, 0, 0, 0, 0, 0, 0]) (hi := 0) o19q26q1 rfl, D_op (his := [0, 0, 0, 0, 0, 0, 0, 0, 0]) (hi := 0) o19q26q2 rfl, indexAddrV_slice (P := Tryz.prog) Tryz.underlying25 sz71, D_op (his := [0, 0, 0, 0, 0, 0, 0, 0, 0]) (hi := 0) o19q26q3 rfl, S_wpO_load (P := Tryz.prog) ag71 sz71, D_op (his := [0, 0, 0, 0, 0, 0, 0, 0, 0]) (hi := 0) o19q26q4 rfl, D_op (his := [0, 0, 0, 0, 0, 0, 0, 0, 0]) (hi := 0) o19q26q5 rfl, D_op (his := [0, 0, 0, 0, 0, 0, 0, 0, 0]) (hi := 0) o19q26q6 rfl, D_op (his := [0, 0, 0, 0, 0, 0, 0, 0, 0]) (hi := 0) o19q26q7 rfl, D_op (his := [0, 0, 0, 0, 0, 0, 0, 0, 0]) (hi := 0) o19q26q8 rfl]
    refine loop_inv (fun m l h' n' => ∃ j : Nat, j ≤ xs.length ∧ m = xs.length - j ∧ h' = h ∧ n' = n ∧ lk 0 l = some va ∧ lk 1 l = some vb ∧ lk 12 l = some (.i .i64 (xs.length : Int)) ∧ lk 13 l = some (.i .i64 (j : Int)) ∧ xs.take j = ys.take j) xs.length (by omega) ⟨0, by omega, by omega, rfl, rfl, rfl, rfl, by simp [lk, hlen], rfl, rfl⟩ ?_
    rintro m l h' n' ⟨j, hj, rfl, rfl, rfl, h0, h1, h12, h5, ht⟩
    simp only [W0.down, W1.down, W2.down, W3.down, Nat.reduceAdd, Nat.reduceEqDiff, Nat.reduceLT, Nat.reduceLeDiff, Nat.reduceMul, OK.isLoud, advP, argsE, cellsA, evOs, intV, okC, partV, reduceCtorEq, reduceIte, resV, strV, undefA, Option.map_some, Option.bind_some, Bool.true_eq_false, Bool.false_eq_true, if_true, if_false, true_and, and_true, ne_eq, not_false_eq_true, not_true_eq_false, Nat.zero_add, Nat.add_zero, List.getElem?_toArray, List.getElem?_cons_succ, List.getElem?_cons_zero, List.drop_succ_cons, List.drop_zero, List.take_succ_cons, List.take_zero, List.length_cons, List.length_nil, List.cons_append, List.nil_append, Int.toNat_natCast, List.append_nil, G19q0.down, G19q1.down, S_wpO_len (P := Tryz.prog) nm25, S_wpDO_len (P := Tryz.prog) nm25, lenV_sl (P := Tryz.prog) Tryz.underlying25, lenV_nilsl (P := Tryz.prog) Tryz.underlying25, binV_int (P := Tryz.prog) (k0 := .i64) Tryz.underlying3, D_end (his := [0, 0, 0, 0, 0, 0, 0, 0, 0]) z19q26 rfl, D_op (his := [0, 0, 0, 0, 0, 0, 0, 0, 0]) (hi := 0) o19q26q0 rfl, D_op (his := [0, 0, 0, 0, 0, 0, 0, 0, 0]) (hi := 0) o19q26q1 rfl, D_op (his := [0, 0, 0, 0, 0, 0, 0, 0, 0]) (hi := 0) o19q26q2 rfl, indexAddrV_slice (P := Tryz.prog) Tryz.underlying25 sz71, D_op (his := [0, 0, 0, 0, 0, 0, 0, 0, 0]) (hi := 0) o19q26q3 rfl, S_wpO_load (P := Tryz.prog) ag71 sz71, D_op (his := [0, 0, 0, 0, 0, 0, 0, 0, 0]) (hi := 0) o19q26q4 rfl, D_op (his := [0, 0, 0, 0, 0, 0, 0, 0, 0]) (hi := 0) o19q26q5 rfl, D_op (his := [0, 0, 0, 0, 0, 0, 0, 0, 0]) (hi := 0) o19q26q6 rfl, D_op (his := [0, 0, 0, 0, 0, 0, 0, 0, 0]) (hi := 0) o19q26q7 rfl, D_op (his := [0, 0, 0, 0, 0, 0, 0, 0, 0]) (hi := 0) o19q26q8 rfl, la, h0, h1, h5, h12]
    by_cases hjl : j < xs.length
    · have e1 : decide ((j : Int) < xs.length) = true := by simpa using hjl
      obtain ⟨ia, oa, a1, a2⟩ := ha.get hjl
      obtain ⟨ib, ob, b1, b2⟩ := hb.get (show j < ys.length by omega)
      simp only [e1, W0.down, W1.down, W2.down, W3.down, Nat.reduceAdd, Nat.reduceEqDiff, Nat.reduceLT, Nat.reduceLeDiff, Nat.reduceMul, OK.isLoud, advP, argsE, cellsA, evOs, intV, okC, partV, reduceCtorEq, reduceIte, resV, strV, undefA, Option.map_some, Option.bind_some, Bool.true_eq_false, Bool.false_eq_true, if_true, if_false, true_and, and_true, ne_eq, not_false_eq_true, not_true_eq_false, Nat.zero_add, Nat.add_zero, List.getElem?_toArray, List.getElem?_cons_succ, List.getElem?_cons_zero, List.drop_succ_cons, List.drop_zero, List.take_succ_cons, List.take_zero, List.length_cons, List.length_nil, List.cons_append, List.nil_append, Int.toNat_natCast, List.append_nil, G19q0.down, G19q1.down, S_wpO_len (P := Tryz.prog) nm25, S_wpDO_len (P := Tryz.prog) nm25, lenV_sl (P := Tryz.prog) Tryz.underlying25, lenV_nilsl (P := Tryz.prog) Tryz.underlying25, binV_int (P := Tryz.prog) (k0 := .i64) Tryz.underlying3, D_end (his := [0, 0, 0, 0, 0, 0, 0, 0, 0]) z19q26 rfl, D_op (his := [0, 0, 0, 0, 0, 0, 0, 0, 0]) (hi := 0) o19q26q0 rfl, D_op (his := [0, 0, 0, 0, 0, 0, 0, 0, 0]) (hi := 0) o19q26q1 rfl, D_op (his := [0, 0, 0, 0, 0, 0, 0, 0, 0]) (hi := 0) o19q26q2 rfl, indexAddrV_slice (P := Tryz.prog) Tryz.underlying25 sz71, D_op (his := [0, 0, 0, 0, 0, 0, 0, 0, 0]) (hi := 0) o19q26q3 rfl, S_wpO_load (P := Tryz.prog) ag71 sz71, D_op (his := [0, 0, 0, 0, 0, 0, 0, 0, 0]) (hi := 0) o19q26q4 rfl, D_op (his := [0, 0, 0, 0, 0, 0, 0, 0, 0]) (hi := 0) o19q26q5 rfl, D_op (his := [0, 0, 0, 0, 0, 0, 0, 0, 0]) (hi := 0) o19q26q6 rfl, D_op (his := [0, 0, 0, 0, 0, 0, 0, 0, 0]) (hi := 0) o19q26q7 rfl, D_op (his := [0, 0, 0, 0, 0, 0, 0, 0, 0]) (hi := 0) o19q26q8 rfl, h5]
      refine draw_at (by decide) [0, 0, 0, 0, 0, 0, 0, 0, 0] 0 (by kernel_rfl) ?_
      simp only [W0.down, W1.down, W2.down, W3.down, Nat.reduceAdd, Nat.reduceEqDiff, Nat.reduceLT, Nat.reduceLeDiff, Nat.reduceMul, OK.isLoud, advP, argsE, cellsA, evOs, intV, okC, partV, reduceCtorEq, reduceIte, resV, strV, undefA, Option.map_some, Option.bind_some, Bool.true_eq_false, Bool.false_eq_true, if_true, if_false, true_and, and_true, ne_eq, not_false_eq_true, not_true_eq_false, Nat.zero_add, Nat.add_zero, List.getElem?_toArray, List.getElem?_cons_succ, List.getElem?_cons_zero, List.drop_succ_cons, List.drop_zero, List.take_succ_cons, List.take_zero, List.length_cons, List.length_nil, List.cons_append, List.nil_append, Int.toNat_natCast, List.append_nil, G19q0.down, G19q1.down, S_wpO_len (P := Tryz.prog) nm25, S_wpDO_len (P := Tryz.prog) nm25, lenV_sl (P := Tryz.prog) Tryz.underlying25, lenV_nilsl (P := Tryz.prog) Tryz.underlying25, binV_int (P := Tryz.prog) (k0 := .i64) Tryz.underlying3, D_end (his := [0, 0, 0, 0, 0, 0, 0, 0, 0]) z19q26 rfl, D_op (his := [0, 0, 0, 0, 0, 0, 0, 0, 0]) (hi := 0) o19q26q0 rfl, D_op (his := [0, 0, 0, 0, 0, 0, 0, 0, 0]) (hi := 0) o19q26q1 rfl, D_op (his := [0, 0, 0, 0, 0, 0, 0, 0, 0]) (hi := 0) o19q26q2 rfl, indexAddrV_slice (P := Tryz.prog) Tryz.underlying25 sz71, D_op (his := [0, 0, 0, 0, 0, 0, 0, 0, 0]) (hi := 0) o19q26q3 rfl, S_wpO_load (P := Tryz.prog) ag71 sz71, D_op (his := [0, 0, 0, 0, 0, 0, 0, 0, 0]) (hi := 0) o19q26q4 rfl, D_op (his := [0, 0, 0, 0, 0, 0, 0, 0, 0]) (hi := 0) o19q26q5 rfl, D_op (his := [0, 0, 0, 0, 0, 0, 0, 0, 0]) (hi := 0) o19q26q6 rfl, D_op (his := [0, 0, 0, 0, 0, 0, 0, 0, 0]) (hi := 0) o19q26q7 rfl, D_op (his := [0, 0, 0, 0, 0, 0, 0, 0, 0]) (hi := 0) o19q26q8 rfl, h0, h1, h5, a1, a2, b1, b2, ne71]
      by_cases he : xs[j] = ys[j]
      · simp only [he, decide_true, Bool.not_true, W0.down, W1.down, W2.down, W3.down, Nat.reduceAdd, Nat.reduceEqDiff, Nat.reduceLT, Nat.reduceLeDiff, Nat.reduceMul, OK.isLoud, advP, argsE, cellsA, evOs, intV, okC, partV, reduceCtorEq, reduceIte, resV, strV, undefA, Option.map_some, Option.bind_some, Bool.true_eq_false, Bool.false_eq_true, if_true, if_false, true_and, and_true, ne_eq, not_false_eq_true, not_true_eq_false, Nat.zero_add, Nat.add_zero, List.getElem?_toArray, List.getElem?_cons_succ, List.getElem?_cons_zero, List.drop_succ_cons, List.drop_zero, List.take_succ_cons, List.take_zero, List.length_cons, List.length_nil, List.cons_append, List.nil_append, Int.toNat_natCast, List.append_nil, G19q0.down, G19q1.down, S_wpO_len (P := Tryz.prog) nm25, S_wpDO_len (P := Tryz.prog) nm25, lenV_sl (P := Tryz.prog) Tryz.underlying25, lenV_nilsl (P := Tryz.prog) Tryz.underlying25, binV_int (P := Tryz.prog) (k0 := .i64) Tryz.underlying3, D_end (his := [0, 0, 0, 0, 0, 0, 0, 0, 0]) z19q26 rfl, D_op (his := [0, 0, 0, 0, 0, 0, 0, 0, 0]) (hi := 0) o19q26q0 rfl, D_op (his := [0, 0, 0, 0, 0, 0, 0, 0, 0]) (hi := 0) o19q26q1 rfl, D_op (his := [0, 0, 0, 0, 0, 0, 0, 0, 0]) (hi := 0) o19q26q2 rfl, indexAddrV_slice (P := Tryz.prog) Tryz.underlying25 sz71, D_op (his := [0, 0, 0, 0, 0, 0, 0, 0, 0]) (hi := 0) o19q26q3 rfl, S_wpO_load (P := Tryz.prog) ag71 sz71, D_op (his := [0, 0, 0, 0, 0, 0, 0, 0, 0]) (hi := 0) o19q26q4 rfl, D_op (his := [0, 0, 0, 0, 0, 0, 0, 0, 0]) (hi := 0) o19q26q5 rfl, D_op (his := [0, 0, 0, 0, 0, 0, 0, 0, 0]) (hi := 0) o19q26q6 rfl, D_op (his := [0, 0, 0, 0, 0, 0, 0, 0, 0]) (hi := 0) o19q26q7 rfl, D_op (his := [0, 0, 0, 0, 0, 0, 0, 0, 0]) (hi := 0) o19q26q8 rfl, h5, wrap_nat (show j < 9223372036854775807 by omega)]
        first | exact ⟨_, (by omega), j + 1, (by omega), rfl, h12, rfl, take_succ_eq ht hjl (by omega) he⟩ | exact ⟨_, (by omega), j + 1, (by omega), rfl, h0, h1, h12, rfl, take_succ_eq ht hjl (by omega) he⟩
      · have hne : xs ≠ ys := fun hh => he (by subst hh; rfl)
        simp only [he, hne, decide_false, Bool.not_false, W0.down, W1.down, W2.down, W3.down, Nat.reduceAdd, Nat.reduceEqDiff, Nat.reduceLT, Nat.reduceLeDiff, Nat.reduceMul, OK.isLoud, advP, argsE, cellsA, evOs, intV, okC, partV, reduceCtorEq, reduceIte, resV, strV, undefA, Option.map_some, Option.bind_some, Bool.true_eq_false, Bool.false_eq_true, if_true, if_false, true_and, and_true, ne_eq, not_false_eq_true, not_true_eq_false, Nat.zero_add, Nat.add_zero, List.getElem?_toArray, List.getElem?_cons_succ, List.getElem?_cons_zero, List.drop_succ_cons, List.drop_zero, List.take_succ_cons, List.take_zero, List.length_cons, List.length_nil, List.cons_append, List.nil_append, Int.toNat_natCast, List.append_nil, G19q0.down, G19q1.down, S_wpO_len (P := Tryz.prog) nm25, S_wpDO_len (P := Tryz.prog) nm25, lenV_sl (P := Tryz.prog) Tryz.underlying25, lenV_nilsl (P := Tryz.prog) Tryz.underlying25, binV_int (P := Tryz.prog) (k0 := .i64) Tryz.underlying3, D_end (his := [0, 0, 0, 0, 0, 0, 0, 0, 0]) z19q26 rfl, D_op (his := [0, 0, 0, 0, 0, 0, 0, 0, 0]) (hi := 0) o19q26q0 rfl, D_op (his := [0, 0, 0, 0, 0, 0, 0, 0, 0]) (hi := 0) o19q26q1 rfl, D_op (his := [0, 0, 0, 0, 0, 0, 0, 0, 0]) (hi := 0) o19q26q2 rfl, indexAddrV_slice (P := Tryz.prog) Tryz.underlying25 sz71, D_op (his := [0, 0, 0, 0, 0, 0, 0, 0, 0]) (hi := 0) o19q26q3 rfl, S_wpO_load (P := Tryz.prog) ag71 sz71, D_op (his := [0, 0, 0, 0, 0, 0, 0, 0, 0]) (hi := 0) o19q26q4 rfl, D_op (his := [0, 0, 0, 0, 0, 0, 0, 0, 0]) (hi := 0) o19q26q5 rfl, D_op (his := [0, 0, 0, 0, 0, 0, 0, 0, 0]) (hi := 0) o19q26q6 rfl, D_op (his := [0, 0, 0, 0, 0, 0, 0, 0, 0]) (hi := 0) o19q26q7 rfl, D_op (his := [0, 0, 0, 0, 0, 0, 0, 0, 0]) (hi := 0) o19q26q8 rfl, SameQ]
        exact Ext.refl _ _
    · have e1 : decide ((j : Int) < xs.length) = false := by simpa using hjl
      have := take_all ht hlen hjl
      simp only [e1, W0.down, W1.down, W2.down, W3.down, Nat.reduceAdd, Nat.reduceEqDiff, Nat.reduceLT, Nat.reduceLeDiff, Nat.reduceMul, OK.isLoud, advP, argsE, cellsA, evOs, intV, okC, partV, reduceCtorEq, reduceIte, resV, strV, undefA, Option.map_some, Option.bind_some, Bool.true_eq_false, Bool.false_eq_true, if_true, if_false, true_and, and_true, ne_eq, not_false_eq_true, not_true_eq_false, Nat.zero_add, Nat.add_zero, List.getElem?_toArray, List.getElem?_cons_succ, List.getElem?_cons_zero, List.drop_succ_cons, List.drop_zero, List.take_succ_cons, List.take_zero, List.length_cons, List.length_nil, List.cons_append, List.nil_append, Int.toNat_natCast, List.append_nil, G19q0.down, G19q1.down, S_wpO_len (P := Tryz.prog) nm25, S_wpDO_len (P := Tryz.prog) nm25, lenV_sl (P := Tryz.prog) Tryz.underlying25, lenV_nilsl (P := Tryz.prog) Tryz.underlying25, binV_int (P := Tryz.prog) (k0 := .i64) Tryz.underlying3, D_end (his := [0, 0, 0, 0, 0, 0, 0, 0, 0]) z19q26 rfl, D_op (his := [0, 0, 0, 0, 0, 0, 0, 0, 0]) (hi := 0) o19q26q0 rfl, D_op (his := [0, 0, 0, 0, 0, 0, 0, 0, 0]) (hi := 0) o19q26q1 rfl, D_op (his := [0, 0, 0, 0, 0, 0, 0, 0, 0]) (hi := 0) o19q26q2 rfl, indexAddrV_slice (P := Tryz.prog) Tryz.underlying25 sz71, D_op (his := [0, 0, 0, 0, 0, 0, 0, 0, 0]) (hi := 0) o19q26q3 rfl, S_wpO_load (P := Tryz.prog) ag71 sz71, D_op (his := [0, 0, 0, 0, 0, 0, 0, 0, 0]) (hi := 0) o19q26q4 rfl, D_op (his := [0, 0, 0, 0, 0, 0, 0, 0, 0]) (hi := 0) o19q26q5 rfl, D_op (his := [0, 0, 0, 0, 0, 0, 0, 0, 0]) (hi := 0) o19q26q6 rfl, D_op (his := [0, 0, 0, 0, 0, 0, 0, 0, 0]) (hi := 0) o19q26q7 rfl, D_op (his := [0, 0, 0, 0, 0, 0, 0, 0, 0]) (hi := 0) o19q26q8 rfl]
      simp only [this, decide_true, SameQ, true_and]
      exact Ext.refl _ _
  · have hne : xs ≠ ys := fun hh => hlen (by rw [hh])
    have e1 : ¬ ((xs.length : Int) = ys.length) := by omega
    simp only [e1, hne, decide_false, Bool.not_false, W0.down, W1.down, W2.down, W3.down, Nat.reduceAdd, Nat.reduceEqDiff, Nat.reduceLT, Nat.reduceLeDiff, Nat.reduceMul, OK.isLoud, advP, argsE, cellsA, evOs, intV, okC, partV, reduceCtorEq, reduceIte, resV, strV, undefA, Option.map_some, Option.bind_some, Bool.true_eq_false, Bool.false_eq_true, if_true, if_false, true_and, and_true, ne_eq, not_false_eq_true, not_true_eq_false, Nat.zero_add, Nat.add_zero, List.getElem?_toArray, List.getElem?_cons_succ, List.getElem?_cons_zero, List.drop_succ_cons, List.drop_zero, List.take_succ_cons, List.take_zero, List.length_cons, List.length_nil, List.cons_append, List.nil_append, Int.toNat_natCast, List.append_nil, G19q0.down, G19q1.down, S_wpO_len (P := Tryz.prog) nm25, S_wpDO_len (P := Tryz.prog) nm25, lenV_sl (P := Tryz.prog) Tryz.underlying25, lenV_nilsl (P := Tryz.prog) Tryz.underlying25, binV_int (P := Tryz.prog) (k0 := .i64) Tryz.underlying3, D_end (his := [0, 0, 0, 0, 0, 0, 0, 0, 0]) z19q26 rfl, D_op (his := [0, 0, 0, 0, 0, 0, 0, 0, 0]) (hi := 0) o19q26q0 rfl, D_op (his := [0, 0, 0, 0, 0, 0, 0, 0, 0]) (hi := 0) o19q26q1 rfl, D_op (his := [0, 0, 0, 0, 0, 0, 0, 0, 0]) (hi := 0) o19q26q2 rfl, indexAddrV_slice (P := Tryz.prog) Tryz.underlying25 sz71, D_op (his := [0, 0, 0, 0, 0, 0, 0, 0, 0]) (hi := 0) o19q26q3 rfl, S_wpO_load (P := Tryz.prog) ag71 sz71, D_op (his := [0, 0, 0, 0, 0, 0, 0, 0, 0]) (hi := 0) o19q26q4 rfl, D_op (his := [0, 0, 0, 0, 0, 0, 0, 0, 0]) (hi := 0) o19q26q5 rfl, D_op (his := [0, 0, 0, 0, 0, 0, 0, 0, 0]) (hi := 0) o19q26q6 rfl, D_op (his := [0, 0, 0, 0, 0, 0, 0, 0, 0]) (hi := 0) o19q26q7 rfl, D_op (his := [0, 0, 0, 0, 0, 0, 0, 0, 0]) (hi := 0) o19q26q8 rfl, SameQ]
    exact Ext.refl _ _

end Go.Am.T
