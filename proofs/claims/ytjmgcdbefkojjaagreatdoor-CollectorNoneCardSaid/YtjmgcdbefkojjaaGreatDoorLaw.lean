/- A part of the proof: a verified reading of the model by values alone, and what is shown by it. It holds without conditions. -/
import Derived.Test.YtjmgcdbefkojjaaGreatDoorSeat
namespace Go.Proofs.YtjmgcdbefkojjaaGreatDoor
open Go Go.Av
set_option maxRecDepth 1000000

def cutS (s : ByteArray) : ByteArray := s.extract 0 (min s.size 300)
theorem cut_c (s : ByteArray) : OK Γ (.call 7 0 [.atom (.string s)] []) (.atom (.string (cutS s)), []) := by
  refine Fit.pure1 fit (n := 100) rfl (mkFn Tryz.func7 rfl (by kernel_rfl)) (by simp [Tryz.ntmps7]) (by kernel_rfl) ?_
  simp [argsEnv, Tryz.ntmps7, Tryz.func7, Tryz.results7, cutS]
  refine ⟨by omega, ?_⟩
  congr 1; omega
theorem cut_ok (s : ByteArray) (H : Heap) (base : Nat) : OK Γ (.call 7 base [.atom (.string s)] H) (.atom (.string (cutS s)), H) := OK.frame (cut_c s) rfl rfl

def reqAV (a b c d e f : Int) (s t : ByteArray) (is ts : List AV) (n m : Nat) (x y : Bool) : AV :=
  .agg [.atom (.int .i64 a), .atom (.int .u64 b), .atom (.string s), .atom (.string t), .atom (.int .i64 c), .sl is n x, .atom (.int .u64 d), .atom (.int .u64 e), .atom (.int .u64 f), .sl ts m y]

def tk (sz n k : Nat) (cs : List AV) : List AV := cs.take ((min (n : Int) k).toNat * sz)
def tn (n k : Nat) : Nat := (min (n : Int) k).toNat
theorem few_c (a b c d e f : Int) (s t : ByteArray) (is ts : List AV) (n m : Nat) (x y : Bool) : OK Γ (.call 10 0 [reqAV a b c d e f s t is ts n m x y] [])
    (reqAV a b c d e f (cutS s) (cutS t) (is.take ((min (n : Int) 52).toNat * 2)) (ts.take (min (m : Int) 10).toNat) (min (n : Int) 52).toNat (min (m : Int) 10).toNat (x && decide ((min (n : Int) 52).toNat = n)) (y && decide ((min (m : Int) 10).toNat = m)), []) := by
  refine Fit.pure1 fit (n := 100) rfl (mkFn Tryz.func10 rfl (by kernel_rfl)) (by simp [Tryz.ntmps10]) (by kernel_rfl) ?_
  simp [argsEnv, Tryz.ntmps10, reqAV]
  refine WCall.of (cut_ok _ _ _) ?_
  simp
  refine WCall.of (cut_ok _ _ _) ?_
  simp
  omega

theorem none_c : OK Γ (.call 13 0 [.atom (.pointer none)] []) (.atom (.bool true), []) := by
  refine Fit.pure1 fit (n := 100) rfl (mkFn Tryz.func13 rfl (by kernel_rfl)) (by simp [Tryz.ntmps13]) (by kernel_rfl) ?_
  simp [argsEnv, Tryz.ntmps13, Tryz.func13, Tryz.results13]
theorem none_ok {H : Heap} {base : Nat} : OK Γ (.call 13 base [.atom (.pointer none)] H) (.atom (.bool true), H) := OK.frame none_c rfl rfl

theorem mint_c (a b c : Int) : OK Γ (.call 5 0 [.atom (.pointer none), .agg [.atom (.int .u64 a), .atom (.int .i64 b), .atom (.int .u64 c)]] []) (.tuple [.atom (.string ⟨#[]⟩), .atom (.int .i64 1)], []) := by
  refine Fit.pure1 fit (n := 100) rfl (mkFn Tryz.func5 rfl (by kernel_rfl)) (by simp [Tryz.ntmps5]) (by kernel_rfl) ?_
  simp [argsEnv, Tryz.ntmps5]
  refine WCall.of none_ok ?_
  simp [Tryz.func5, Tryz.results5]

theorem auth_c (s : ByteArray) (a : Int) : OK Γ (.call 6 0 [.atom (.pointer none), .atom (.string s), .atom (.int .u64 a)] []) (.tuple [.agg [.atom (.int .u64 0), .atom (.int .i64 0), .atom (.int .u64 0)], .atom (.int .i64 1)], []) := by
  refine Fit.pure1 fit (n := 100) rfl (mkFn Tryz.func6 rfl (by kernel_rfl)) (by simp [Tryz.ntmps6]) (by kernel_rfl) ?_
  simp [argsEnv, Tryz.ntmps6]
  refine WCall.of none_ok ?_
  simp [Tryz.func6, Tryz.results6]

theorem costs_c : OK Γ (.call 11 0 [.atom (.pointer none)] []) (.sl [] 0 true, []) := by
  refine Fit.pure1 fit (n := 100) rfl (mkFn Tryz.func11 rfl (by kernel_rfl)) (by simp [Tryz.ntmps11]) (by kernel_rfl) ?_
  simp [argsEnv, Tryz.ntmps11]
  refine WCall.of none_ok ?_
  simp [Tryz.func11, Tryz.results11]

def repAV : AV := .agg [.atom (.int .i64 1), .atom (.int .u64 0), .sl [] 0 true, .sl [] 0 true]
theorem do_c (a b c : Int) (r : List AV) : OK Γ (.call 9 0 [.atom (.pointer none), .agg [.atom (.int .u64 a), .atom (.int .i64 b), .atom (.int .u64 c)], .agg r] []) (repAV, []) := by
  refine Fit.pure1 fit (n := 100) rfl (mkFn Tryz.func9 rfl (by kernel_rfl)) (by simp [Tryz.ntmps9]) (by kernel_rfl) ?_
  simp [argsEnv, Tryz.ntmps9]
  refine WCall.of none_ok ?_
  simp [Tryz.func9, Tryz.results9, repAV]

theorem same_c : OK Γ (.call 8 0 [repAV, repAV] []) (.atom (.bool true), []) := okClosed (task_run (n := 1000) s0 fn0 mx0 pu0 (by kernel_rfl))

theorem law_c (a b c : Int) (d e f g h i : Int) (s t u : ByteArray) (is ts : List AV) (n m : Nat) (x y : Bool) (hs : OK Γ (.call 4 0 [] []) (.atom (.bool true), [])) :
    OK Γ (.call 3 0 [.agg [.atom (.int .u64 a), .atom (.int .i64 b), .atom (.int .u64 c)], reqAV d e f g h i s t is ts n m x y, .atom (.string u)] []) (.atom (.bool true), []) := by
  refine Fit.pure1 fit (n := 100) rfl (mkFn Tryz.func3 rfl (by kernel_rfl)) (by simp [Tryz.ntmps3]) (by kernel_rfl) ?_
  simp [argsEnv, Tryz.ntmps3, reqAV]
  refine WCall.of (OK.frame hs rfl rfl) ?_
  simp
  refine WCall.of (OK.frame (mint_c _ _ _) rfl rfl) ?_
  simp
  refine Fit.draw fit (n := 60) [[(8, false)], [(2, false)], [(22, true)], [(4, false)], [(24, true)], [(21, true), (23, true), (25, true)], [(26, true)], [(20, true)], [(20, true)], [], [(11, true), (27, true)], [(28, true)]] (by kernel_rfl) ?_
  simp [opKind]
  refine WCall.of (cut_ok _ _ _) ?_
  simp [opKind]
  refine WCall.of (OK.frame (auth_c _ _) rfl rfl) ?_
  simp [opKind]
  refine ⟨drawB_of (by kernel_rfl) ?_, ?_⟩
  · rw [List.all_cons, readB_of [0, 1] (by kernel_rfl) rfl (by simp)]
    rfl
  rw [asks_of [0, 1] (by kernel_rfl), asks_of [0, 1] (by kernel_rfl)]
  simp
  refine ⟨Ask.of (OK.frame (auth_c _ _) rfl rfl) (by simp), Ask.of (cut_ok _ _ _) (by simp), ?_⟩
  refine Fit.calm fit (n := 60) (by kernel_rfl) ?_
  simp
  refine WCall.of (OK.frame (few_c _ _ _ _ _ _ _ _ _ _ _ _ _ _) rfl rfl) ?_
  simp [reqAV]
  refine WCall.of (OK.frame (do_c _ _ _ _) rfl rfl) ?_
  simp [repAV]
  refine WCall.of (OK.frame same_c rfl rfl) ?_
  simp
  refine WCall.of (OK.frame costs_c rfl rfl) ?_
  simp [Tryz.func3, Tryz.results3]
end Go.Proofs.YtjmgcdbefkojjaaGreatDoor
