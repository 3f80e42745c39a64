/- ImportsChain at an input that is out of bounds. -/
import Derived.Test.YtndcdolcmkmgbaaIcb1
set_option maxRecDepth 1000000
namespace Go.Proofs.Ytndcdolcmkmgbaa.AM.Xb
open Go.Proofs
/-- The law's own code. -/
def fn4 : HFn := { nargs := 2, results := [.tmp 4], mode := .shared, code :=
  (.seq (.region [⟨(some 4), true, .mv (.val (.tr (.sc (.bool false)))), none⟩] none)
  (.seq (.region [⟨(some 13), false, .callf 7 [], none⟩,
     ⟨(some 5), true, .mv (.loc 13), none⟩] none)
  (.seq (.seq (.region [⟨(some 14), false, .mv (.env 0), none⟩,
      ⟨(some 15), false, .bin .other .lss (.loc 14) (.val (.tr (.sc (.int .i64 1)))), none⟩,
      ⟨(some 16), false, .mv (.loc 15), none⟩,
      ⟨(some 17), false, .mv (.env 0), some ((.loc 16), false)⟩,
      ⟨(some 18), false, .bin .other .gtr (.loc 17) (.val (.tr (.sc (.int .i64 20)))), some ((.loc 16), false)⟩,
      ⟨(some 19), false, .pick (.loc 16) (.val (.tr (.sc (.bool true)))) (.loc 18), none⟩,
      ⟨(some 20), false, .mv (.loc 19), none⟩,
      ⟨(some 21), false, .mv (.env 1), some ((.loc 20), false)⟩,
      ⟨(some 22), false, .bin .other .lss (.loc 21) (.val (.tr (.sc (.int .i64 (-1))))), some ((.loc 20), false)⟩,
      ⟨(some 23), false, .pick (.loc 20) (.val (.tr (.sc (.bool true)))) (.loc 22), none⟩,
      ⟨(some 24), false, .mv (.loc 23), none⟩,
      ⟨(some 25), false, .mv (.env 1), some ((.loc 24), false)⟩,
      ⟨(some 26), false, .mv (.env 0), some ((.loc 24), false)⟩,
      ⟨(some 27), false, .bin .other .geq (.loc 25) (.loc 26), some ((.loc 24), false)⟩,
      ⟨(some 28), false, .pick (.loc 24) (.val (.tr (.sc (.bool true)))) (.loc 27), none⟩] none)
   (.cond (.loc 28)
    (.seq (.region [⟨(some 29), false, .mv (.env 5), none⟩,
       ⟨(some 4), true, .mv (.loc 29), none⟩] none)
    .ret)
    .skip))
  (.seq (.region [⟨(some 6), true, .mv (.val (.tr (.fn (.func 11) [] []))), none⟩] none)
  (.seq (.region [⟨(some 7), true, .mv (.val (.tr (.sc (.slice none 0 0)))), none⟩] none)
  (.seq (.region [⟨(some 8), true, .mv (.val (.tr (.sc (.slice none 0 0)))), none⟩] none)
  (.seq (.seq (.region [⟨(some 9), true, .mv (.val (.tr (.sc (.int .i64 0)))), none⟩] none)
   (.block 0
    (.loop
     (.seq (.seq (.region [⟨(some 30), false, .mv (.env 9), none⟩,
         ⟨(some 31), false, .mv (.env 0), none⟩,
         ⟨(some 32), false, .bin .other .lss (.loc 30) (.loc 31), none⟩] none)
      (.cond (.loc 32)
       .skip
       (.exit 0)))
     (.seq (.block 1
       (.seq (.region [⟨(some 35), false, .mv (.env 7), none⟩,
          ⟨(some 36), false, .mv (.env 6), none⟩,
          ⟨(some 37), false, .mv (.env 9), none⟩,
          ⟨(some 38), false, .callv (.loc 36) [(.loc 37)], none⟩,
          ⟨(some 39), false, .bslice true 1 1 [(.sc (.string ⟨⟨[]⟩⟩))] [(0, 1, (.loc 38))], none⟩,
          ⟨(some 40), false, .append 1 16 (.loc 35) (.loc 39), none⟩,
          ⟨(some 7), true, .mv (.loc 40), none⟩] none)
       (.seq (.region [⟨(some 41), false, .mv (.env 9), none⟩,
          ⟨(some 42), false, .bin .other .add (.loc 41) (.val (.tr (.sc (.int .i64 1)))), none⟩,
          ⟨(some 43), false, .mv (.env 0), none⟩,
          ⟨(some 44), false, .bin .other .lss (.loc 42) (.loc 43), none⟩] none)
       (.cond (.loc 44)
        (.region [⟨(some 45), false, .mv (.env 8), none⟩,
          ⟨(some 46), false, .mv (.env 6), none⟩,
          ⟨(some 47), false, .mv (.env 9), none⟩,
          ⟨(some 48), false, .bin .other .add (.loc 47) (.val (.tr (.sc (.int .i64 1)))), none⟩,
          ⟨(some 49), false, .callv (.loc 46) [(.loc 48)], none⟩,
          ⟨(some 50), false, .bslice true 1 1 [(.sc (.string ⟨⟨[]⟩⟩))] [(0, 1, (.loc 49))], none⟩,
          ⟨(some 51), false, .bslice true 1 1 [(.sc (.slice none 0 0))] [(0, 1, (.loc 50))], none⟩,
          ⟨(some 52), false, .append 1 24 (.loc 45) (.loc 51), none⟩,
          ⟨(some 8), true, .mv (.loc 52), none⟩] none)
        (.seq (.region [⟨(some 53), false, .mv (.env 1), none⟩,
           ⟨(some 54), false, .bin .other .geq (.loc 53) (.val (.tr (.sc (.int .i64 0)))), none⟩] none)
        (.cond (.loc 54)
         (.region [⟨(some 55), false, .mv (.env 8), none⟩,
           ⟨(some 56), false, .mv (.env 6), none⟩,
           ⟨(some 57), false, .mv (.env 1), none⟩,
           ⟨(some 58), false, .callv (.loc 56) [(.loc 57)], none⟩,
           ⟨(some 59), false, .bslice true 1 1 [(.sc (.string ⟨⟨[]⟩⟩))] [(0, 1, (.loc 58))], none⟩,
           ⟨(some 60), false, .bslice true 1 1 [(.sc (.slice none 0 0))] [(0, 1, (.loc 59))], none⟩,
           ⟨(some 61), false, .append 1 24 (.loc 55) (.loc 60), none⟩,
           ⟨(some 8), true, .mv (.loc 61), none⟩] none)
         (.region [⟨(some 62), false, .mv (.env 8), none⟩,
           ⟨(some 63), false, .bslice true 1 1 [(.sc (.slice none 0 0))] [(0, 1, (.val (.tr (.sc (.slice none 0 0)))))], none⟩,
           ⟨(some 64), false, .append 1 24 (.loc 62) (.loc 63), none⟩,
           ⟨(some 8), true, .mv (.loc 64), none⟩] none)))))))
     (.region [⟨(some 33), false, .mv (.env 9), none⟩,
       ⟨(some 34), false, .bin .other .add (.loc 33) (.val (.tr (.sc (.int .i64 1)))), none⟩,
       ⟨(some 9), true, .mv (.loc 34), none⟩] none))))))
  (.seq (.region [⟨(some 66), false, .mv (.env 7), none⟩,
     ⟨(some 67), false, .mv (.env 8), none⟩,
     ⟨(some 68), false, .callf 8 [(.loc 66), (.loc 67)], none⟩,
     ⟨(some 65), false, .mv (.loc 68), none⟩,
     ⟨(some 69), false, .extract (.loc 65) 0, none⟩,
     ⟨(some 70), false, .extract (.loc 65) 1, none⟩,
     ⟨(some 10), true, .mv (.loc 69), none⟩,
     ⟨(some 11), true, .mv (.loc 70), none⟩] none)
  (.seq (.seq (.region [⟨(some 71), false, .mv (.env 1), none⟩,
      ⟨(some 72), false, .bin .other .geq (.loc 71) (.val (.tr (.sc (.int .i64 0)))), none⟩] none)
   (.cond (.loc 72)
    (.seq (.region [⟨(some 73), false, .mv (.env 5), none⟩,
       ⟨(some 74), false, .mv (.loc 73), none⟩,
       ⟨(some 75), false, .mv (.env 10), some ((.loc 74), true)⟩,
       ⟨(some 76), false, .len 1 (.loc 75), some ((.loc 74), true)⟩,
       ⟨(some 77), false, .bin .other .eql (.loc 76) (.val (.tr (.sc (.int .i64 0)))), some ((.loc 74), true)⟩,
       ⟨(some 78), false, .pick (.loc 74) (.loc 77) (.val (.tr (.sc (.bool false)))), none⟩,
       ⟨(some 79), false, .mv (.loc 78), none⟩,
       ⟨(some 80), false, .mv (.env 11), some ((.loc 79), true)⟩,
       ⟨(some 81), false, .len 1 (.loc 80), some ((.loc 79), true)⟩,
       ⟨(some 82), false, .mv (.env 0), some ((.loc 79), true)⟩,
       ⟨(some 83), false, .bin .other .eql (.loc 81) (.loc 82), some ((.loc 79), true)⟩,
       ⟨(some 84), false, .pick (.loc 79) (.loc 83) (.val (.tr (.sc (.bool false)))), none⟩,
       ⟨(some 85), false, .mv (.loc 84), none⟩,
       ⟨(some 86), false, .mv (.env 11), some ((.loc 85), true)⟩,
       ⟨(some 87), false, .iaddr 1 (.loc 86) (.val (.tr (.sc (.int .i64 0)))), some ((.loc 85), true)⟩,
       ⟨(some 88), false, .load 1 false (.loc 87), some ((.loc 85), true)⟩,
       ⟨(some 89), false, .bin .other .eql (.loc 88) (.val (.tr (.sc (.string ⟨⟨[97]⟩⟩)))), some ((.loc 85), true)⟩,
       ⟨(some 90), false, .pick (.loc 85) (.loc 89) (.val (.tr (.sc (.bool false)))), none⟩,
       ⟨(some 4), true, .mv (.loc 90), none⟩] none)
    .ret)
    .skip))
  (.seq (.seq (.region [⟨(some 91), false, .mv (.env 10), none⟩,
      ⟨(some 92), false, .len 1 (.loc 91), none⟩,
      ⟨(some 93), false, .mv (.env 0), none⟩,
      ⟨(some 94), false, .bin .other .neq (.loc 92) (.loc 93), none⟩,
      ⟨(some 95), false, .mv (.loc 94), none⟩,
      ⟨(some 96), false, .mv (.env 11), some ((.loc 95), false)⟩,
      ⟨(some 97), false, .len 1 (.loc 96), some ((.loc 95), false)⟩,
      ⟨(some 98), false, .bin .other .neq (.loc 97) (.val (.tr (.sc (.int .i64 0)))), some ((.loc 95), false)⟩,
      ⟨(some 99), false, .pick (.loc 95) (.val (.tr (.sc (.bool true)))) (.loc 98), none⟩] none)
   (.cond (.loc 99)
    (.seq (.region [⟨(some 4), true, .mv (.val (.tr (.sc (.bool false)))), none⟩] none)
    .ret)
    .skip))
  (.seq (.seq (.region [⟨(some 12), true, .mv (.val (.tr (.sc (.int .i64 0)))), none⟩] none)
   (.block 2
    (.loop
     (.seq (.seq (.region [⟨(some 100), false, .mv (.env 12), none⟩,
         ⟨(some 101), false, .mv (.env 0), none⟩,
         ⟨(some 102), false, .bin .other .lss (.loc 100) (.loc 101), none⟩] none)
      (.cond (.loc 102)
       .skip
       (.exit 2)))
     (.seq (.block 3
       (.seq (.region [⟨(some 105), false, .mv (.env 10), none⟩,
          ⟨(some 106), false, .mv (.env 12), none⟩,
          ⟨(some 107), false, .iaddr 1 (.loc 105) (.loc 106), none⟩,
          ⟨(some 108), false, .load 1 false (.loc 107), none⟩,
          ⟨(some 109), false, .mv (.env 6), none⟩,
          ⟨(some 110), false, .mv (.env 0), none⟩,
          ⟨(some 111), false, .bin .other .sub (.loc 110) (.val (.tr (.sc (.int .i64 1)))), none⟩,
          ⟨(some 112), false, .mv (.env 12), none⟩,
          ⟨(some 113), false, .bin .other .sub (.loc 111) (.loc 112), none⟩,
          ⟨(some 114), false, .callv (.loc 109) [(.loc 113)], none⟩,
          ⟨(some 115), false, .bin .other .neq (.loc 108) (.loc 114), none⟩] (some [(0, [10]), (0, [12]), (1, [105, 106]), (1, [107]), (0, [6]), (0, [0]), (0, [110]), (0, [12]), (0, [111, 112]), (1, [109, 113]), (0, [108, 114])]))
       (.cond (.loc 115)
        (.seq (.region [⟨(some 4), true, .mv (.val (.tr (.sc (.bool false)))), none⟩] none)
        .ret)
        .skip)))
     (.region [⟨(some 103), false, .mv (.env 12), none⟩,
       ⟨(some 104), false, .bin .other .add (.loc 103) (.val (.tr (.sc (.int .i64 1)))), none⟩,
       ⟨(some 12), true, .mv (.loc 104), none⟩] none))))))
  (.seq (.region [⟨(some 116), false, .mv (.env 5), none⟩,
     ⟨(some 4), true, .mv (.loc 116), none⟩] none)
  .ret)))))))))))) }
theorem T4 : T 4 = some fn4 := by kernel_rfl
theorem outside {j : Nat} {σb : Store} (hb : callA T (j + 17) 7 [] [] = some (bool true, σb)) (n b : Int) (h : n < 1 ∨ n > 20 ∨ b < -1 ∨ b ≥ n) :
    runA T (j + 21) fn4 [int .i64 n, int .i64 b] [] = some (bool true, σb) := by
  have hb' : callA T (j + 17) 7 [] [] = some (.tr (.sc (.bool true)), σb) := hb
  by_cases h1 : n < 1
  · simp [runA, fn4, argsEnv, exec, regionRun, opsRun, opStep, guardA, opA, o_mv, o_callf, o_bin, o_pick, St.get, St.gets, look, put, St.set, pure1, bind1, hb', int, bool, opBin, isNil, notNil, binSc, binInt, asBool?, resultA, resultsA, h1]
  · by_cases h2 : 20 < n
    · simp [runA, fn4, argsEnv, exec, regionRun, opsRun, opStep, guardA, opA, o_mv, o_callf, o_bin, o_pick, St.get, St.gets, look, put, St.set, pure1, bind1, hb', int, bool, opBin, isNil, notNil, binSc, binInt, asBool?, resultA, resultsA, h1, h2]
    · by_cases h3 : b < -1
      · simp [runA, fn4, argsEnv, exec, regionRun, opsRun, opStep, guardA, opA, o_mv, o_callf, o_bin, o_pick, St.get, St.gets, look, put, St.set, pure1, bind1, hb', int, bool, opBin, isNil, notNil, binSc, binInt, asBool?, resultA, resultsA, h1, h2, h3]
      · have h4 : n ≤ b := by omega
        simp [runA, fn4, argsEnv, exec, regionRun, opsRun, opStep, guardA, opA, o_mv, o_callf, o_bin, o_pick, St.get, St.gets, look, put, St.set, pure1, bind1, hb', int, bool, opBin, isNil, notNil, binSc, binInt, asBool?, resultA, resultsA, h1, h2, h3, h4]

end Go.Proofs.Ytndcdolcmkmgbaa.AM.Xb
