/- What the regions do, part two. -/
import Derived.Test.YtjjbglmnbmpegaaSp4
set_option maxRecDepth 1000000
set_option linter.unusedVariables false
set_option linter.unusedSimpArgs false
namespace Go.Proofs.Ytjjbglmnbmpegaa.AM.Sp
open Go.Proofs

theorem no6_region {b : UInt8} (E : List (Nat × V)) (σ : Store) (h4 : look E 4 = some (uv b)) (call : CallA) : Gives (opsRun call r6_6 ⟨E, [], σ⟩) E σ 72 (bv (no6 b)) := by
  by_cases l1 : (b.toNat : Int) ≥ 97
  · by_cases l2 : (b.toNat : Int) ≤ 122
    · simp [Gives, r6_6, opsRun, opStep, guardA, opA, o_mv, o_bin, o_pick, o_un, St.get, look, St.set, pure1, bind1, undefV, asBool?, h4, bin_leq, bin_geq, bin_eql, un_not, no6, l1, l2]
    · by_cases u1 : (b.toNat : Int) ≥ 65
      · by_cases u2 : (b.toNat : Int) ≤ 90
        · simp [Gives, r6_6, opsRun, opStep, guardA, opA, o_mv, o_bin, o_pick, o_un, St.get, look, St.set, pure1, bind1, undefV, asBool?, h4, bin_leq, bin_geq, bin_eql, un_not, no6, l1, l2, u1, u2]
        · by_cases d1 : (b.toNat : Int) ≥ 48
          · by_cases d2 : (b.toNat : Int) ≤ 57
            · simp [Gives, r6_6, opsRun, opStep, guardA, opA, o_mv, o_bin, o_pick, o_un, St.get, look, St.set, pure1, bind1, undefV, asBool?, h4, bin_leq, bin_geq, bin_eql, un_not, no6, l1, l2, u1, u2, d1, d2]
            · by_cases e1 : (b.toNat : Int) = 95
              · simp [Gives, r6_6, opsRun, opStep, guardA, opA, o_mv, o_bin, o_pick, o_un, St.get, look, St.set, pure1, bind1, undefV, asBool?, h4, bin_leq, bin_geq, bin_eql, un_not, no6, l1, l2, u1, u2, d1, d2, e1]
              · have e1' : ((b.toNat : Int) == 95) = false := by simpa using e1
                by_cases e2 : (b.toNat : Int) = 47
                · simp [Gives, r6_6, opsRun, opStep, guardA, opA, o_mv, o_bin, o_pick, o_un, St.get, look, St.set, pure1, bind1, undefV, asBool?, h4, bin_leq, bin_geq, bin_eql, un_not, no6, l1, l2, u1, u2, d1, d2, e1, e1', e2]
                · have e2' : ((b.toNat : Int) == 47) = false := by simpa using e2
                  by_cases e3 : (b.toNat : Int) = 46
                  · simp [Gives, r6_6, opsRun, opStep, guardA, opA, o_mv, o_bin, o_pick, o_un, St.get, look, St.set, pure1, bind1, undefV, asBool?, h4, bin_leq, bin_geq, bin_eql, un_not, no6, l1, l2, u1, u2, d1, d2, e1, e1', e2, e2', e3]
                  · have e3' : ((b.toNat : Int) == 46) = false := by simpa using e3
                    by_cases e4 : (b.toNat : Int) = 45
                    · simp [Gives, r6_6, opsRun, opStep, guardA, opA, o_mv, o_bin, o_pick, o_un, St.get, look, St.set, pure1, bind1, undefV, asBool?, h4, bin_leq, bin_geq, bin_eql, un_not, no6, l1, l2, u1, u2, d1, d2, e1, e1', e2, e2', e3, e3', e4]
                    · have e4' : ((b.toNat : Int) == 45) = false := by simpa using e4
                      simp [Gives, r6_6, opsRun, opStep, guardA, opA, o_mv, o_bin, o_pick, o_un, St.get, look, St.set, pure1, bind1, undefV, asBool?, h4, bin_leq, bin_geq, bin_eql, un_not, no6, l1, l2, u1, u2, d1, d2, e1, e1', e2, e2', e3, e3', e4, e4']
          · by_cases e1 : (b.toNat : Int) = 95
            · simp [Gives, r6_6, opsRun, opStep, guardA, opA, o_mv, o_bin, o_pick, o_un, St.get, look, St.set, pure1, bind1, undefV, asBool?, h4, bin_leq, bin_geq, bin_eql, un_not, no6, l1, l2, u1, u2, d1, e1]
            · have e1' : ((b.toNat : Int) == 95) = false := by simpa using e1
              by_cases e2 : (b.toNat : Int) = 47
              · simp [Gives, r6_6, opsRun, opStep, guardA, opA, o_mv, o_bin, o_pick, o_un, St.get, look, St.set, pure1, bind1, undefV, asBool?, h4, bin_leq, bin_geq, bin_eql, un_not, no6, l1, l2, u1, u2, d1, e1, e1', e2]
              · have e2' : ((b.toNat : Int) == 47) = false := by simpa using e2
                by_cases e3 : (b.toNat : Int) = 46
                · simp [Gives, r6_6, opsRun, opStep, guardA, opA, o_mv, o_bin, o_pick, o_un, St.get, look, St.set, pure1, bind1, undefV, asBool?, h4, bin_leq, bin_geq, bin_eql, un_not, no6, l1, l2, u1, u2, d1, e1, e1', e2, e2', e3]
                · have e3' : ((b.toNat : Int) == 46) = false := by simpa using e3
                  by_cases e4 : (b.toNat : Int) = 45
                  · simp [Gives, r6_6, opsRun, opStep, guardA, opA, o_mv, o_bin, o_pick, o_un, St.get, look, St.set, pure1, bind1, undefV, asBool?, h4, bin_leq, bin_geq, bin_eql, un_not, no6, l1, l2, u1, u2, d1, e1, e1', e2, e2', e3, e3', e4]
                  · have e4' : ((b.toNat : Int) == 45) = false := by simpa using e4
                    simp [Gives, r6_6, opsRun, opStep, guardA, opA, o_mv, o_bin, o_pick, o_un, St.get, look, St.set, pure1, bind1, undefV, asBool?, h4, bin_leq, bin_geq, bin_eql, un_not, no6, l1, l2, u1, u2, d1, e1, e1', e2, e2', e3, e3', e4, e4']
      · by_cases d1 : (b.toNat : Int) ≥ 48
        · by_cases d2 : (b.toNat : Int) ≤ 57
          · simp [Gives, r6_6, opsRun, opStep, guardA, opA, o_mv, o_bin, o_pick, o_un, St.get, look, St.set, pure1, bind1, undefV, asBool?, h4, bin_leq, bin_geq, bin_eql, un_not, no6, l1, l2, u1, d1, d2]
          · by_cases e1 : (b.toNat : Int) = 95
            · simp [Gives, r6_6, opsRun, opStep, guardA, opA, o_mv, o_bin, o_pick, o_un, St.get, look, St.set, pure1, bind1, undefV, asBool?, h4, bin_leq, bin_geq, bin_eql, un_not, no6, l1, l2, u1, d1, d2, e1]
            · have e1' : ((b.toNat : Int) == 95) = false := by simpa using e1
              by_cases e2 : (b.toNat : Int) = 47
              · simp [Gives, r6_6, opsRun, opStep, guardA, opA, o_mv, o_bin, o_pick, o_un, St.get, look, St.set, pure1, bind1, undefV, asBool?, h4, bin_leq, bin_geq, bin_eql, un_not, no6, l1, l2, u1, d1, d2, e1, e1', e2]
              · have e2' : ((b.toNat : Int) == 47) = false := by simpa using e2
                by_cases e3 : (b.toNat : Int) = 46
                · simp [Gives, r6_6, opsRun, opStep, guardA, opA, o_mv, o_bin, o_pick, o_un, St.get, look, St.set, pure1, bind1, undefV, asBool?, h4, bin_leq, bin_geq, bin_eql, un_not, no6, l1, l2, u1, d1, d2, e1, e1', e2, e2', e3]
                · have e3' : ((b.toNat : Int) == 46) = false := by simpa using e3
                  by_cases e4 : (b.toNat : Int) = 45
                  · simp [Gives, r6_6, opsRun, opStep, guardA, opA, o_mv, o_bin, o_pick, o_un, St.get, look, St.set, pure1, bind1, undefV, asBool?, h4, bin_leq, bin_geq, bin_eql, un_not, no6, l1, l2, u1, d1, d2, e1, e1', e2, e2', e3, e3', e4]
                  · have e4' : ((b.toNat : Int) == 45) = false := by simpa using e4
                    simp [Gives, r6_6, opsRun, opStep, guardA, opA, o_mv, o_bin, o_pick, o_un, St.get, look, St.set, pure1, bind1, undefV, asBool?, h4, bin_leq, bin_geq, bin_eql, un_not, no6, l1, l2, u1, d1, d2, e1, e1', e2, e2', e3, e3', e4, e4']
        · by_cases e1 : (b.toNat : Int) = 95
          · simp [Gives, r6_6, opsRun, opStep, guardA, opA, o_mv, o_bin, o_pick, o_un, St.get, look, St.set, pure1, bind1, undefV, asBool?, h4, bin_leq, bin_geq, bin_eql, un_not, no6, l1, l2, u1, d1, e1]
          · have e1' : ((b.toNat : Int) == 95) = false := by simpa using e1
            by_cases e2 : (b.toNat : Int) = 47
            · simp [Gives, r6_6, opsRun, opStep, guardA, opA, o_mv, o_bin, o_pick, o_un, St.get, look, St.set, pure1, bind1, undefV, asBool?, h4, bin_leq, bin_geq, bin_eql, un_not, no6, l1, l2, u1, d1, e1, e1', e2]
            · have e2' : ((b.toNat : Int) == 47) = false := by simpa using e2
              by_cases e3 : (b.toNat : Int) = 46
              · simp [Gives, r6_6, opsRun, opStep, guardA, opA, o_mv, o_bin, o_pick, o_un, St.get, look, St.set, pure1, bind1, undefV, asBool?, h4, bin_leq, bin_geq, bin_eql, un_not, no6, l1, l2, u1, d1, e1, e1', e2, e2', e3]
              · have e3' : ((b.toNat : Int) == 46) = false := by simpa using e3
                by_cases e4 : (b.toNat : Int) = 45
                · simp [Gives, r6_6, opsRun, opStep, guardA, opA, o_mv, o_bin, o_pick, o_un, St.get, look, St.set, pure1, bind1, undefV, asBool?, h4, bin_leq, bin_geq, bin_eql, un_not, no6, l1, l2, u1, d1, e1, e1', e2, e2', e3, e3', e4]
                · have e4' : ((b.toNat : Int) == 45) = false := by simpa using e4
                  simp [Gives, r6_6, opsRun, opStep, guardA, opA, o_mv, o_bin, o_pick, o_un, St.get, look, St.set, pure1, bind1, undefV, asBool?, h4, bin_leq, bin_geq, bin_eql, un_not, no6, l1, l2, u1, d1, e1, e1', e2, e2', e3, e3', e4, e4']
  · by_cases u1 : (b.toNat : Int) ≥ 65
    · by_cases u2 : (b.toNat : Int) ≤ 90
      · simp [Gives, r6_6, opsRun, opStep, guardA, opA, o_mv, o_bin, o_pick, o_un, St.get, look, St.set, pure1, bind1, undefV, asBool?, h4, bin_leq, bin_geq, bin_eql, un_not, no6, l1, u1, u2]
      · by_cases d1 : (b.toNat : Int) ≥ 48
        · by_cases d2 : (b.toNat : Int) ≤ 57
          · simp [Gives, r6_6, opsRun, opStep, guardA, opA, o_mv, o_bin, o_pick, o_un, St.get, look, St.set, pure1, bind1, undefV, asBool?, h4, bin_leq, bin_geq, bin_eql, un_not, no6, l1, u1, u2, d1, d2]
          · by_cases e1 : (b.toNat : Int) = 95
            · simp [Gives, r6_6, opsRun, opStep, guardA, opA, o_mv, o_bin, o_pick, o_un, St.get, look, St.set, pure1, bind1, undefV, asBool?, h4, bin_leq, bin_geq, bin_eql, un_not, no6, l1, u1, u2, d1, d2, e1]
            · have e1' : ((b.toNat : Int) == 95) = false := by simpa using e1
              by_cases e2 : (b.toNat : Int) = 47
              · simp [Gives, r6_6, opsRun, opStep, guardA, opA, o_mv, o_bin, o_pick, o_un, St.get, look, St.set, pure1, bind1, undefV, asBool?, h4, bin_leq, bin_geq, bin_eql, un_not, no6, l1, u1, u2, d1, d2, e1, e1', e2]
              · have e2' : ((b.toNat : Int) == 47) = false := by simpa using e2
                by_cases e3 : (b.toNat : Int) = 46
                · simp [Gives, r6_6, opsRun, opStep, guardA, opA, o_mv, o_bin, o_pick, o_un, St.get, look, St.set, pure1, bind1, undefV, asBool?, h4, bin_leq, bin_geq, bin_eql, un_not, no6, l1, u1, u2, d1, d2, e1, e1', e2, e2', e3]
                · have e3' : ((b.toNat : Int) == 46) = false := by simpa using e3
                  by_cases e4 : (b.toNat : Int) = 45
                  · simp [Gives, r6_6, opsRun, opStep, guardA, opA, o_mv, o_bin, o_pick, o_un, St.get, look, St.set, pure1, bind1, undefV, asBool?, h4, bin_leq, bin_geq, bin_eql, un_not, no6, l1, u1, u2, d1, d2, e1, e1', e2, e2', e3, e3', e4]
                  · have e4' : ((b.toNat : Int) == 45) = false := by simpa using e4
                    simp [Gives, r6_6, opsRun, opStep, guardA, opA, o_mv, o_bin, o_pick, o_un, St.get, look, St.set, pure1, bind1, undefV, asBool?, h4, bin_leq, bin_geq, bin_eql, un_not, no6, l1, u1, u2, d1, d2, e1, e1', e2, e2', e3, e3', e4, e4']
        · by_cases e1 : (b.toNat : Int) = 95
          · simp [Gives, r6_6, opsRun, opStep, guardA, opA, o_mv, o_bin, o_pick, o_un, St.get, look, St.set, pure1, bind1, undefV, asBool?, h4, bin_leq, bin_geq, bin_eql, un_not, no6, l1, u1, u2, d1, e1]
          · have e1' : ((b.toNat : Int) == 95) = false := by simpa using e1
            by_cases e2 : (b.toNat : Int) = 47
            · simp [Gives, r6_6, opsRun, opStep, guardA, opA, o_mv, o_bin, o_pick, o_un, St.get, look, St.set, pure1, bind1, undefV, asBool?, h4, bin_leq, bin_geq, bin_eql, un_not, no6, l1, u1, u2, d1, e1, e1', e2]
            · have e2' : ((b.toNat : Int) == 47) = false := by simpa using e2
              by_cases e3 : (b.toNat : Int) = 46
              · simp [Gives, r6_6, opsRun, opStep, guardA, opA, o_mv, o_bin, o_pick, o_un, St.get, look, St.set, pure1, bind1, undefV, asBool?, h4, bin_leq, bin_geq, bin_eql, un_not, no6, l1, u1, u2, d1, e1, e1', e2, e2', e3]
              · have e3' : ((b.toNat : Int) == 46) = false := by simpa using e3
                by_cases e4 : (b.toNat : Int) = 45
                · simp [Gives, r6_6, opsRun, opStep, guardA, opA, o_mv, o_bin, o_pick, o_un, St.get, look, St.set, pure1, bind1, undefV, asBool?, h4, bin_leq, bin_geq, bin_eql, un_not, no6, l1, u1, u2, d1, e1, e1', e2, e2', e3, e3', e4]
                · have e4' : ((b.toNat : Int) == 45) = false := by simpa using e4
                  simp [Gives, r6_6, opsRun, opStep, guardA, opA, o_mv, o_bin, o_pick, o_un, St.get, look, St.set, pure1, bind1, undefV, asBool?, h4, bin_leq, bin_geq, bin_eql, un_not, no6, l1, u1, u2, d1, e1, e1', e2, e2', e3, e3', e4, e4']
    · by_cases d1 : (b.toNat : Int) ≥ 48
      · by_cases d2 : (b.toNat : Int) ≤ 57
        · simp [Gives, r6_6, opsRun, opStep, guardA, opA, o_mv, o_bin, o_pick, o_un, St.get, look, St.set, pure1, bind1, undefV, asBool?, h4, bin_leq, bin_geq, bin_eql, un_not, no6, l1, u1, d1, d2]
        · by_cases e1 : (b.toNat : Int) = 95
          · simp [Gives, r6_6, opsRun, opStep, guardA, opA, o_mv, o_bin, o_pick, o_un, St.get, look, St.set, pure1, bind1, undefV, asBool?, h4, bin_leq, bin_geq, bin_eql, un_not, no6, l1, u1, d1, d2, e1]
          · have e1' : ((b.toNat : Int) == 95) = false := by simpa using e1
            by_cases e2 : (b.toNat : Int) = 47
            · simp [Gives, r6_6, opsRun, opStep, guardA, opA, o_mv, o_bin, o_pick, o_un, St.get, look, St.set, pure1, bind1, undefV, asBool?, h4, bin_leq, bin_geq, bin_eql, un_not, no6, l1, u1, d1, d2, e1, e1', e2]
            · have e2' : ((b.toNat : Int) == 47) = false := by simpa using e2
              by_cases e3 : (b.toNat : Int) = 46
              · simp [Gives, r6_6, opsRun, opStep, guardA, opA, o_mv, o_bin, o_pick, o_un, St.get, look, St.set, pure1, bind1, undefV, asBool?, h4, bin_leq, bin_geq, bin_eql, un_not, no6, l1, u1, d1, d2, e1, e1', e2, e2', e3]
              · have e3' : ((b.toNat : Int) == 46) = false := by simpa using e3
                by_cases e4 : (b.toNat : Int) = 45
                · simp [Gives, r6_6, opsRun, opStep, guardA, opA, o_mv, o_bin, o_pick, o_un, St.get, look, St.set, pure1, bind1, undefV, asBool?, h4, bin_leq, bin_geq, bin_eql, un_not, no6, l1, u1, d1, d2, e1, e1', e2, e2', e3, e3', e4]
                · have e4' : ((b.toNat : Int) == 45) = false := by simpa using e4
                  simp [Gives, r6_6, opsRun, opStep, guardA, opA, o_mv, o_bin, o_pick, o_un, St.get, look, St.set, pure1, bind1, undefV, asBool?, h4, bin_leq, bin_geq, bin_eql, un_not, no6, l1, u1, d1, d2, e1, e1', e2, e2', e3, e3', e4, e4']
      · by_cases e1 : (b.toNat : Int) = 95
        · simp [Gives, r6_6, opsRun, opStep, guardA, opA, o_mv, o_bin, o_pick, o_un, St.get, look, St.set, pure1, bind1, undefV, asBool?, h4, bin_leq, bin_geq, bin_eql, un_not, no6, l1, u1, d1, e1]
        · have e1' : ((b.toNat : Int) == 95) = false := by simpa using e1
          by_cases e2 : (b.toNat : Int) = 47
          · simp [Gives, r6_6, opsRun, opStep, guardA, opA, o_mv, o_bin, o_pick, o_un, St.get, look, St.set, pure1, bind1, undefV, asBool?, h4, bin_leq, bin_geq, bin_eql, un_not, no6, l1, u1, d1, e1, e1', e2]
          · have e2' : ((b.toNat : Int) == 47) = false := by simpa using e2
            by_cases e3 : (b.toNat : Int) = 46
            · simp [Gives, r6_6, opsRun, opStep, guardA, opA, o_mv, o_bin, o_pick, o_un, St.get, look, St.set, pure1, bind1, undefV, asBool?, h4, bin_leq, bin_geq, bin_eql, un_not, no6, l1, u1, d1, e1, e1', e2, e2', e3]
            · have e3' : ((b.toNat : Int) == 46) = false := by simpa using e3
              by_cases e4 : (b.toNat : Int) = 45
              · simp [Gives, r6_6, opsRun, opStep, guardA, opA, o_mv, o_bin, o_pick, o_un, St.get, look, St.set, pure1, bind1, undefV, asBool?, h4, bin_leq, bin_geq, bin_eql, un_not, no6, l1, u1, d1, e1, e1', e2, e2', e3, e3', e4]
              · have e4' : ((b.toNat : Int) == 45) = false := by simpa using e4
                simp [Gives, r6_6, opsRun, opStep, guardA, opA, o_mv, o_bin, o_pick, o_un, St.get, look, St.set, pure1, bind1, undefV, asBool?, h4, bin_leq, bin_geq, bin_eql, un_not, no6, l1, u1, d1, e1, e1', e2, e2', e3, e3', e4, e4']
end Go.Proofs.Ytjjbglmnbmpegaa.AM.Sp
