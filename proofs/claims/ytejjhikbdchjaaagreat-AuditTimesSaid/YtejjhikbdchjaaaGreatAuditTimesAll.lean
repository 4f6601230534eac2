/-
  'AuditTimes': AM sees it through, whatever the rows' lengths.
-/
import Derived.Test.YtejjhikbdchjaaaGreatAuditTimesS0
import Derived.Test.YtejjhikbdchjaaaGreatAuditTimesS1
import Derived.Test.YtejjhikbdchjaaaGreatAuditTimesS2
import Derived.Test.YtejjhikbdchjaaaGreatAuditTimesS3
import Derived.Test.YtejjhikbdchjaaaGreatAuditTimesS4
import Derived.Test.YtejjhikbdchjaaaGreatAuditTimesS5
import Derived.Test.YtejjhikbdchjaaaGreatAuditTimesS6
import Derived.Test.YtejjhikbdchjaaaGreatAuditTimesS7
import Derived.Test.YtejjhikbdchjaaaGreatAuditTimesS8
import Derived.Test.YtejjhikbdchjaaaGreatAuditTimesS9
import Derived.Test.YtejjhikbdchjaaaGreatAuditTimesS10
import Derived.Test.YtejjhikbdchjaaaGreatAuditTimesS11
namespace Go.Proofs.YtejjhikbdchjaaaGreat.auditTimes
theorem three {P : Nat → Prop} (h0 : P 0) (h1 : P 1) (h2 : P 2) : ∀ r, r < 3 → P r := by
  intro r hr
  match r, hr with
  | 0, _ => exact h0
  | 1, _ => exact h1
  | 2, _ => exact h2
theorem both {P : Bool → Prop} (h0 : P false) (h1 : P true) : ∀ b, P b := by
  intro b; cases b
  · exact h0
  · exact h1
theorem all0 : ∀ b, run [] b = true := (both s_f s_t)
theorem all1 : ∀ r0, r0 < 3 → ∀ b, run [r0] b = true := (three (both s0_f s0_t) (both s1_f s1_t) (both s2_f s2_t))
theorem all2 : ∀ r0, r0 < 3 → ∀ r1, r1 < 3 → ∀ b, run [r0, r1] b = true := (three (three (both s00_f s00_t) (both s01_f s01_t) (both s02_f s02_t)) (three (both s10_f s10_t) (both s11_f s11_t) (both s12_f s12_t)) (three (both s20_f s20_t) (both s21_f s21_t) (both s22_f s22_t)))
theorem all3 : ∀ r0, r0 < 3 → ∀ r1, r1 < 3 → ∀ r2, r2 < 3 → ∀ b, run [r0, r1, r2] b = true := (three (three (three (both s000_f s000_t) (both s001_f s001_t) (both s002_f s002_t)) (three (both s010_f s010_t) (both s011_f s011_t) (both s012_f s012_t)) (three (both s020_f s020_t) (both s021_f s021_t) (both s022_f s022_t))) (three (three (both s100_f s100_t) (both s101_f s101_t) (both s102_f s102_t)) (three (both s110_f s110_t) (both s111_f s111_t) (both s112_f s112_t)) (three (both s120_f s120_t) (both s121_f s121_t) (both s122_f s122_t))) (three (three (both s200_f s200_t) (both s201_f s201_t) (both s202_f s202_t)) (three (both s210_f s210_t) (both s211_f s211_t) (both s212_f s212_t)) (three (both s220_f s220_t) (both s221_f s221_t) (both s222_f s222_t))))
theorem all4 : ∀ r0, r0 < 3 → ∀ r1, r1 < 3 → ∀ r2, r2 < 3 → ∀ r3, r3 < 3 → ∀ b, run [r0, r1, r2, r3] b = true := (three (three (three (three (both s0000_f s0000_t) (both s0001_f s0001_t) (both s0002_f s0002_t)) (three (both s0010_f s0010_t) (both s0011_f s0011_t) (both s0012_f s0012_t)) (three (both s0020_f s0020_t) (both s0021_f s0021_t) (both s0022_f s0022_t))) (three (three (both s0100_f s0100_t) (both s0101_f s0101_t) (both s0102_f s0102_t)) (three (both s0110_f s0110_t) (both s0111_f s0111_t) (both s0112_f s0112_t)) (three (both s0120_f s0120_t) (both s0121_f s0121_t) (both s0122_f s0122_t))) (three (three (both s0200_f s0200_t) (both s0201_f s0201_t) (both s0202_f s0202_t)) (three (both s0210_f s0210_t) (both s0211_f s0211_t) (both s0212_f s0212_t)) (three (both s0220_f s0220_t) (both s0221_f s0221_t) (both s0222_f s0222_t)))) (three (three (three (both s1000_f s1000_t) (both s1001_f s1001_t) (both s1002_f s1002_t)) (three (both s1010_f s1010_t) (both s1011_f s1011_t) (both s1012_f s1012_t)) (three (both s1020_f s1020_t) (both s1021_f s1021_t) (both s1022_f s1022_t))) (three (three (both s1100_f s1100_t) (both s1101_f s1101_t) (both s1102_f s1102_t)) (three (both s1110_f s1110_t) (both s1111_f s1111_t) (both s1112_f s1112_t)) (three (both s1120_f s1120_t) (both s1121_f s1121_t) (both s1122_f s1122_t))) (three (three (both s1200_f s1200_t) (both s1201_f s1201_t) (both s1202_f s1202_t)) (three (both s1210_f s1210_t) (both s1211_f s1211_t) (both s1212_f s1212_t)) (three (both s1220_f s1220_t) (both s1221_f s1221_t) (both s1222_f s1222_t)))) (three (three (three (both s2000_f s2000_t) (both s2001_f s2001_t) (both s2002_f s2002_t)) (three (both s2010_f s2010_t) (both s2011_f s2011_t) (both s2012_f s2012_t)) (three (both s2020_f s2020_t) (both s2021_f s2021_t) (both s2022_f s2022_t))) (three (three (both s2100_f s2100_t) (both s2101_f s2101_t) (both s2102_f s2102_t)) (three (both s2110_f s2110_t) (both s2111_f s2111_t) (both s2112_f s2112_t)) (three (both s2120_f s2120_t) (both s2121_f s2121_t) (both s2122_f s2122_t))) (three (three (both s2200_f s2200_t) (both s2201_f s2201_t) (both s2202_f s2202_t)) (three (both s2210_f s2210_t) (both s2211_f s2211_t) (both s2212_f s2212_t)) (three (both s2220_f s2220_t) (both s2221_f s2221_t) (both s2222_f s2222_t)))))
end Go.Proofs.YtejjhikbdchjaaaGreat.auditTimes
