/- A closed reckoning, by the kernel: all products of primes up to 2000 with one signature are shown composite. -/
import Derived.Test.YtmlkiddkgikdhaaSpA
namespace FF
set_option maxRecDepth 1000000
theorem kernel2 : go2 995 11 = true := by decide +kernel
end FF
