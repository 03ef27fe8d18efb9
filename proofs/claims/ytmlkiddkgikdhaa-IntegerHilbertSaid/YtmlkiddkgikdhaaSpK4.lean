/- A closed reckoning, by the kernel: the candidates whose greatest prime lies between 2000 and 31623, second half. -/
import Derived.Test.YtmlkiddkgikdhaaSpA
namespace FF
set_option maxRecDepth 1000000
theorem kernel3b : go3 10311 11001 = true := by decide +kernel
end FF
