/- A closed reckoning, by the kernel: the candidates whose greatest prime lies between 2000 and 31623, first half. -/
import Derived.Test.YtmlkiddkgikdhaaSpA
namespace FF
set_option maxRecDepth 1000000
theorem kernel3a : go3 4500 2001 = true := by decide +kernel
end FF
