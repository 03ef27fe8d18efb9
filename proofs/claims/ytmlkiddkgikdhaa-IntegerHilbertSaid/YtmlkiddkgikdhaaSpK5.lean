/- A closed reckoning, by the kernel: the candidates whose greatest prime is above 31622. -/
import Derived.Test.YtmlkiddkgikdhaaSpA
namespace FF
set_option maxRecDepth 1000000
theorem kernel4 : main4 15806 11 = true := by decide +kernel
end FF
