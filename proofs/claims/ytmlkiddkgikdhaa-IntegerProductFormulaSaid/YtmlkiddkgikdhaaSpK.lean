/- A closed reckoning, by the kernel: all products of primes up to 2000 with one signature are shown composite. A closed reckoning, by the kernel: the candidates whose greatest prime lies between 2000 and 31623, first half. A closed reckoning, by the kernel: the candidates whose greatest prime lies between 2000 and 31623, second half. A closed reckoning, by the kernel: the candidates whose greatest prime is above 31622. -/
import Derived.Test.YtmlkiddkgikdhaaSpA
namespace FF
set_option maxRecDepth 1000000
theorem kernel2 : go2 995 11 = true := by decide +kernel
end FF
namespace FF
set_option maxRecDepth 1000000
theorem kernel3a : go3 4500 2001 = true := by decide +kernel
end FF
namespace FF
set_option maxRecDepth 1000000
theorem kernel3b : go3 10311 11001 = true := by decide +kernel
end FF
namespace FF
set_option maxRecDepth 1000000
theorem kernel4 : main4 15806 11 = true := by decide +kernel
end FF
