import Derived.Test.YtdmphnfpcblfnaaDoorNtA
/- P and L are primes: their certificates. No program in sight. -/
namespace Go.Nt
set_option maxRecDepth 100000
theorem pr991 : Prime 991 := prime_of_trial 34 (by decide +kernel)
theorem pr103 : Prime 103 := prime_of_trial 13 (by decide +kernel)
theorem pr8574133 : Prime 8574133 := prime_of_cert [(991, 2), (103, 2)] (by decide +kernel) (by
  intro x hx
  simp only [List.mem_cons, List.not_mem_nil, or_false] at hx
  rcases hx with rfl | rfl
  · exact pr991
  · exact pr103)
theorem pr127 : Prime 127 := prime_of_trial 14 (by decide +kernel)
theorem pr1919519569386763 : Prime 1919519569386763 := prime_of_cert [(8574133, 2), (127, 2)] (by decide +kernel) (by
  intro x hx
  simp only [List.mem_cons, List.not_mem_nil, or_false] at hx
  rcases hx with rfl | rfl
  · exact pr8574133
  · exact pr127)
theorem pr569003 : Prime 569003 := prime_of_trial 757 (by decide +kernel)
theorem pr2773320623 : Prime 2773320623 := prime_of_cert [(569003, 2)] (by decide +kernel) (by
  intro x hx
  simp only [List.mem_cons, List.not_mem_nil, or_false] at hx
  rcases hx with rfl
  · exact pr569003)
theorem pr72106336199 : Prime 72106336199 := prime_of_cert [(2773320623, 2)] (by decide +kernel) (by
  intro x hx
  simp only [List.mem_cons, List.not_mem_nil, or_false] at hx
  rcases hx with rfl
  · exact pr2773320623)
theorem pr75445702479781427272750846543864801 : Prime 75445702479781427272750846543864801 := prime_of_cert [(1919519569386763, 2), (72106336199, 2)] (by decide +kernel) (by
  intro x hx
  simp only [List.mem_cons, List.not_mem_nil, or_false] at hx
  rcases hx with rfl | rfl
  · exact pr1919519569386763
  · exact pr72106336199)
theorem pr430751 : Prime 430751 := prime_of_trial 659 (by decide +kernel)
theorem pr4153 : Prime 4153 := prime_of_trial 67 (by decide +kernel)
theorem pr31757755568855353 : Prime 31757755568855353 := prime_of_cert [(430751, 2), (4153, 2)] (by decide +kernel) (by
  intro x hx
  simp only [List.mem_cons, List.not_mem_nil, or_false] at hx
  rcases hx with rfl | rfl
  · exact pr430751
  · exact pr4153)
theorem pr74058212732561358302231226437062788676166966415465897661863160754340907 : Prime 74058212732561358302231226437062788676166966415465897661863160754340907 := prime_of_cert [(75445702479781427272750846543864801, 2), (31757755568855353, 2)] (by decide +kernel) (by
  intro x hx
  simp only [List.mem_cons, List.not_mem_nil, or_false] at hx
  rcases hx with rfl | rfl
  · exact pr75445702479781427272750846543864801
  · exact pr31757755568855353)
theorem pr57896044618658097711785492504343953926634992332820282019728792003956564819949 : Prime 57896044618658097711785492504343953926634992332820282019728792003956564819949 := prime_of_cert [(74058212732561358302231226437062788676166966415465897661863160754340907, 2)] (by decide +kernel) (by
  intro x hx
  simp only [List.mem_cons, List.not_mem_nil, or_false] at hx
  rcases hx with rfl
  · exact pr74058212732561358302231226437062788676166966415465897661863160754340907)
theorem pr1224481 : Prime 1224481 := prime_of_trial 1109 (by decide +kernel)
theorem pr531581 : Prime 531581 := prime_of_trial 732 (by decide +kernel)
theorem pr1257559732178653 : Prime 1257559732178653 := prime_of_cert [(1224481, 2), (531581, 2)] (by decide +kernel) (by
  intro x hx
  simp only [List.mem_cons, List.not_mem_nil, or_false] at hx
  rcases hx with rfl | rfl
  · exact pr1224481
  · exact pr531581)
theorem pr4434155615661930479 : Prime 4434155615661930479 := prime_of_cert [(1257559732178653, 2)] (by decide +kernel) (by
  intro x hx
  simp only [List.mem_cons, List.not_mem_nil, or_false] at hx
  rcases hx with rfl
  · exact pr1257559732178653)
theorem pr172054593956031949258510691 : Prime 172054593956031949258510691 := prime_of_cert [(4434155615661930479, 2)] (by decide +kernel) (by
  intro x hx
  simp only [List.mem_cons, List.not_mem_nil, or_false] at hx
  rcases hx with rfl
  · exact pr4434155615661930479)
theorem pr19757330305831588566944191468367130476339 : Prime 19757330305831588566944191468367130476339 := prime_of_cert [(172054593956031949258510691, 2)] (by decide +kernel) (by
  intro x hx
  simp only [List.mem_cons, List.not_mem_nil, or_false] at hx
  rcases hx with rfl
  · exact pr172054593956031949258510691)
theorem pr276602624281642239937218680557139826668747 : Prime 276602624281642239937218680557139826668747 := prime_of_cert [(19757330305831588566944191468367130476339, 2)] (by decide +kernel) (by
  intro x hx
  simp only [List.mem_cons, List.not_mem_nil, or_false] at hx
  rcases hx with rfl
  · exact pr19757330305831588566944191468367130476339)
theorem pr7237005577332262213973186563042994240857116359379907606001950938285454250989 : Prime 7237005577332262213973186563042994240857116359379907606001950938285454250989 := prime_of_cert [(276602624281642239937218680557139826668747, 2)] (by decide +kernel) (by
  intro x hx
  simp only [List.mem_cons, List.not_mem_nil, or_false] at hx
  rcases hx with rfl
  · exact pr276602624281642239937218680557139826668747)
end Go.Nt
