/- Which codes are known: the compiler's tables and the document's. -/
import Derived.Test.YtckbcmoanadckaaDoorDec
import Derived.BigGuard
namespace Go.Proofs.YtckbcmoanadckaaDoor
open Go.RowKit Go.Shelf
set_option linter.unusedVariables false
set_option linter.unusedSimpArgs false

theorem eq_false {c k : Nat} (h : c ≠ k) : ((c : Int) == (k : Int)) = false := by
  rw [beq_eq_false_iff_ne]
  omega
def aluL : List Nat := [4, 20, 36, 52, 68, 84, 100, 116, 148, 164, 12, 28, 44, 60, 76, 92, 108, 124, 156, 172, 132]
theorem aluL_ways (c : Nat) : c = 4 ∨ c = 20 ∨ c = 36 ∨ c = 52 ∨ c = 68 ∨ c = 84 ∨ c = 100 ∨ c = 116 ∨ c = 148 ∨ c = 164 ∨ c = 12 ∨ c = 28 ∨ c = 44 ∨ c = 60 ∨ c = 76 ∨ c = 92 ∨ c = 108 ∨ c = 124 ∨ c = 156 ∨ c = 172 ∨ c = 132 ∨ (aluL.contains c = false ∧ ((c : Int) == 4) = false ∧ ((c : Int) == 20) = false ∧ ((c : Int) == 36) = false ∧ ((c : Int) == 52) = false ∧ ((c : Int) == 68) = false ∧ ((c : Int) == 84) = false ∧ ((c : Int) == 100) = false ∧ ((c : Int) == 116) = false ∧ ((c : Int) == 148) = false ∧ ((c : Int) == 164) = false ∧ ((c : Int) == 12) = false ∧ ((c : Int) == 28) = false ∧ ((c : Int) == 44) = false ∧ ((c : Int) == 60) = false ∧ ((c : Int) == 76) = false ∧ ((c : Int) == 92) = false ∧ ((c : Int) == 108) = false ∧ ((c : Int) == 124) = false ∧ ((c : Int) == 156) = false ∧ ((c : Int) == 172) = false ∧ ((c : Int) == 132) = false) := by
  by_cases h0 : c = 4
  · exact Or.inl h0
  by_cases h1 : c = 20
  · exact Or.inr (Or.inl h1)
  by_cases h2 : c = 36
  · exact Or.inr (Or.inr (Or.inl h2))
  by_cases h3 : c = 52
  · exact Or.inr (Or.inr (Or.inr (Or.inl h3)))
  by_cases h4 : c = 68
  · exact Or.inr (Or.inr (Or.inr (Or.inr (Or.inl h4))))
  by_cases h5 : c = 84
  · exact Or.inr (Or.inr (Or.inr (Or.inr (Or.inr (Or.inl h5)))))
  by_cases h6 : c = 100
  · exact Or.inr (Or.inr (Or.inr (Or.inr (Or.inr (Or.inr (Or.inl h6))))))
  by_cases h7 : c = 116
  · exact Or.inr (Or.inr (Or.inr (Or.inr (Or.inr (Or.inr (Or.inr (Or.inl h7)))))))
  by_cases h8 : c = 148
  · exact Or.inr (Or.inr (Or.inr (Or.inr (Or.inr (Or.inr (Or.inr (Or.inr (Or.inl h8))))))))
  by_cases h9 : c = 164
  · exact Or.inr (Or.inr (Or.inr (Or.inr (Or.inr (Or.inr (Or.inr (Or.inr (Or.inr (Or.inl h9)))))))))
  by_cases h10 : c = 12
  · exact Or.inr (Or.inr (Or.inr (Or.inr (Or.inr (Or.inr (Or.inr (Or.inr (Or.inr (Or.inr (Or.inl h10))))))))))
  by_cases h11 : c = 28
  · exact Or.inr (Or.inr (Or.inr (Or.inr (Or.inr (Or.inr (Or.inr (Or.inr (Or.inr (Or.inr (Or.inr (Or.inl h11)))))))))))
  by_cases h12 : c = 44
  · exact Or.inr (Or.inr (Or.inr (Or.inr (Or.inr (Or.inr (Or.inr (Or.inr (Or.inr (Or.inr (Or.inr (Or.inr (Or.inl h12))))))))))))
  by_cases h13 : c = 60
  · exact Or.inr (Or.inr (Or.inr (Or.inr (Or.inr (Or.inr (Or.inr (Or.inr (Or.inr (Or.inr (Or.inr (Or.inr (Or.inr (Or.inl h13)))))))))))))
  by_cases h14 : c = 76
  · exact Or.inr (Or.inr (Or.inr (Or.inr (Or.inr (Or.inr (Or.inr (Or.inr (Or.inr (Or.inr (Or.inr (Or.inr (Or.inr (Or.inr (Or.inl h14))))))))))))))
  by_cases h15 : c = 92
  · exact Or.inr (Or.inr (Or.inr (Or.inr (Or.inr (Or.inr (Or.inr (Or.inr (Or.inr (Or.inr (Or.inr (Or.inr (Or.inr (Or.inr (Or.inr (Or.inl h15)))))))))))))))
  by_cases h16 : c = 108
  · exact Or.inr (Or.inr (Or.inr (Or.inr (Or.inr (Or.inr (Or.inr (Or.inr (Or.inr (Or.inr (Or.inr (Or.inr (Or.inr (Or.inr (Or.inr (Or.inr (Or.inl h16))))))))))))))))
  by_cases h17 : c = 124
  · exact Or.inr (Or.inr (Or.inr (Or.inr (Or.inr (Or.inr (Or.inr (Or.inr (Or.inr (Or.inr (Or.inr (Or.inr (Or.inr (Or.inr (Or.inr (Or.inr (Or.inr (Or.inl h17)))))))))))))))))
  by_cases h18 : c = 156
  · exact Or.inr (Or.inr (Or.inr (Or.inr (Or.inr (Or.inr (Or.inr (Or.inr (Or.inr (Or.inr (Or.inr (Or.inr (Or.inr (Or.inr (Or.inr (Or.inr (Or.inr (Or.inr (Or.inl h18))))))))))))))))))
  by_cases h19 : c = 172
  · exact Or.inr (Or.inr (Or.inr (Or.inr (Or.inr (Or.inr (Or.inr (Or.inr (Or.inr (Or.inr (Or.inr (Or.inr (Or.inr (Or.inr (Or.inr (Or.inr (Or.inr (Or.inr (Or.inr (Or.inl h19)))))))))))))))))))
  by_cases h20 : c = 132
  · exact Or.inr (Or.inr (Or.inr (Or.inr (Or.inr (Or.inr (Or.inr (Or.inr (Or.inr (Or.inr (Or.inr (Or.inr (Or.inr (Or.inr (Or.inr (Or.inr (Or.inr (Or.inr (Or.inr (Or.inr (Or.inl h20))))))))))))))))))))
  refine Or.inr (Or.inr (Or.inr (Or.inr (Or.inr (Or.inr (Or.inr (Or.inr (Or.inr (Or.inr (Or.inr (Or.inr (Or.inr (Or.inr (Or.inr (Or.inr (Or.inr (Or.inr (Or.inr (Or.inr (Or.inr ⟨?_, eq_false (k := 4) h0, eq_false (k := 20) h1, eq_false (k := 36) h2, eq_false (k := 52) h3, eq_false (k := 68) h4, eq_false (k := 84) h5, eq_false (k := 100) h6, eq_false (k := 116) h7, eq_false (k := 148) h8, eq_false (k := 164) h9, eq_false (k := 12) h10, eq_false (k := 28) h11, eq_false (k := 44) h12, eq_false (k := 60) h13, eq_false (k := 76) h14, eq_false (k := 92) h15, eq_false (k := 108) h16, eq_false (k := 124) h17, eq_false (k := 156) h18, eq_false (k := 172) h19, eq_false (k := 132) h20⟩))))))))))))))))))))
  simp [aluL, h0, h1, h2, h3, h4, h5, h6, h7, h8, h9, h10, h11, h12, h13, h14, h15, h16, h17, h18, h19, h20]
def testL : List Nat := [21, 37, 53, 69, 29, 45, 61, 77]
theorem testL_ways (c : Nat) : c = 21 ∨ c = 37 ∨ c = 53 ∨ c = 69 ∨ c = 29 ∨ c = 45 ∨ c = 61 ∨ c = 77 ∨ (testL.contains c = false ∧ ((c : Int) == 21) = false ∧ ((c : Int) == 37) = false ∧ ((c : Int) == 53) = false ∧ ((c : Int) == 69) = false ∧ ((c : Int) == 29) = false ∧ ((c : Int) == 45) = false ∧ ((c : Int) == 61) = false ∧ ((c : Int) == 77) = false) := by
  by_cases h0 : c = 21
  · exact Or.inl h0
  by_cases h1 : c = 37
  · exact Or.inr (Or.inl h1)
  by_cases h2 : c = 53
  · exact Or.inr (Or.inr (Or.inl h2))
  by_cases h3 : c = 69
  · exact Or.inr (Or.inr (Or.inr (Or.inl h3)))
  by_cases h4 : c = 29
  · exact Or.inr (Or.inr (Or.inr (Or.inr (Or.inl h4))))
  by_cases h5 : c = 45
  · exact Or.inr (Or.inr (Or.inr (Or.inr (Or.inr (Or.inl h5)))))
  by_cases h6 : c = 61
  · exact Or.inr (Or.inr (Or.inr (Or.inr (Or.inr (Or.inr (Or.inl h6))))))
  by_cases h7 : c = 77
  · exact Or.inr (Or.inr (Or.inr (Or.inr (Or.inr (Or.inr (Or.inr (Or.inl h7)))))))
  refine Or.inr (Or.inr (Or.inr (Or.inr (Or.inr (Or.inr (Or.inr (Or.inr ⟨?_, eq_false (k := 21) h0, eq_false (k := 37) h1, eq_false (k := 53) h2, eq_false (k := 69) h3, eq_false (k := 29) h4, eq_false (k := 45) h5, eq_false (k := 61) h6, eq_false (k := 77) h7⟩)))))))
  simp [testL, h0, h1, h2, h3, h4, h5, h6, h7]
def knL : List Nat := [0, 32, 40, 48, 64, 72, 80, 96, 128, 1, 97, 129, 177, 2, 3, 6, 22, 7, 135, 5]
theorem knL_ways (c : Nat) : c = 0 ∨ c = 32 ∨ c = 40 ∨ c = 48 ∨ c = 64 ∨ c = 72 ∨ c = 80 ∨ c = 96 ∨ c = 128 ∨ c = 1 ∨ c = 97 ∨ c = 129 ∨ c = 177 ∨ c = 2 ∨ c = 3 ∨ c = 6 ∨ c = 22 ∨ c = 7 ∨ c = 135 ∨ c = 5 ∨ (knL.contains c = false ∧ ((c : Int) == 0) = false ∧ ((c : Int) == 32) = false ∧ ((c : Int) == 40) = false ∧ ((c : Int) == 48) = false ∧ ((c : Int) == 64) = false ∧ ((c : Int) == 72) = false ∧ ((c : Int) == 80) = false ∧ ((c : Int) == 96) = false ∧ ((c : Int) == 128) = false ∧ ((c : Int) == 1) = false ∧ ((c : Int) == 97) = false ∧ ((c : Int) == 129) = false ∧ ((c : Int) == 177) = false ∧ ((c : Int) == 2) = false ∧ ((c : Int) == 3) = false ∧ ((c : Int) == 6) = false ∧ ((c : Int) == 22) = false ∧ ((c : Int) == 7) = false ∧ ((c : Int) == 135) = false ∧ ((c : Int) == 5) = false) := by
  by_cases h0 : c = 0
  · exact Or.inl h0
  by_cases h1 : c = 32
  · exact Or.inr (Or.inl h1)
  by_cases h2 : c = 40
  · exact Or.inr (Or.inr (Or.inl h2))
  by_cases h3 : c = 48
  · exact Or.inr (Or.inr (Or.inr (Or.inl h3)))
  by_cases h4 : c = 64
  · exact Or.inr (Or.inr (Or.inr (Or.inr (Or.inl h4))))
  by_cases h5 : c = 72
  · exact Or.inr (Or.inr (Or.inr (Or.inr (Or.inr (Or.inl h5)))))
  by_cases h6 : c = 80
  · exact Or.inr (Or.inr (Or.inr (Or.inr (Or.inr (Or.inr (Or.inl h6))))))
  by_cases h7 : c = 96
  · exact Or.inr (Or.inr (Or.inr (Or.inr (Or.inr (Or.inr (Or.inr (Or.inl h7)))))))
  by_cases h8 : c = 128
  · exact Or.inr (Or.inr (Or.inr (Or.inr (Or.inr (Or.inr (Or.inr (Or.inr (Or.inl h8))))))))
  by_cases h9 : c = 1
  · exact Or.inr (Or.inr (Or.inr (Or.inr (Or.inr (Or.inr (Or.inr (Or.inr (Or.inr (Or.inl h9)))))))))
  by_cases h10 : c = 97
  · exact Or.inr (Or.inr (Or.inr (Or.inr (Or.inr (Or.inr (Or.inr (Or.inr (Or.inr (Or.inr (Or.inl h10))))))))))
  by_cases h11 : c = 129
  · exact Or.inr (Or.inr (Or.inr (Or.inr (Or.inr (Or.inr (Or.inr (Or.inr (Or.inr (Or.inr (Or.inr (Or.inl h11)))))))))))
  by_cases h12 : c = 177
  · exact Or.inr (Or.inr (Or.inr (Or.inr (Or.inr (Or.inr (Or.inr (Or.inr (Or.inr (Or.inr (Or.inr (Or.inr (Or.inl h12))))))))))))
  by_cases h13 : c = 2
  · exact Or.inr (Or.inr (Or.inr (Or.inr (Or.inr (Or.inr (Or.inr (Or.inr (Or.inr (Or.inr (Or.inr (Or.inr (Or.inr (Or.inl h13)))))))))))))
  by_cases h14 : c = 3
  · exact Or.inr (Or.inr (Or.inr (Or.inr (Or.inr (Or.inr (Or.inr (Or.inr (Or.inr (Or.inr (Or.inr (Or.inr (Or.inr (Or.inr (Or.inl h14))))))))))))))
  by_cases h15 : c = 6
  · exact Or.inr (Or.inr (Or.inr (Or.inr (Or.inr (Or.inr (Or.inr (Or.inr (Or.inr (Or.inr (Or.inr (Or.inr (Or.inr (Or.inr (Or.inr (Or.inl h15)))))))))))))))
  by_cases h16 : c = 22
  · exact Or.inr (Or.inr (Or.inr (Or.inr (Or.inr (Or.inr (Or.inr (Or.inr (Or.inr (Or.inr (Or.inr (Or.inr (Or.inr (Or.inr (Or.inr (Or.inr (Or.inl h16))))))))))))))))
  by_cases h17 : c = 7
  · exact Or.inr (Or.inr (Or.inr (Or.inr (Or.inr (Or.inr (Or.inr (Or.inr (Or.inr (Or.inr (Or.inr (Or.inr (Or.inr (Or.inr (Or.inr (Or.inr (Or.inr (Or.inl h17)))))))))))))))))
  by_cases h18 : c = 135
  · exact Or.inr (Or.inr (Or.inr (Or.inr (Or.inr (Or.inr (Or.inr (Or.inr (Or.inr (Or.inr (Or.inr (Or.inr (Or.inr (Or.inr (Or.inr (Or.inr (Or.inr (Or.inr (Or.inl h18))))))))))))))))))
  by_cases h19 : c = 5
  · exact Or.inr (Or.inr (Or.inr (Or.inr (Or.inr (Or.inr (Or.inr (Or.inr (Or.inr (Or.inr (Or.inr (Or.inr (Or.inr (Or.inr (Or.inr (Or.inr (Or.inr (Or.inr (Or.inr (Or.inl h19)))))))))))))))))))
  refine Or.inr (Or.inr (Or.inr (Or.inr (Or.inr (Or.inr (Or.inr (Or.inr (Or.inr (Or.inr (Or.inr (Or.inr (Or.inr (Or.inr (Or.inr (Or.inr (Or.inr (Or.inr (Or.inr (Or.inr ⟨?_, eq_false (k := 0) h0, eq_false (k := 32) h1, eq_false (k := 40) h2, eq_false (k := 48) h3, eq_false (k := 64) h4, eq_false (k := 72) h5, eq_false (k := 80) h6, eq_false (k := 96) h7, eq_false (k := 128) h8, eq_false (k := 1) h9, eq_false (k := 97) h10, eq_false (k := 129) h11, eq_false (k := 177) h12, eq_false (k := 2) h13, eq_false (k := 3) h14, eq_false (k := 6) h15, eq_false (k := 22) h16, eq_false (k := 7) h17, eq_false (k := 135) h18, eq_false (k := 5) h19⟩)))))))))))))))))))
  simp [knL, h0, h1, h2, h3, h4, h5, h6, h7, h8, h9, h10, h11, h12, h13, h14, h15, h16, h17, h18, h19]
def rknL : List Nat := [0, 32, 40, 48, 64, 72, 80, 96, 128, 1, 97, 129, 177, 2, 3, 132, 6, 22, 7, 135, 5]
theorem rknL_ways (c : Nat) : c = 0 ∨ c = 32 ∨ c = 40 ∨ c = 48 ∨ c = 64 ∨ c = 72 ∨ c = 80 ∨ c = 96 ∨ c = 128 ∨ c = 1 ∨ c = 97 ∨ c = 129 ∨ c = 177 ∨ c = 2 ∨ c = 3 ∨ c = 132 ∨ c = 6 ∨ c = 22 ∨ c = 7 ∨ c = 135 ∨ c = 5 ∨ (rknL.contains c = false ∧ ((c : Int) == 0) = false ∧ ((c : Int) == 32) = false ∧ ((c : Int) == 40) = false ∧ ((c : Int) == 48) = false ∧ ((c : Int) == 64) = false ∧ ((c : Int) == 72) = false ∧ ((c : Int) == 80) = false ∧ ((c : Int) == 96) = false ∧ ((c : Int) == 128) = false ∧ ((c : Int) == 1) = false ∧ ((c : Int) == 97) = false ∧ ((c : Int) == 129) = false ∧ ((c : Int) == 177) = false ∧ ((c : Int) == 2) = false ∧ ((c : Int) == 3) = false ∧ ((c : Int) == 132) = false ∧ ((c : Int) == 6) = false ∧ ((c : Int) == 22) = false ∧ ((c : Int) == 7) = false ∧ ((c : Int) == 135) = false ∧ ((c : Int) == 5) = false) := by
  by_cases h0 : c = 0
  · exact Or.inl h0
  by_cases h1 : c = 32
  · exact Or.inr (Or.inl h1)
  by_cases h2 : c = 40
  · exact Or.inr (Or.inr (Or.inl h2))
  by_cases h3 : c = 48
  · exact Or.inr (Or.inr (Or.inr (Or.inl h3)))
  by_cases h4 : c = 64
  · exact Or.inr (Or.inr (Or.inr (Or.inr (Or.inl h4))))
  by_cases h5 : c = 72
  · exact Or.inr (Or.inr (Or.inr (Or.inr (Or.inr (Or.inl h5)))))
  by_cases h6 : c = 80
  · exact Or.inr (Or.inr (Or.inr (Or.inr (Or.inr (Or.inr (Or.inl h6))))))
  by_cases h7 : c = 96
  · exact Or.inr (Or.inr (Or.inr (Or.inr (Or.inr (Or.inr (Or.inr (Or.inl h7)))))))
  by_cases h8 : c = 128
  · exact Or.inr (Or.inr (Or.inr (Or.inr (Or.inr (Or.inr (Or.inr (Or.inr (Or.inl h8))))))))
  by_cases h9 : c = 1
  · exact Or.inr (Or.inr (Or.inr (Or.inr (Or.inr (Or.inr (Or.inr (Or.inr (Or.inr (Or.inl h9)))))))))
  by_cases h10 : c = 97
  · exact Or.inr (Or.inr (Or.inr (Or.inr (Or.inr (Or.inr (Or.inr (Or.inr (Or.inr (Or.inr (Or.inl h10))))))))))
  by_cases h11 : c = 129
  · exact Or.inr (Or.inr (Or.inr (Or.inr (Or.inr (Or.inr (Or.inr (Or.inr (Or.inr (Or.inr (Or.inr (Or.inl h11)))))))))))
  by_cases h12 : c = 177
  · exact Or.inr (Or.inr (Or.inr (Or.inr (Or.inr (Or.inr (Or.inr (Or.inr (Or.inr (Or.inr (Or.inr (Or.inr (Or.inl h12))))))))))))
  by_cases h13 : c = 2
  · exact Or.inr (Or.inr (Or.inr (Or.inr (Or.inr (Or.inr (Or.inr (Or.inr (Or.inr (Or.inr (Or.inr (Or.inr (Or.inr (Or.inl h13)))))))))))))
  by_cases h14 : c = 3
  · exact Or.inr (Or.inr (Or.inr (Or.inr (Or.inr (Or.inr (Or.inr (Or.inr (Or.inr (Or.inr (Or.inr (Or.inr (Or.inr (Or.inr (Or.inl h14))))))))))))))
  by_cases h15 : c = 132
  · exact Or.inr (Or.inr (Or.inr (Or.inr (Or.inr (Or.inr (Or.inr (Or.inr (Or.inr (Or.inr (Or.inr (Or.inr (Or.inr (Or.inr (Or.inr (Or.inl h15)))))))))))))))
  by_cases h16 : c = 6
  · exact Or.inr (Or.inr (Or.inr (Or.inr (Or.inr (Or.inr (Or.inr (Or.inr (Or.inr (Or.inr (Or.inr (Or.inr (Or.inr (Or.inr (Or.inr (Or.inr (Or.inl h16))))))))))))))))
  by_cases h17 : c = 22
  · exact Or.inr (Or.inr (Or.inr (Or.inr (Or.inr (Or.inr (Or.inr (Or.inr (Or.inr (Or.inr (Or.inr (Or.inr (Or.inr (Or.inr (Or.inr (Or.inr (Or.inr (Or.inl h17)))))))))))))))))
  by_cases h18 : c = 7
  · exact Or.inr (Or.inr (Or.inr (Or.inr (Or.inr (Or.inr (Or.inr (Or.inr (Or.inr (Or.inr (Or.inr (Or.inr (Or.inr (Or.inr (Or.inr (Or.inr (Or.inr (Or.inr (Or.inl h18))))))))))))))))))
  by_cases h19 : c = 135
  · exact Or.inr (Or.inr (Or.inr (Or.inr (Or.inr (Or.inr (Or.inr (Or.inr (Or.inr (Or.inr (Or.inr (Or.inr (Or.inr (Or.inr (Or.inr (Or.inr (Or.inr (Or.inr (Or.inr (Or.inl h19)))))))))))))))))))
  by_cases h20 : c = 5
  · exact Or.inr (Or.inr (Or.inr (Or.inr (Or.inr (Or.inr (Or.inr (Or.inr (Or.inr (Or.inr (Or.inr (Or.inr (Or.inr (Or.inr (Or.inr (Or.inr (Or.inr (Or.inr (Or.inr (Or.inr (Or.inl h20))))))))))))))))))))
  refine Or.inr (Or.inr (Or.inr (Or.inr (Or.inr (Or.inr (Or.inr (Or.inr (Or.inr (Or.inr (Or.inr (Or.inr (Or.inr (Or.inr (Or.inr (Or.inr (Or.inr (Or.inr (Or.inr (Or.inr (Or.inr ⟨?_, eq_false (k := 0) h0, eq_false (k := 32) h1, eq_false (k := 40) h2, eq_false (k := 48) h3, eq_false (k := 64) h4, eq_false (k := 72) h5, eq_false (k := 80) h6, eq_false (k := 96) h7, eq_false (k := 128) h8, eq_false (k := 1) h9, eq_false (k := 97) h10, eq_false (k := 129) h11, eq_false (k := 177) h12, eq_false (k := 2) h13, eq_false (k := 3) h14, eq_false (k := 132) h15, eq_false (k := 6) h16, eq_false (k := 22) h17, eq_false (k := 7) h18, eq_false (k := 135) h19, eq_false (k := 5) h20⟩))))))))))))))))))))
  simp [rknL, h0, h1, h2, h3, h4, h5, h6, h7, h8, h9, h10, h11, h12, h13, h14, h15, h16, h17, h18, h19, h20]
def rjL : List Nat := [21, 29, 37, 45, 53, 61, 69, 77]
theorem rjL_ways (c : Nat) : c = 21 ∨ c = 29 ∨ c = 37 ∨ c = 45 ∨ c = 53 ∨ c = 61 ∨ c = 69 ∨ c = 77 ∨ (rjL.contains c = false ∧ ((c : Int) == 21) = false ∧ ((c : Int) == 29) = false ∧ ((c : Int) == 37) = false ∧ ((c : Int) == 45) = false ∧ ((c : Int) == 53) = false ∧ ((c : Int) == 61) = false ∧ ((c : Int) == 69) = false ∧ ((c : Int) == 77) = false) := by
  by_cases h0 : c = 21
  · exact Or.inl h0
  by_cases h1 : c = 29
  · exact Or.inr (Or.inl h1)
  by_cases h2 : c = 37
  · exact Or.inr (Or.inr (Or.inl h2))
  by_cases h3 : c = 45
  · exact Or.inr (Or.inr (Or.inr (Or.inl h3)))
  by_cases h4 : c = 53
  · exact Or.inr (Or.inr (Or.inr (Or.inr (Or.inl h4))))
  by_cases h5 : c = 61
  · exact Or.inr (Or.inr (Or.inr (Or.inr (Or.inr (Or.inl h5)))))
  by_cases h6 : c = 69
  · exact Or.inr (Or.inr (Or.inr (Or.inr (Or.inr (Or.inr (Or.inl h6))))))
  by_cases h7 : c = 77
  · exact Or.inr (Or.inr (Or.inr (Or.inr (Or.inr (Or.inr (Or.inr (Or.inl h7)))))))
  refine Or.inr (Or.inr (Or.inr (Or.inr (Or.inr (Or.inr (Or.inr (Or.inr ⟨?_, eq_false (k := 21) h0, eq_false (k := 29) h1, eq_false (k := 37) h2, eq_false (k := 45) h3, eq_false (k := 53) h4, eq_false (k := 61) h5, eq_false (k := 69) h6, eq_false (k := 77) h7⟩)))))))
  simp [rjL, h0, h1, h2, h3, h4, h5, h6, h7]
def roL : List Nat := [4, 12, 20, 28, 36, 44, 52, 60, 68, 76, 84, 92, 100, 108, 116, 124, 148, 156, 164, 172]
theorem roL_ways (c : Nat) : c = 4 ∨ c = 12 ∨ c = 20 ∨ c = 28 ∨ c = 36 ∨ c = 44 ∨ c = 52 ∨ c = 60 ∨ c = 68 ∨ c = 76 ∨ c = 84 ∨ c = 92 ∨ c = 100 ∨ c = 108 ∨ c = 116 ∨ c = 124 ∨ c = 148 ∨ c = 156 ∨ c = 164 ∨ c = 172 ∨ (roL.contains c = false ∧ ((c : Int) == 4) = false ∧ ((c : Int) == 12) = false ∧ ((c : Int) == 20) = false ∧ ((c : Int) == 28) = false ∧ ((c : Int) == 36) = false ∧ ((c : Int) == 44) = false ∧ ((c : Int) == 52) = false ∧ ((c : Int) == 60) = false ∧ ((c : Int) == 68) = false ∧ ((c : Int) == 76) = false ∧ ((c : Int) == 84) = false ∧ ((c : Int) == 92) = false ∧ ((c : Int) == 100) = false ∧ ((c : Int) == 108) = false ∧ ((c : Int) == 116) = false ∧ ((c : Int) == 124) = false ∧ ((c : Int) == 148) = false ∧ ((c : Int) == 156) = false ∧ ((c : Int) == 164) = false ∧ ((c : Int) == 172) = false) := by
  by_cases h0 : c = 4
  · exact Or.inl h0
  by_cases h1 : c = 12
  · exact Or.inr (Or.inl h1)
  by_cases h2 : c = 20
  · exact Or.inr (Or.inr (Or.inl h2))
  by_cases h3 : c = 28
  · exact Or.inr (Or.inr (Or.inr (Or.inl h3)))
  by_cases h4 : c = 36
  · exact Or.inr (Or.inr (Or.inr (Or.inr (Or.inl h4))))
  by_cases h5 : c = 44
  · exact Or.inr (Or.inr (Or.inr (Or.inr (Or.inr (Or.inl h5)))))
  by_cases h6 : c = 52
  · exact Or.inr (Or.inr (Or.inr (Or.inr (Or.inr (Or.inr (Or.inl h6))))))
  by_cases h7 : c = 60
  · exact Or.inr (Or.inr (Or.inr (Or.inr (Or.inr (Or.inr (Or.inr (Or.inl h7)))))))
  by_cases h8 : c = 68
  · exact Or.inr (Or.inr (Or.inr (Or.inr (Or.inr (Or.inr (Or.inr (Or.inr (Or.inl h8))))))))
  by_cases h9 : c = 76
  · exact Or.inr (Or.inr (Or.inr (Or.inr (Or.inr (Or.inr (Or.inr (Or.inr (Or.inr (Or.inl h9)))))))))
  by_cases h10 : c = 84
  · exact Or.inr (Or.inr (Or.inr (Or.inr (Or.inr (Or.inr (Or.inr (Or.inr (Or.inr (Or.inr (Or.inl h10))))))))))
  by_cases h11 : c = 92
  · exact Or.inr (Or.inr (Or.inr (Or.inr (Or.inr (Or.inr (Or.inr (Or.inr (Or.inr (Or.inr (Or.inr (Or.inl h11)))))))))))
  by_cases h12 : c = 100
  · exact Or.inr (Or.inr (Or.inr (Or.inr (Or.inr (Or.inr (Or.inr (Or.inr (Or.inr (Or.inr (Or.inr (Or.inr (Or.inl h12))))))))))))
  by_cases h13 : c = 108
  · exact Or.inr (Or.inr (Or.inr (Or.inr (Or.inr (Or.inr (Or.inr (Or.inr (Or.inr (Or.inr (Or.inr (Or.inr (Or.inr (Or.inl h13)))))))))))))
  by_cases h14 : c = 116
  · exact Or.inr (Or.inr (Or.inr (Or.inr (Or.inr (Or.inr (Or.inr (Or.inr (Or.inr (Or.inr (Or.inr (Or.inr (Or.inr (Or.inr (Or.inl h14))))))))))))))
  by_cases h15 : c = 124
  · exact Or.inr (Or.inr (Or.inr (Or.inr (Or.inr (Or.inr (Or.inr (Or.inr (Or.inr (Or.inr (Or.inr (Or.inr (Or.inr (Or.inr (Or.inr (Or.inl h15)))))))))))))))
  by_cases h16 : c = 148
  · exact Or.inr (Or.inr (Or.inr (Or.inr (Or.inr (Or.inr (Or.inr (Or.inr (Or.inr (Or.inr (Or.inr (Or.inr (Or.inr (Or.inr (Or.inr (Or.inr (Or.inl h16))))))))))))))))
  by_cases h17 : c = 156
  · exact Or.inr (Or.inr (Or.inr (Or.inr (Or.inr (Or.inr (Or.inr (Or.inr (Or.inr (Or.inr (Or.inr (Or.inr (Or.inr (Or.inr (Or.inr (Or.inr (Or.inr (Or.inl h17)))))))))))))))))
  by_cases h18 : c = 164
  · exact Or.inr (Or.inr (Or.inr (Or.inr (Or.inr (Or.inr (Or.inr (Or.inr (Or.inr (Or.inr (Or.inr (Or.inr (Or.inr (Or.inr (Or.inr (Or.inr (Or.inr (Or.inr (Or.inl h18))))))))))))))))))
  by_cases h19 : c = 172
  · exact Or.inr (Or.inr (Or.inr (Or.inr (Or.inr (Or.inr (Or.inr (Or.inr (Or.inr (Or.inr (Or.inr (Or.inr (Or.inr (Or.inr (Or.inr (Or.inr (Or.inr (Or.inr (Or.inr (Or.inl h19)))))))))))))))))))
  refine Or.inr (Or.inr (Or.inr (Or.inr (Or.inr (Or.inr (Or.inr (Or.inr (Or.inr (Or.inr (Or.inr (Or.inr (Or.inr (Or.inr (Or.inr (Or.inr (Or.inr (Or.inr (Or.inr (Or.inr ⟨?_, eq_false (k := 4) h0, eq_false (k := 12) h1, eq_false (k := 20) h2, eq_false (k := 28) h3, eq_false (k := 36) h4, eq_false (k := 44) h5, eq_false (k := 52) h6, eq_false (k := 60) h7, eq_false (k := 68) h8, eq_false (k := 76) h9, eq_false (k := 84) h10, eq_false (k := 92) h11, eq_false (k := 100) h12, eq_false (k := 108) h13, eq_false (k := 116) h14, eq_false (k := 124) h15, eq_false (k := 148) h16, eq_false (k := 156) h17, eq_false (k := 164) h18, eq_false (k := 172) h19⟩)))))))))))))))))))
  simp [roL, h0, h1, h2, h3, h4, h5, h6, h7, h8, h9, h10, h11, h12, h13, h14, h15, h16, h17, h18, h19]
def rldL : List Nat := [32, 40, 48, 64, 72, 80, 177]
theorem rldL_ways (c : Nat) : c = 32 ∨ c = 40 ∨ c = 48 ∨ c = 64 ∨ c = 72 ∨ c = 80 ∨ c = 177 ∨ (rldL.contains c = false ∧ ((c : Int) == 32) = false ∧ ((c : Int) == 40) = false ∧ ((c : Int) == 48) = false ∧ ((c : Int) == 64) = false ∧ ((c : Int) == 72) = false ∧ ((c : Int) == 80) = false ∧ ((c : Int) == 177) = false) := by
  by_cases h0 : c = 32
  · exact Or.inl h0
  by_cases h1 : c = 40
  · exact Or.inr (Or.inl h1)
  by_cases h2 : c = 48
  · exact Or.inr (Or.inr (Or.inl h2))
  by_cases h3 : c = 64
  · exact Or.inr (Or.inr (Or.inr (Or.inl h3)))
  by_cases h4 : c = 72
  · exact Or.inr (Or.inr (Or.inr (Or.inr (Or.inl h4))))
  by_cases h5 : c = 80
  · exact Or.inr (Or.inr (Or.inr (Or.inr (Or.inr (Or.inl h5)))))
  by_cases h6 : c = 177
  · exact Or.inr (Or.inr (Or.inr (Or.inr (Or.inr (Or.inr (Or.inl h6))))))
  refine Or.inr (Or.inr (Or.inr (Or.inr (Or.inr (Or.inr (Or.inr ⟨?_, eq_false (k := 32) h0, eq_false (k := 40) h1, eq_false (k := 48) h2, eq_false (k := 64) h3, eq_false (k := 72) h4, eq_false (k := 80) h5, eq_false (k := 177) h6⟩))))))
  simp [rldL, h0, h1, h2, h3, h4, h5, h6]
set_option maxRecDepth 100000 in
set_option maxHeartbeats 3200000 in
theorem alu_any (c : Nat) (w : World) : Calls Tryd.prog 44 #[.int .u16 c] w fun e w' => e = .returned (.bool (aluL.contains c)) ∧ w = w' := by
  rcases aluL_ways c with rfl | rfl | rfl | rfl | rfl | rfl | rfl | rfl | rfl | rfl | rfl | rfl | rfl | rfl | rfl | rfl | rfl | rfl | rfl | rfl | rfl | ⟨hn, h0, h1, h2, h3, h4, h5, h6, h7, h8, h9, h10, h11, h12, h13, h14, h15, h16, h17, h18, h19, h20⟩
  · go_enter Tryd.func44, Tryd.ntmps44
    go_wp2_with fail
    go_ret
    exact ⟨rfl, rfl⟩
  · go_enter Tryd.func44, Tryd.ntmps44
    go_wp2_with fail
    go_ret
    exact ⟨rfl, rfl⟩
  · go_enter Tryd.func44, Tryd.ntmps44
    go_wp2_with fail
    go_ret
    exact ⟨rfl, rfl⟩
  · go_enter Tryd.func44, Tryd.ntmps44
    go_wp2_with fail
    go_ret
    exact ⟨rfl, rfl⟩
  · go_enter Tryd.func44, Tryd.ntmps44
    go_wp2_with fail
    go_ret
    exact ⟨rfl, rfl⟩
  · go_enter Tryd.func44, Tryd.ntmps44
    go_wp2_with fail
    go_ret
    exact ⟨rfl, rfl⟩
  · go_enter Tryd.func44, Tryd.ntmps44
    go_wp2_with fail
    go_ret
    exact ⟨rfl, rfl⟩
  · go_enter Tryd.func44, Tryd.ntmps44
    go_wp2_with fail
    go_ret
    exact ⟨rfl, rfl⟩
  · go_enter Tryd.func44, Tryd.ntmps44
    go_wp2_with fail
    go_ret
    exact ⟨rfl, rfl⟩
  · go_enter Tryd.func44, Tryd.ntmps44
    go_wp2_with fail
    go_ret
    exact ⟨rfl, rfl⟩
  · go_enter Tryd.func44, Tryd.ntmps44
    go_wp2_with fail
    go_ret
    exact ⟨rfl, rfl⟩
  · go_enter Tryd.func44, Tryd.ntmps44
    go_wp2_with fail
    go_ret
    exact ⟨rfl, rfl⟩
  · go_enter Tryd.func44, Tryd.ntmps44
    go_wp2_with fail
    go_ret
    exact ⟨rfl, rfl⟩
  · go_enter Tryd.func44, Tryd.ntmps44
    go_wp2_with fail
    go_ret
    exact ⟨rfl, rfl⟩
  · go_enter Tryd.func44, Tryd.ntmps44
    go_wp2_with fail
    go_ret
    exact ⟨rfl, rfl⟩
  · go_enter Tryd.func44, Tryd.ntmps44
    go_wp2_with fail
    go_ret
    exact ⟨rfl, rfl⟩
  · go_enter Tryd.func44, Tryd.ntmps44
    go_wp2_with fail
    go_ret
    exact ⟨rfl, rfl⟩
  · go_enter Tryd.func44, Tryd.ntmps44
    go_wp2_with fail
    go_ret
    exact ⟨rfl, rfl⟩
  · go_enter Tryd.func44, Tryd.ntmps44
    go_wp2_with fail
    go_ret
    exact ⟨rfl, rfl⟩
  · go_enter Tryd.func44, Tryd.ntmps44
    go_wp2_with fail
    go_ret
    exact ⟨rfl, rfl⟩
  · go_enter Tryd.func44, Tryd.ntmps44
    go_wp2_with fail
    go_ret
    exact ⟨rfl, rfl⟩
  · have Hn := Lib.hid hn
    clear hn
    go_enter Tryd.func44, Tryd.ntmps44
    go_wp2_with fail
    go_ret
    rw [Hn.out]
    exact ⟨rfl, rfl⟩
set_option maxRecDepth 100000 in
set_option maxHeartbeats 3200000 in
theorem test_any (c : Nat) (w : World) : Calls Tryd.prog 45 #[.int .u16 c] w fun e w' => e = .returned (.bool (testL.contains c)) ∧ w = w' := by
  rcases testL_ways c with rfl | rfl | rfl | rfl | rfl | rfl | rfl | rfl | ⟨hn, h0, h1, h2, h3, h4, h5, h6, h7⟩
  · go_enter Tryd.func45, Tryd.ntmps45
    go_wp2_with fail
    go_ret
    exact ⟨rfl, rfl⟩
  · go_enter Tryd.func45, Tryd.ntmps45
    go_wp2_with fail
    go_ret
    exact ⟨rfl, rfl⟩
  · go_enter Tryd.func45, Tryd.ntmps45
    go_wp2_with fail
    go_ret
    exact ⟨rfl, rfl⟩
  · go_enter Tryd.func45, Tryd.ntmps45
    go_wp2_with fail
    go_ret
    exact ⟨rfl, rfl⟩
  · go_enter Tryd.func45, Tryd.ntmps45
    go_wp2_with fail
    go_ret
    exact ⟨rfl, rfl⟩
  · go_enter Tryd.func45, Tryd.ntmps45
    go_wp2_with fail
    go_ret
    exact ⟨rfl, rfl⟩
  · go_enter Tryd.func45, Tryd.ntmps45
    go_wp2_with fail
    go_ret
    exact ⟨rfl, rfl⟩
  · go_enter Tryd.func45, Tryd.ntmps45
    go_wp2_with fail
    go_ret
    exact ⟨rfl, rfl⟩
  · have Hn := Lib.hid hn
    clear hn
    go_enter Tryd.func45, Tryd.ntmps45
    go_wp2_with fail
    go_ret
    rw [Hn.out]
    exact ⟨rfl, rfl⟩
set_option maxRecDepth 100000 in
set_option maxHeartbeats 3200000 in
theorem rjump_any (c : Nat) (w : World) : Calls Tryd.prog 29 #[.int .u16 c] w fun e w' => e = .returned (.bool (rjL.contains c)) ∧ w = w' := by
  rcases rjL_ways c with rfl | rfl | rfl | rfl | rfl | rfl | rfl | rfl | ⟨hn, h0, h1, h2, h3, h4, h5, h6, h7⟩
  · go_enter Tryd.func29, Tryd.ntmps29
    go_wp2_with fail
    go_ret
    exact ⟨rfl, rfl⟩
  · go_enter Tryd.func29, Tryd.ntmps29
    go_wp2_with fail
    go_ret
    exact ⟨rfl, rfl⟩
  · go_enter Tryd.func29, Tryd.ntmps29
    go_wp2_with fail
    go_ret
    exact ⟨rfl, rfl⟩
  · go_enter Tryd.func29, Tryd.ntmps29
    go_wp2_with fail
    go_ret
    exact ⟨rfl, rfl⟩
  · go_enter Tryd.func29, Tryd.ntmps29
    go_wp2_with fail
    go_ret
    exact ⟨rfl, rfl⟩
  · go_enter Tryd.func29, Tryd.ntmps29
    go_wp2_with fail
    go_ret
    exact ⟨rfl, rfl⟩
  · go_enter Tryd.func29, Tryd.ntmps29
    go_wp2_with fail
    go_ret
    exact ⟨rfl, rfl⟩
  · go_enter Tryd.func29, Tryd.ntmps29
    go_wp2_with fail
    go_ret
    exact ⟨rfl, rfl⟩
  · have Hn := Lib.hid hn
    clear hn
    go_enter Tryd.func29, Tryd.ntmps29
    go_wp2_with fail
    go_ret
    rw [Hn.out]
    exact ⟨rfl, rfl⟩
set_option maxRecDepth 100000 in
set_option maxHeartbeats 3200000 in
theorem rop_any (c : Nat) (w : World) : Calls Tryd.prog 30 #[.int .u16 c] w fun e w' => e = .returned (.bool (roL.contains c)) ∧ w = w' := by
  rcases roL_ways c with rfl | rfl | rfl | rfl | rfl | rfl | rfl | rfl | rfl | rfl | rfl | rfl | rfl | rfl | rfl | rfl | rfl | rfl | rfl | rfl | ⟨hn, h0, h1, h2, h3, h4, h5, h6, h7, h8, h9, h10, h11, h12, h13, h14, h15, h16, h17, h18, h19⟩
  · go_enter Tryd.func30, Tryd.ntmps30
    go_wp2_with fail
    go_ret
    exact ⟨rfl, rfl⟩
  · go_enter Tryd.func30, Tryd.ntmps30
    go_wp2_with fail
    go_ret
    exact ⟨rfl, rfl⟩
  · go_enter Tryd.func30, Tryd.ntmps30
    go_wp2_with fail
    go_ret
    exact ⟨rfl, rfl⟩
  · go_enter Tryd.func30, Tryd.ntmps30
    go_wp2_with fail
    go_ret
    exact ⟨rfl, rfl⟩
  · go_enter Tryd.func30, Tryd.ntmps30
    go_wp2_with fail
    go_ret
    exact ⟨rfl, rfl⟩
  · go_enter Tryd.func30, Tryd.ntmps30
    go_wp2_with fail
    go_ret
    exact ⟨rfl, rfl⟩
  · go_enter Tryd.func30, Tryd.ntmps30
    go_wp2_with fail
    go_ret
    exact ⟨rfl, rfl⟩
  · go_enter Tryd.func30, Tryd.ntmps30
    go_wp2_with fail
    go_ret
    exact ⟨rfl, rfl⟩
  · go_enter Tryd.func30, Tryd.ntmps30
    go_wp2_with fail
    go_ret
    exact ⟨rfl, rfl⟩
  · go_enter Tryd.func30, Tryd.ntmps30
    go_wp2_with fail
    go_ret
    exact ⟨rfl, rfl⟩
  · go_enter Tryd.func30, Tryd.ntmps30
    go_wp2_with fail
    go_ret
    exact ⟨rfl, rfl⟩
  · go_enter Tryd.func30, Tryd.ntmps30
    go_wp2_with fail
    go_ret
    exact ⟨rfl, rfl⟩
  · go_enter Tryd.func30, Tryd.ntmps30
    go_wp2_with fail
    go_ret
    exact ⟨rfl, rfl⟩
  · go_enter Tryd.func30, Tryd.ntmps30
    go_wp2_with fail
    go_ret
    exact ⟨rfl, rfl⟩
  · go_enter Tryd.func30, Tryd.ntmps30
    go_wp2_with fail
    go_ret
    exact ⟨rfl, rfl⟩
  · go_enter Tryd.func30, Tryd.ntmps30
    go_wp2_with fail
    go_ret
    exact ⟨rfl, rfl⟩
  · go_enter Tryd.func30, Tryd.ntmps30
    go_wp2_with fail
    go_ret
    exact ⟨rfl, rfl⟩
  · go_enter Tryd.func30, Tryd.ntmps30
    go_wp2_with fail
    go_ret
    exact ⟨rfl, rfl⟩
  · go_enter Tryd.func30, Tryd.ntmps30
    go_wp2_with fail
    go_ret
    exact ⟨rfl, rfl⟩
  · go_enter Tryd.func30, Tryd.ntmps30
    go_wp2_with fail
    go_ret
    exact ⟨rfl, rfl⟩
  · have Hn := Lib.hid hn
    clear hn
    go_enter Tryd.func30, Tryd.ntmps30
    go_wp2_with fail
    go_ret
    rw [Hn.out]
    exact ⟨rfl, rfl⟩
set_option maxRecDepth 100000 in
set_option maxHeartbeats 3200000 in
theorem rload_any (c : Nat) (w : World) : Calls Tryd.prog 53 #[.int .u16 c] w fun e w' => e = .returned (.bool (rldL.contains c)) ∧ w = w' := by
  rcases rldL_ways c with rfl | rfl | rfl | rfl | rfl | rfl | rfl | ⟨hn, h0, h1, h2, h3, h4, h5, h6⟩
  · go_enter Tryd.func53, Tryd.ntmps53
    go_wp2_with fail
    go_ret
    exact ⟨rfl, rfl⟩
  · go_enter Tryd.func53, Tryd.ntmps53
    go_wp2_with fail
    go_ret
    exact ⟨rfl, rfl⟩
  · go_enter Tryd.func53, Tryd.ntmps53
    go_wp2_with fail
    go_ret
    exact ⟨rfl, rfl⟩
  · go_enter Tryd.func53, Tryd.ntmps53
    go_wp2_with fail
    go_ret
    exact ⟨rfl, rfl⟩
  · go_enter Tryd.func53, Tryd.ntmps53
    go_wp2_with fail
    go_ret
    exact ⟨rfl, rfl⟩
  · go_enter Tryd.func53, Tryd.ntmps53
    go_wp2_with fail
    go_ret
    exact ⟨rfl, rfl⟩
  · go_enter Tryd.func53, Tryd.ntmps53
    go_wp2_with fail
    go_ret
    exact ⟨rfl, rfl⟩
  · have Hn := Lib.hid hn
    clear hn
    go_enter Tryd.func53, Tryd.ntmps53
    go_wp2_with fail
    go_ret
    rw [Hn.out]
    exact ⟨rfl, rfl⟩
def knownB (c : Nat) : Bool := knL.contains c || aluL.contains c || testL.contains c
set_option maxRecDepth 100000 in
set_option maxHeartbeats 3200000 in
theorem known_any (c : Nat) (w : World) : Calls Tryd.prog 22 #[.int .u16 c] w fun e w' => e = .returned (.bool (knownB c)) ∧ w = w' := by
  rcases knL_ways c with rfl | rfl | rfl | rfl | rfl | rfl | rfl | rfl | rfl | rfl | rfl | rfl | rfl | rfl | rfl | rfl | rfl | rfl | rfl | rfl | ⟨hn, h0, h1, h2, h3, h4, h5, h6, h7, h8, h9, h10, h11, h12, h13, h14, h15, h16, h17, h18, h19⟩
  · go_enter Tryd.func22, Tryd.ntmps22
    go_wp2_with fail
    go_ret
    exact ⟨rfl, rfl⟩
  · go_enter Tryd.func22, Tryd.ntmps22
    go_wp2_with fail
    go_ret
    exact ⟨rfl, rfl⟩
  · go_enter Tryd.func22, Tryd.ntmps22
    go_wp2_with fail
    go_ret
    exact ⟨rfl, rfl⟩
  · go_enter Tryd.func22, Tryd.ntmps22
    go_wp2_with fail
    go_ret
    exact ⟨rfl, rfl⟩
  · go_enter Tryd.func22, Tryd.ntmps22
    go_wp2_with fail
    go_ret
    exact ⟨rfl, rfl⟩
  · go_enter Tryd.func22, Tryd.ntmps22
    go_wp2_with fail
    go_ret
    exact ⟨rfl, rfl⟩
  · go_enter Tryd.func22, Tryd.ntmps22
    go_wp2_with fail
    go_ret
    exact ⟨rfl, rfl⟩
  · go_enter Tryd.func22, Tryd.ntmps22
    go_wp2_with fail
    go_ret
    exact ⟨rfl, rfl⟩
  · go_enter Tryd.func22, Tryd.ntmps22
    go_wp2_with fail
    go_ret
    exact ⟨rfl, rfl⟩
  · go_enter Tryd.func22, Tryd.ntmps22
    go_wp2_with fail
    go_ret
    exact ⟨rfl, rfl⟩
  · go_enter Tryd.func22, Tryd.ntmps22
    go_wp2_with fail
    go_ret
    exact ⟨rfl, rfl⟩
  · go_enter Tryd.func22, Tryd.ntmps22
    go_wp2_with fail
    go_ret
    exact ⟨rfl, rfl⟩
  · go_enter Tryd.func22, Tryd.ntmps22
    go_wp2_with fail
    go_ret
    exact ⟨rfl, rfl⟩
  · go_enter Tryd.func22, Tryd.ntmps22
    go_wp2_with fail
    go_ret
    exact ⟨rfl, rfl⟩
  · go_enter Tryd.func22, Tryd.ntmps22
    go_wp2_with fail
    go_ret
    exact ⟨rfl, rfl⟩
  · go_enter Tryd.func22, Tryd.ntmps22
    go_wp2_with fail
    go_ret
    exact ⟨rfl, rfl⟩
  · go_enter Tryd.func22, Tryd.ntmps22
    go_wp2_with fail
    go_ret
    exact ⟨rfl, rfl⟩
  · go_enter Tryd.func22, Tryd.ntmps22
    go_wp2_with fail
    go_ret
    exact ⟨rfl, rfl⟩
  · go_enter Tryd.func22, Tryd.ntmps22
    go_wp2_with fail
    go_ret
    exact ⟨rfl, rfl⟩
  · go_enter Tryd.func22, Tryd.ntmps22
    go_wp2_with fail
    go_ret
    exact ⟨rfl, rfl⟩
  · have ca := alu_any c w
    have ct := test_any c w
    obtain ⟨a, ha⟩ : ∃ a, aluL.contains c = a := ⟨_, rfl⟩
    obtain ⟨t, ht⟩ : ∃ t, testL.contains c = t := ⟨_, rfl⟩
    unfold knownB
    rw [hn, ha, ht]
    rw [ha] at ca
    rw [ht] at ct
    have Ca := Lib.hid ca
    have Ct := Lib.hid ct
    clear ca ct ha ht hn
    cases a with
    | true =>
      go_enter Tryd.func22, Tryd.ntmps22
      go_wp2_with fail
      refine Ca.out.mono ?_
      rintro e w2 ⟨rfl, rfl⟩
      go_wp2_with fail
      go_ret
      exact ⟨rfl, rfl⟩
    | false =>
      go_enter Tryd.func22, Tryd.ntmps22
      go_wp2_with fail
      refine Ca.out.mono ?_
      rintro e w2 ⟨rfl, rfl⟩
      go_wp2_with fail
      refine Ct.out.mono ?_
      rintro e w2 ⟨rfl, rfl⟩
      go_wp2_with fail
      go_ret
      cases t <;> exact ⟨rfl, rfl⟩
theorem known_same (c : Nat) : knownB c = (rknL.contains c || rjL.contains c || roL.contains c) := by
  have h : ∀ x, (x ∈ knL ++ aluL ++ testL ↔ x ∈ rknL ++ rjL ++ roL) := by
    intro x
    constructor
    · intro hx
      have h1 : ∀ x ∈ knL ++ aluL ++ testL, x ∈ rknL ++ rjL ++ roL := by decide
      exact h1 x hx
    · intro hx
      have h1 : ∀ x ∈ rknL ++ rjL ++ roL, x ∈ knL ++ aluL ++ testL := by decide
      exact h1 x hx
  unfold knownB
  rw [Bool.eq_iff_iff]
  have := h c
  simp only [List.mem_append] at this
  simp only [Bool.or_eq_true, List.contains_iff_mem]
  exact this
set_option maxRecDepth 100000 in
set_option maxHeartbeats 3200000 in
theorem rknown_any (c : Nat) (w : World) : Calls Tryd.prog 27 #[.int .u16 c] w fun e w' => e = .returned (.bool (knownB c)) ∧ w = w' := by
  rcases rknL_ways c with rfl | rfl | rfl | rfl | rfl | rfl | rfl | rfl | rfl | rfl | rfl | rfl | rfl | rfl | rfl | rfl | rfl | rfl | rfl | rfl | rfl | ⟨hn, h0, h1, h2, h3, h4, h5, h6, h7, h8, h9, h10, h11, h12, h13, h14, h15, h16, h17, h18, h19, h20⟩
  · go_enter Tryd.func27, Tryd.ntmps27
    go_wp2_with fail
    go_ret
    exact ⟨rfl, rfl⟩
  · go_enter Tryd.func27, Tryd.ntmps27
    go_wp2_with fail
    go_ret
    exact ⟨rfl, rfl⟩
  · go_enter Tryd.func27, Tryd.ntmps27
    go_wp2_with fail
    go_ret
    exact ⟨rfl, rfl⟩
  · go_enter Tryd.func27, Tryd.ntmps27
    go_wp2_with fail
    go_ret
    exact ⟨rfl, rfl⟩
  · go_enter Tryd.func27, Tryd.ntmps27
    go_wp2_with fail
    go_ret
    exact ⟨rfl, rfl⟩
  · go_enter Tryd.func27, Tryd.ntmps27
    go_wp2_with fail
    go_ret
    exact ⟨rfl, rfl⟩
  · go_enter Tryd.func27, Tryd.ntmps27
    go_wp2_with fail
    go_ret
    exact ⟨rfl, rfl⟩
  · go_enter Tryd.func27, Tryd.ntmps27
    go_wp2_with fail
    go_ret
    exact ⟨rfl, rfl⟩
  · go_enter Tryd.func27, Tryd.ntmps27
    go_wp2_with fail
    go_ret
    exact ⟨rfl, rfl⟩
  · go_enter Tryd.func27, Tryd.ntmps27
    go_wp2_with fail
    go_ret
    exact ⟨rfl, rfl⟩
  · go_enter Tryd.func27, Tryd.ntmps27
    go_wp2_with fail
    go_ret
    exact ⟨rfl, rfl⟩
  · go_enter Tryd.func27, Tryd.ntmps27
    go_wp2_with fail
    go_ret
    exact ⟨rfl, rfl⟩
  · go_enter Tryd.func27, Tryd.ntmps27
    go_wp2_with fail
    go_ret
    exact ⟨rfl, rfl⟩
  · go_enter Tryd.func27, Tryd.ntmps27
    go_wp2_with fail
    go_ret
    exact ⟨rfl, rfl⟩
  · go_enter Tryd.func27, Tryd.ntmps27
    go_wp2_with fail
    go_ret
    exact ⟨rfl, rfl⟩
  · go_enter Tryd.func27, Tryd.ntmps27
    go_wp2_with fail
    go_ret
    exact ⟨rfl, rfl⟩
  · go_enter Tryd.func27, Tryd.ntmps27
    go_wp2_with fail
    go_ret
    exact ⟨rfl, rfl⟩
  · go_enter Tryd.func27, Tryd.ntmps27
    go_wp2_with fail
    go_ret
    exact ⟨rfl, rfl⟩
  · go_enter Tryd.func27, Tryd.ntmps27
    go_wp2_with fail
    go_ret
    exact ⟨rfl, rfl⟩
  · go_enter Tryd.func27, Tryd.ntmps27
    go_wp2_with fail
    go_ret
    exact ⟨rfl, rfl⟩
  · go_enter Tryd.func27, Tryd.ntmps27
    go_wp2_with fail
    go_ret
    exact ⟨rfl, rfl⟩
  · have ca := rjump_any c w
    have ct := rop_any c w
    obtain ⟨a, ha⟩ : ∃ a, rjL.contains c = a := ⟨_, rfl⟩
    obtain ⟨t, ht⟩ : ∃ t, roL.contains c = t := ⟨_, rfl⟩
    rw [known_same, hn, ha, ht]
    rw [ha] at ca
    rw [ht] at ct
    have Ca := Lib.hid ca
    have Ct := Lib.hid ct
    clear ca ct ha ht hn
    cases a with
    | true =>
      go_enter Tryd.func27, Tryd.ntmps27
      go_wp2_with fail
      refine Ca.out.mono ?_
      rintro e w2 ⟨rfl, rfl⟩
      go_wp2_with fail
      go_ret
      exact ⟨rfl, rfl⟩
    | false =>
      go_enter Tryd.func27, Tryd.ntmps27
      go_wp2_with fail
      refine Ca.out.mono ?_
      rintro e w2 ⟨rfl, rfl⟩
      go_wp2_with fail
      refine Ct.out.mono ?_
      rintro e w2 ⟨rfl, rfl⟩
      go_wp2_with fail
      go_ret
      cases t <;> exact ⟨rfl, rfl⟩
end Go.Proofs.YtckbcmoanadckaaDoor
