/- Which values live where in the code of the seat's functions: written by my program mkS.py; the equations of the other texts rest on it. No condition. -/
import Derived.Test.YtkbhejcfejembaaM26
import Derived.Test.YtkbhejcfejembaaProg
set_option linter.all false
namespace Go.Proofs.Ytkbhejcfejembaa.S
open Go Go.AM Go.Proofs
set_option linter.unusedVariables false
def annL : List (Nat × Ann) := [
  (16, .nil),
  (28, .seq .nil (.seq (.seq .nil (.cnd [0, 1, 2, 6] .nil .nil)) (.seq (.seq .nil (.blk (.lop [1, 2, 6, 15, 16, 17] true (.seq .nil (.seq (.cnd [1, 2, 6, 15, 16, 17] .nil .nil) (.seq (.blk (.seq .nil (.seq .nil (.seq .nil (.cnd [1, 2, 6, 15, 16, 17] .nil .nil))))) .nil)))))) .nil))),
  (11, .nil),
  (41, .nil),
  (40, .nil),
  (18, .nil),
  (27, .seq .nil (.seq (.seq .nil (.cnd [0, 1, 2, 6] .nil .nil)) (.seq (.seq .nil (.blk (.lop [1, 2, 6, 15, 16, 17] true (.seq .nil (.seq (.cnd [1, 2, 6, 15, 16, 17] .nil .nil) (.seq (.blk (.seq .nil (.seq .nil (.seq .nil (.cnd [1, 2, 6, 15, 16, 17] .nil .nil))))) .nil)))))) .nil))),
  (10, .nil),
  (26, .nil),
  (42, .seq .nil (.seq .nil (.seq (.seq .nil (.blk (.lop [1, 3, 9, 10, 11] true (.seq .nil (.seq (.cnd [1, 3, 9, 10, 11] .nil .nil) .nil))))) (.seq (.seq .nil (.blk (.lop [3, 22, 23, 24] true (.seq .nil (.seq (.cnd [3, 22, 23, 24] .nil .nil) .nil))))) .nil)))),
  (21, .seq .nil (.seq .nil (.seq (.seq .nil (.blk (.lop [4, 5, 10, 11, 12] false (.seq .nil (.seq (.cnd [4, 5, 10, 11, 12] .nil .nil) (.seq (.blk (.seq .nil (.seq .nil (.blk (.lop [4, 5] false (.seq .nil .nil)))))) .nil)))))) .nil))),
  (7, .nil),
  (22, .seq .nil (.seq (.seq .nil (.cnd [0, 1, 4] .nil .nil)) .nil)),
  (23, .nil),
  (43, .seq .nil (.seq .nil (.seq (.seq .nil (.cnd [2, 3] .nil .nil)) .nil))),
  (24, .seq .nil (.seq .nil (.seq (.seq .nil (.blk (.lop [0, 5, 6] false (.seq (.seq .nil (.cnd [0, 5, 6] .nil .nil)) .nil)))) .nil))),
  (49, .seq .nil (.seq .nil (.seq (.seq .nil (.cnd [0, 1, 4, 5] .nil .nil)) (.seq (.seq .nil (.blk (.seq .nil (.cnd [0, 1, 4, 5] .nil (.seq .nil (.cnd [0, 1, 4, 5] .nil (.seq .nil (.cnd [0, 1, 4, 5] (.seq (.seq .nil (.cnd [0, 1, 4, 5] .nil .nil)) .nil) (.seq .nil (.cnd [0, 1, 4, 5] .nil (.seq .nil (.cnd [0, 1, 4, 5] .nil (.seq .nil (.cnd [0, 1, 4, 5] .nil .nil)))))))))))))) .nil)))),
  (48, .seq .nil (.seq (.seq .nil (.blk (.seq .nil (.cnd [0, 2] .nil (.seq .nil (.cnd [0, 2] .nil .nil)))))) .nil)),
  (47, .seq .nil (.seq (.seq .nil (.blk (.seq .nil (.cnd [0, 2] .nil (.seq .nil (.cnd [0, 2] .nil (.seq .nil (.cnd [0, 2] .nil (.seq .nil (.cnd [0, 2] .nil .nil)))))))))) .nil)),
  (44, .seq .nil (.seq .nil (.seq (.seq .nil (.cnd [0, 1, 4, 5] .nil .nil)) (.seq .nil (.seq (.seq .nil (.blk (.seq (.seq .nil (.cnd [0, 1, 4, 6, 27, 28] .nil (.seq .nil (.cnd [0, 1, 4, 6, 27, 28] .nil .nil)))) (.cnd [4, 6] .nil (.seq .nil (.cnd [4, 6] .nil (.seq .nil (.cnd [4, 6] .nil (.seq .nil (.cnd [4, 6] (.seq .nil (.seq .nil (.seq .nil (.cnd [4, 6] .nil .nil)))) (.seq .nil (.cnd [4, 6] (.seq (.seq .nil (.cnd [0, 1, 4, 6] .nil .nil)) .nil) (.seq (.seq .nil (.cnd [0, 1, 4, 6, 27, 85] .nil .nil)) (.cnd [4, 6] (.seq .nil (.cnd [4, 6] .nil .nil)) (.seq .nil (.cnd [4, 6] .nil (.seq .nil (.cnd [4, 6] (.seq .nil (.seq .nil (.blk (.lop [0, 4, 6, 7] false (.seq (.seq .nil (.cnd [0, 4, 6, 7] .nil .nil)) .nil))))) .nil)))))))))))))))))) .nil))))),
  (25, .seq .nil (.seq .nil (.seq (.seq .nil (.blk (.lop [0, 1, 5, 6] false (.seq (.seq .nil (.cnd [0, 1, 5, 6] .nil .nil)) .nil)))) .nil))),
  (8, .seq .nil (.seq .nil (.seq .nil (.seq (.seq .nil (.blk (.lop [2, 3, 4, 5] false (.seq (.seq .nil (.cnd [2, 3, 4, 5] .nil .nil)) .nil)))) (.seq .nil (.seq (.seq .nil (.blk (.lop [2, 3, 4, 6] false (.seq (.seq .nil (.cnd [2, 3, 4, 6] .nil .nil)) .nil)))) (.seq (.seq .nil (.blk (.lop [2, 3, 4, 7] false (.seq (.seq .nil (.cnd [2, 3, 4, 7] .nil .nil)) .nil)))) .nil))))))),
  (13, .seq .nil (.seq (.seq .nil (.cnd [0, 1, 4] .nil .nil)) (.seq (.seq .nil (.blk (.lop [0, 1, 4, 12, 13] false (.seq .nil (.seq (.cnd [0, 1, 4, 12, 13] .nil .nil) (.seq (.blk (.seq .nil (.seq .nil (.cnd [0, 1, 4, 12, 13] .nil .nil)))) .nil)))))) .nil))),
  (37, .nil),
  (17, .seq .nil (.seq .nil (.seq (.seq .nil (.blk (.lop [3, 31, 32, 33] true (.seq .nil (.seq (.cnd [3, 31, 32, 33] .nil .nil) .nil))))) .nil))),
  (39, .nil),
  (15, .seq .nil (.seq .nil (.seq (.seq .nil (.blk (.lop [3, 12, 13, 14] true (.seq .nil (.seq (.cnd [3, 12, 13, 14] .nil .nil) (.seq (.blk (.seq .nil (.seq .nil (.seq .nil (.seq .nil (.seq .nil (.seq .nil (.seq (.seq .nil (.blk (.lop [3, 5, 12, 13, 14, 63, 64, 65] true (.seq .nil (.seq (.cnd [3, 5, 12, 13, 14, 63, 64, 65] .nil .nil) .nil))))) .nil)))))))) .nil)))))) .nil))),
  (19, .seq .nil (.seq .nil (.seq .nil (.seq (.seq .nil (.blk (.lop [1, 6, 7, 14, 15, 16] true (.seq .nil (.seq (.cnd [1, 6, 7, 14, 15, 16] .nil .nil) (.seq (.blk (.seq .nil (.seq .nil (.seq .nil (.seq .nil (.blk (.lop [1, 6, 7, 14, 15, 16, 32, 33, 34] false (.seq .nil (.seq (.cnd [1, 6, 7, 14, 15, 16, 32, 33, 34] .nil .nil) .nil))))))))) .nil)))))) .nil)))),
  (9, .seq .nil (.seq .nil (.seq .nil (.seq (.seq .nil (.blk (.lop [3, 4, 5, 6, 7, 8] false (.seq .nil (.blk (.seq (.seq .nil (.cnd [4, 5, 6, 7, 8, 9, 10] .nil .nil)) (.seq (.seq .nil (.cnd [8] .nil .nil)) .nil))))))) .nil)))),
  (3, .seq .nil (.seq (.seq .nil (.cnd [0, 1, 4] .nil .nil)) (.seq (.seq .nil (.cnd [0, 1, 4] .nil .nil)) (.seq .nil (.seq (.seq .nil (.cnd [4, 5, 6] .nil .nil)) (.seq .nil (.seq .nil (.seq .nil (.seq .nil (.seq .nil (.seq .nil (.seq (.seq .nil (.cnd [4, 7, 8, 9, 10] .nil .nil)) .nil)))))))))))),
  (29, .seq .nil (.seq (.seq .nil (.cnd [0, 1, 2, 6] .nil .nil)) (.seq (.seq .nil (.blk (.lop [1, 2, 6, 15, 16, 17] true (.seq .nil (.seq (.cnd [1, 2, 6, 15, 16, 17] .nil .nil) (.seq (.blk (.seq .nil (.seq .nil (.seq .nil (.cnd [1, 2, 6, 15, 16, 17] .nil .nil))))) .nil)))))) .nil))),
  (31, .seq .nil (.seq (.seq .nil (.cnd [0, 1, 2, 6] .nil .nil)) (.seq (.seq .nil (.blk (.lop [1, 2, 6, 15, 16, 17] true (.seq .nil (.seq (.cnd [1, 2, 6, 15, 16, 17] .nil .nil) (.seq (.blk (.seq .nil (.seq .nil (.seq .nil (.cnd [1, 2, 6, 15, 16, 17] .nil .nil))))) .nil)))))) .nil))),
  (32, .nil),
  (33, .seq .nil (.seq (.seq .nil (.cnd [0, 1, 2, 6] .nil .nil)) (.seq (.seq .nil (.blk (.lop [1, 2, 6, 15, 16, 17] true (.seq .nil (.seq (.cnd [1, 2, 6, 15, 16, 17] .nil .nil) (.seq (.blk (.seq .nil (.seq .nil (.seq .nil (.cnd [1, 2, 6, 15, 16, 17] .nil .nil))))) .nil)))))) .nil))),
  (35, .seq .nil (.seq (.seq .nil (.cnd [0, 1, 2, 6] .nil .nil)) (.seq (.seq .nil (.blk (.lop [1, 2, 6, 15, 16, 17] true (.seq .nil (.seq (.cnd [1, 2, 6, 15, 16, 17] .nil .nil) (.seq (.blk (.seq .nil (.seq .nil (.seq .nil (.cnd [1, 2, 6, 15, 16, 17] .nil .nil))))) .nil)))))) .nil))),
  (12, .nil),
  (38, .seq .nil (.seq .nil (.seq (.seq .nil (.blk (.lop [3, 10, 11, 12] true (.seq .nil (.seq (.cnd [3, 10, 11, 12] .nil .nil) .nil))))) .nil))),
  (14, .seq .nil (.seq .nil (.seq (.seq .nil (.blk (.lop [1, 3, 24, 25, 26] true (.seq .nil (.seq (.cnd [1, 3, 24, 25, 26] .nil .nil) .nil))))) (.seq .nil (.seq (.seq .nil (.blk (.lop [1, 3, 46, 47, 48] true (.seq .nil (.seq (.cnd [1, 3, 46, 47, 48] .nil .nil) .nil))))) (.seq (.seq .nil (.blk (.lop [3, 67, 68, 69] true (.seq .nil (.seq (.cnd [3, 67, 68, 69] .nil .nil) .nil))))) .nil)))))),
  (4, .seq .nil (.seq (.seq .nil (.cnd [0, 1, 4] .nil .nil)) (.seq (.seq .nil (.cnd [0, 1, 4] .nil .nil)) (.seq .nil (.seq (.seq .nil (.cnd [4, 5, 6] .nil .nil)) (.seq (.seq .nil (.blk (.lop [4, 6, 41, 42, 43] true (.seq .nil (.seq (.cnd [4, 6, 41, 42, 43] .nil .nil) (.seq (.blk (.seq .nil (.seq .nil (.blk (.lop [4, 6, 7, 8, 41, 42, 43, 49, 50, 51] true (.seq .nil (.seq (.cnd [4, 6, 7, 8, 41, 42, 43, 49, 50, 51] .nil .nil) (.seq (.blk (.seq .nil (.seq (.seq .nil (.cnd [4, 6, 7, 8, 9, 10, 41, 42, 43, 49, 50, 51] .nil .nil)) (.seq (.seq .nil (.cnd [4, 6, 7, 8, 9, 10, 41, 42, 43, 49, 50, 51] .nil .nil)) (.seq .nil (.cnd [4, 6, 7, 8, 41, 42, 43, 49, 50, 51] .nil .nil)))))) .nil)))))))) .nil)))))) .nil)))))),
  (5, .seq .nil (.seq (.seq .nil (.cnd [0, 1, 2, 6] .nil .nil)) (.seq (.seq .nil (.cnd [0, 1, 2, 6] .nil .nil)) (.seq .nil (.seq (.seq .nil (.cnd [1, 2, 6, 7, 8] .nil .nil)) (.seq .nil (.seq .nil (.seq .nil (.seq (.seq .nil (.blk (.seq .nil (.cnd [7, 8, 11] .nil (.seq .nil (.cnd [7, 8, 11] .nil (.seq .nil (.cnd [7, 8, 11] .nil (.seq .nil (.cnd [7, 8, 11] .nil (.seq .nil (.cnd [7, 8, 11] .nil (.seq .nil (.cnd [7, 8, 11] .nil (.seq .nil (.cnd [7, 8, 11] .nil (.seq .nil (.cnd [7, 8, 11] .nil .nil)))))))))))))))))) .nil))))))))),
  (20, .seq .nil (.seq .nil (.seq (.seq .nil (.blk (.lop [3] false (.seq .nil (.blk (.seq .nil (.cnd [] .nil .nil))))))) .nil))),
  (6, .seq .nil (.seq (.seq .nil (.cnd [0, 1, 4] .nil .nil)) (.seq (.seq .nil (.cnd [0, 1, 4] .nil .nil)) (.seq .nil (.seq .nil (.seq .nil (.seq (.seq .nil (.blk (.lop [1, 4, 5, 6, 7, 8, 34, 35, 36] true (.seq .nil (.seq (.cnd [1, 4, 5, 6, 7, 8, 34, 35, 36] .nil .nil) .nil))))) (.seq (.seq .nil (.blk (.lop [1, 4, 5, 6, 7, 8, 47, 48, 49] true (.seq .nil (.seq (.cnd [1, 4, 5, 6, 7, 8, 47, 48, 49] .nil .nil) .nil))))) (.seq (.seq .nil (.blk (.lop [1, 4, 5, 6, 7, 59, 60, 61] true (.seq .nil (.seq (.cnd [1, 4, 5, 6, 7, 59, 60, 61] .nil .nil) (.seq (.blk (.seq .nil (.seq (.seq .nil (.seq .nil (.cnd [1, 4, 5, 6, 7, 14, 59, 60, 61] .nil .nil))) (.seq (.seq .nil (.seq .nil (.cnd [1, 4, 5, 6, 7, 14, 59, 60, 61] .nil .nil))) (.seq .nil (.seq .nil (.seq .nil (.seq (.seq .nil (.blk (.lop [1, 4, 5, 6, 7, 14, 20, 21, 59, 60, 61, 89, 90, 91] true (.seq .nil (.seq (.cnd [1, 4, 5, 6, 7, 14, 20, 21, 59, 60, 61, 89, 90, 91] .nil .nil) (.seq (.blk (.seq .nil (.seq .nil (.seq .nil (.cnd [1, 4, 5, 6, 7, 14, 20, 21, 59, 60, 61, 89, 90, 91] .nil .nil))))) .nil)))))) (.seq .nil (.cnd [1, 4, 5, 6, 7, 59, 60, 61] .nil .nil)))))))))) .nil)))))) .nil))))))))),
  (30, .nil),
  (34, .nil),
  (36, .nil),
  (45, .nil),
  (46, .seq .nil (.seq (.seq .nil (.blk (.lop [1, 2, 6, 9, 10, 11] true (.seq .nil (.seq (.cnd [1, 2, 6, 9, 10, 11] .nil .nil) (.seq (.blk (.seq .nil (.seq .nil (.cnd [1, 2, 6, 9, 10, 11] .nil .nil)))) .nil)))))) .nil))]
def look : List (Nat × Ann) → Nat → Ann
  | (i, x) :: l, f => bif Nat.beq i f then x else look l f
  | [], _ => .nil
def mdL : List (Nat × Md) := [(26, ⟨[1], []⟩)]
def lookM : List (Nat × Md) → Nat → Md
  | (i, x) :: l, f => bif Nat.beq i f then x else lookM l f
  | [], _ => ⟨[], []⟩
noncomputable def L : Lib := ⟨Try.prog, look annL, lookM mdL, [22, 23, 24, 25, 43, 44, 47, 48, 49, 8, 26, 21, 20, 9, 45, 46], fun _ => none⟩
end Go.Proofs.Ytkbhejcfejembaa.S
