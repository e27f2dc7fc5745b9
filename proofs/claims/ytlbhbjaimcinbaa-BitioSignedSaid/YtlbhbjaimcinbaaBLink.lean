/- Each function of the program is that of the interpreter's table. -/
import Derived.Test.YtlbhbjaimcinbaaBCode
import Derived.Test.YtlbhbjaimcinbaaRows
namespace Go.Proofs.Ytlbhbjaimcinbaa.AI
open Go

def sigL : List (Nat × Nat) := [(3, 3), (4, 4), (5, 5), (6, 6), (7, 7), (8, 8), (9, 9), (10, 10), (11, 11), (12, 12), (13, 13), (14, 14), (15, 15), (16, 16), (17, 17), (18, 18), (19, 19), (20, 20), (21, 21), (22, 22), (23, 23), (24, 24), (25, 25), (26, 26), (27, 27), (28, 28), (29, 29), (30, 30), (31, 31), (32, 32), (33, 33), (34, 34), (35, 35), (36, 36), (37, 37), (38, 38), (39, 39), (40, 40), (41, 41), (42, 42), (43, 43), (44, 44), (45, 45), (46, 46), (47, 47), (48, 48), (49, 49), (50, 50), (51, 51), (52, 52), (53, 53), (54, 54), (55, 55), (56, 56), (57, 57), (58, 58), (59, 59), (60, 60), (61, 61)]
def sig (n : Nat) : Nat := num sigL n
def tauL : List (Nat × Nat) := [(3, 3), (4, 4), (5, 5), (6, 6), (7, 7), (8, 8), (9, 9), (10, 10), (11, 11), (12, 12), (13, 13), (14, 14), (15, 15), (16, 16), (17, 17), (18, 18), (19, 19), (20, 20), (21, 21), (22, 22), (23, 23), (24, 24), (25, 25), (26, 26), (27, 27), (28, 28), (29, 29), (30, 30), (31, 31), (32, 32), (33, 33), (34, 34), (35, 35), (36, 36), (37, 37), (38, 38), (39, 39), (40, 40), (41, 41), (42, 42), (43, 43), (44, 44), (45, 45), (46, 46), (47, 47), (48, 48), (49, 49), (50, 50), (51, 51), (52, 52), (53, 53), (54, 54), (55, 55), (56, 56), (57, 57), (58, 58), (59, 59), (60, 60), (61, 61)]
def tau (n : Nat) : Nat := num tauL n

theorem link3 : compF Try.prog tau sig (find [(0, [0]), (1, [0, 12]), (2, [2]), (3, [0, 15]), (4, [2]), (5, [0, 3, 4]), (6, [0, 3, 4, 19]), (7, [2]), (8, [3, 4, 20, 21, 22]), (9, [3, 4, 20, 21, 22, 23]), (10, [3, 4, 6, 20, 21, 22]), (11, [3, 4, 6, 20, 21, 22]), (12, [3, 4, 20, 21, 22]), (13, [3, 4, 7, 8, 20, 21, 22]), (14, [3, 4, 7, 8, 9, 10, 20, 21, 22]), (15, [3, 4, 20, 21, 22, 56]), (16, [2]), (17, [3, 4, 20, 21, 22]), (18, [2])]) (findO []) Try.f3 false false = some F3 := by kernel_rfl
theorem link4 : compF Try.prog tau sig (find [(0, [0, 1]), (1, [0, 1, 13]), (2, [4]), (3, [0, 1, 21]), (4, [4]), (5, [0, 1, 5, 6]), (6, [0, 1, 5, 6, 30]), (7, [4]), (8, [0, 5, 6, 31, 32, 33]), (9, [0, 5, 6, 31, 32, 33, 34]), (10, [0, 5, 6, 8, 31, 32, 33]), (11, [0, 5, 6, 9, 31, 32, 33]), (12, [0, 5, 6, 31, 32, 33]), (13, [0, 5, 6, 31, 32, 33]), (14, [0, 6, 46]), (15, [4]), (16, [0, 10, 11]), (17, [4])]) (findO []) Try.f4 false false = some F4 := by kernel_rfl
theorem link5 : compF Try.prog tau sig (find [(0, [0]), (1, [0, 11]), (2, [2]), (3, [0, 3]), (4, [0, 3, 15]), (5, [2]), (6, [0, 3, 23]), (7, [2]), (8, [0, 3, 4, 5]), (9, [0, 3, 4, 5, 31]), (10, [2]), (11, [0, 3, 4, 5]), (12, [0, 3, 4, 5, 7]), (13, [0, 3, 5, 48]), (14, [2]), (15, [0, 3, 5, 50]), (16, [2]), (17, [5]), (18, [5, 9]), (19, [2])]) (findO []) Try.f5 false false = some F5 := by kernel_rfl
theorem link6 : compF Try.prog tau sig (find [(0, [0, 1]), (1, [0, 1, 15]), (2, [4]), (3, [1, 5]), (4, [1, 5, 6, 7]), (5, [1, 5, 6, 7, 27]), (6, [4]), (7, [1, 5, 6, 7]), (8, [1, 5, 7, 8, 9]), (9, [1, 5, 7, 8, 9, 49]), (10, [4]), (11, [1, 5, 7, 8, 9, 10]), (12, [1, 5, 7, 8, 9, 10, 58]), (13, [1, 5, 7, 8, 9, 10]), (14, [1, 5, 7, 8, 9]), (15, [1, 5, 8, 9, 11, 12]), (16, [1, 5, 8, 9, 11, 12, 13]), (17, [4])]) (findO []) Try.f6 false false = some F6 := by kernel_rfl
theorem link7 : compF Try.prog tau sig (find [(0, [0, 1]), (1, [0, 1, 12]), (2, [4]), (3, [0, 1, 20]), (4, [4]), (5, [1, 5, 6]), (6, [1, 5, 6, 26]), (7, [4]), (8, [5, 6, 27, 28, 29]), (9, [5, 6, 27, 28, 29, 30]), (10, [5, 6, 8, 27, 28, 29]), (11, [5, 6, 8, 9, 27, 28, 29]), (12, [5, 6, 8, 9, 10, 27, 28, 29]), (13, [5, 6, 8, 9, 10, 27, 28, 29, 38]), (14, [5, 6, 8, 9, 10, 27, 28, 29, 38, 39]), (15, [5, 6, 9, 10, 27, 28, 29]), (16, [5, 6, 8, 9, 10, 27, 28, 29, 38, 47]), (17, [5, 6, 9, 10, 27, 28, 29]), (18, [5, 6, 8, 9, 10, 27, 28, 29, 38, 55]), (19, [5, 6, 9, 10, 27, 28, 29]), (20, [5, 6, 9, 10, 27, 28, 29, 61]), (21, [5, 6, 9, 10, 27, 28, 29]), (22, [5, 6, 8, 9, 10, 27, 28, 29, 63]), (23, [5, 6, 9, 10, 27, 28, 29]), (24, [5, 6, 27, 28, 29, 94]), (25, [4]), (26, [5, 6, 27, 28, 29]), (27, [4])]) (findO []) Try.f7 false false = some F7 := by kernel_rfl
theorem link8 : compF Try.prog tau sig (find [(0, [0]), (1, [0, 13]), (2, [2]), (3, [0, 16]), (4, [2]), (5, [0, 3]), (6, [0, 3, 19]), (7, [2]), (8, [0, 3, 20, 21, 22]), (9, [0, 3, 20, 21, 22, 23]), (10, [0, 3, 5, 20, 21, 22]), (11, [0, 3, 20, 21, 22]), (12, [0, 3, 20, 21, 22]), (13, [0, 3, 6, 7]), (14, [0, 3, 6, 36]), (15, [2]), (16, [0, 3, 6, 45]), (17, [2]), (18, [0, 3, 6, 8]), (19, [0, 3, 6, 8, 49]), (20, [2]), (21, [3, 6, 8, 50, 51, 52]), (22, [3, 6, 8, 50, 51, 52, 53]), (23, [3, 6, 8, 10, 50, 51, 52]), (24, [3, 6, 8, 10, 50, 51, 52, 63]), (25, [3, 6, 8, 10, 11, 50, 51, 52]), (26, [3, 6, 8, 50, 51, 52, 107]), (27, [2]), (28, [3, 6, 8, 50, 51, 52]), (29, [2])]) (findO []) Try.f8 false false = some F8 := by kernel_rfl
theorem link9 : compF Try.prog tau sig (find [(0, [0, 1]), (1, [0, 1, 11]), (2, [4]), (3, [0, 1, 19]), (4, [4]), (5, [1, 5]), (6, [1, 5, 23]), (7, [4]), (8, [1, 5, 6]), (9, [5, 6, 24, 25, 26]), (10, [5, 6, 24, 25, 26, 27]), (11, [5, 6, 8, 24, 25, 26]), (12, [5, 6, 8, 9, 24, 25, 26]), (13, [5, 24, 25, 26, 60]), (14, [4]), (15, [5, 6, 24, 25, 26]), (16, [5, 6, 24, 25, 26, 75]), (17, [4]), (18, [5, 6, 24, 25, 26]), (19, [4])]) (findO []) Try.f9 false false = some F9 := by kernel_rfl
theorem link10 : compF Try.prog tau sig (find [(0, [0]), (1, [0, 12]), (2, [2]), (3, [0, 3]), (4, [0, 3, 15]), (5, [2]), (6, [0, 3, 4]), (7, [0, 3, 4, 5]), (8, [0, 3, 4, 5, 18]), (9, [0, 3, 4, 5, 18, 19]), (10, [0, 3, 4, 5, 18]), (11, [0, 3, 4, 5, 18]), (12, [0, 3, 4, 5, 18]), (13, [0, 3, 4, 28]), (14, [0, 3, 4]), (15, [0, 3, 4]), (16, [0, 3, 4, 6]), (17, [3, 4, 6, 7]), (18, [3, 4, 6, 7]), (19, [3, 4, 6, 7, 8, 9]), (20, [3, 4, 7, 8, 9, 49]), (21, [2]), (22, [3, 4, 7, 8, 9, 10]), (23, [2])]) (findO []) Try.f10 false false = some F10 := by kernel_rfl
theorem link11 : compF Try.prog tau sig (find [(0, []), (1, [1]), (2, [1, 7]), (3, [0]), (4, [1]), (5, [1]), (6, [1]), (7, [1]), (8, [1, 2, 3]), (9, [1, 2, 3, 4]), (10, [1, 2, 3, 4, 23]), (11, [0]), (12, [0])]) (findO []) Try.f11 true true = some F11 := by kernel_rfl
theorem link12 : compF Try.prog tau sig (find [(0, [0]), (1, [0, 7]), (2, [2]), (3, [8, 9, 10]), (4, [8, 9, 10, 11]), (5, [4, 8, 9, 10]), (6, [8, 9, 10, 17]), (7, [2]), (8, [8, 9, 10]), (9, [2])]) (findO []) Try.f12 false false = some F12 := by kernel_rfl
theorem link13 : compF Try.prog tau sig (find [(0, []), (1, [0])]) (findO []) Try.f13 false false = some F13 := by kernel_rfl
theorem link14 : compF Try.prog tau sig (find [(0, []), (1, [0])]) (findO []) Try.f14 false false = some F14 := by kernel_rfl
theorem link15 : compF Try.prog tau sig (find [(0, [0, 3]), (1, [0, 3, 5]), (2, [0, 3, 5, 6]), (3, []), (4, [0, 3, 5, 14]), (5, []), (6, [0, 3, 5, 22]), (7, []), (8, [0, 3, 29]), (9, [])]) (findO []) Try.f15 false false = some F15 := by kernel_rfl
theorem link16 : compF Try.prog tau sig (find [(0, [0, 3]), (1, [0, 3, 5]), (2, [0, 3, 5, 6]), (3, []), (4, [0, 3, 5, 14]), (5, []), (6, [0, 3, 5, 22]), (7, []), (8, [0, 3, 29]), (9, [])]) (findO []) Try.f16 false false = some F16 := by kernel_rfl
theorem link17 : compF Try.prog tau sig (find [(0, [0]), (1, [0, 8]), (2, [2, 3]), (3, [2, 3])]) (findO [(2, [(0, 0), (1, 0), (2, 0), (3, 0), (4, 0), (5, 0)])]) Try.f17 false false = some F17 := by kernel_rfl
theorem link18 : compF Try.prog tau sig (find [(0, [0]), (1, [0, 10]), (2, [2, 3]), (3, [0, 4]), (4, [0, 4, 5]), (5, [0, 4, 5, 29]), (7, [0, 4, 5]), (6, [0, 4, 5]), (8, [2, 3])]) (findO [(2, [(0, 0), (1, 0), (2, 0), (3, 0), (4, 0), (5, 0)]), (7, [(0, 0), (1, 0), (2, 0), (3, 0), (4, 0), (5, 0), (6, 0), (7, 0), (8, 0), (9, 0), (10, 0), (11, 0), (12, 0), (13, 0), (14, 0), (15, 0), (16, 0), (17, 0), (18, 0), (19, 0), (20, 0), (21, 0)])]) Try.f18 false false = some F18 := by kernel_rfl
theorem link19 : compF Try.prog tau sig (find [(0, [0]), (1, [2])]) (findO []) Try.f19 false false = some F19 := by kernel_rfl
theorem link20 : compF Try.prog tau sig (find [(0, [0]), (1, [2])]) (findO []) Try.f20 false false = some F20 := by kernel_rfl
theorem link21 : compF Try.prog tau sig (find [(0, [0]), (1, [0, 5]), (2, [2]), (3, [2])]) (findO []) Try.f21 false false = some F21 := by kernel_rfl
theorem link22 : compF Try.prog tau sig (find [(0, [0, 3, 4]), (1, [0, 3, 4, 6]), (2, [0, 3, 4, 6, 7]), (3, [3, 4]), (4, [0, 3, 4, 6, 15]), (5, [3, 4]), (6, [0, 3, 4, 6, 23]), (7, [0, 3, 4]), (8, [3, 4, 29]), (9, [3, 4]), (10, [0, 3, 4, 31]), (11, [3, 4]), (12, [4])]) (findO []) Try.f22 false false = some F22 := by kernel_rfl
theorem link23 : compF Try.prog tau sig (find [(0, [1]), (1, [1, 8]), (2, [2]), (3, [1, 3]), (4, [20]), (5, [2]), (6, [2])]) (findO []) Try.f23 false false = some F23 := by kernel_rfl
theorem link24 : compF Try.prog tau sig (find [(0, [0]), (1, [0, 4]), (2, [2]), (3, [2])]) (findO []) Try.f24 true true = some F24 := by kernel_rfl
theorem link25 : compF Try.prog tau sig (find [(0, [0, 1, 2, 6]), (1, [])]) (findO []) Try.f25 false false = some F25 := by kernel_rfl
theorem link26 : compF Try.prog tau sig (find [(0, [0, 1, 2, 6]), (1, [])]) (findO []) Try.f26 false false = some F26 := by kernel_rfl
theorem link27 : compF Try.prog tau sig (find [(0, [0, 1]), (1, [0, 1, 5]), (2, [1, 5, 28]), (3, [5]), (4, [4])]) (findO []) Try.f27 false false = some F27 := by kernel_rfl
theorem link28 : compF Try.prog tau sig (find [(0, [0]), (1, [0, 5]), (2, [2]), (3, [2])]) (findO []) Try.f28 false false = some F28 := by kernel_rfl
theorem link29 : compF Try.prog tau sig (find [(0, [0, 1]), (1, [0, 1, 17]), (2, [0, 1]), (3, [4])]) (findO []) Try.f29 false false = some F29 := by kernel_rfl
theorem link30 : compF Try.prog tau sig (find [(0, [0, 1]), (1, [0, 1, 18]), (2, [0, 1]), (3, [0, 1, 5]), (4, [1, 5, 35]), (5, [5]), (6, [4])]) (findO [(5, [(0, 0), (1, 0), (2, 0), (3, 0), (4, 0), (5, 0), (6, 0), (7, 0), (8, 0), (9, 0)])]) Try.f30 false false = some F30 := by kernel_rfl
theorem link31 : compF Try.prog tau sig (find [(0, [0]), (1, [2])]) (findO []) Try.f31 false false = some F31 := by kernel_rfl
theorem link32 : compF Try.prog tau sig (find [(0, [0, 1]), (1, [0, 1, 20]), (2, [0, 1]), (3, [0, 1, 5]), (4, [0, 5, 36]), (5, [0, 5]), (6, [0, 5, 50]), (7, [0, 5]), (8, [0, 5, 57]), (9, [4]), (10, [0, 5, 6]), (11, [0, 5, 6, 7]), (12, [0, 5, 6, 7, 62]), (14, [0, 5, 6, 7]), (13, [0, 5, 6, 7]), (15, [4])]) (findO []) Try.f32 false false = some F32 := by kernel_rfl
theorem link33 : compF Try.prog tau sig (find [(0, [0]), (1, [0, 7]), (2, [2]), (3, [2])]) (findO [(3, [(0, 0), (1, 0), (2, 0), (3, 0), (4, 0), (5, 0), (6, 0), (7, 0), (8, 0), (9, 0), (10, 0), (11, 0)])]) Try.f33 false false = some F33 := by kernel_rfl
theorem link34 : compF Try.prog tau sig (find [(0, [0]), (1, [2])]) (findO [(1, [(0, 0), (1, 0), (2, 0), (3, 0), (4, 0), (5, 0), (6, 0), (7, 0), (8, 0), (9, 0), (10, 0), (11, 0)])]) Try.f34 false false = some F34 := by kernel_rfl
theorem link35 : compF Try.prog tau sig (find [(0, [0]), (1, [2])]) (findO []) Try.f35 false false = some F35 := by kernel_rfl
theorem link36 : compF Try.prog tau sig (find [(0, [0]), (1, [2])]) (findO []) Try.f36 false false = some F36 := by kernel_rfl
theorem link37 : compF Try.prog tau sig (find [(0, [0]), (1, [0, 8]), (2, [2]), (3, [0, 15]), (4, [2]), (5, [0, 3]), (6, [0, 3, 27]), (8, [0, 3, 43]), (9, [2]), (7, [0, 3]), (10, [2])]) (findO []) Try.f37 false false = some F37 := by kernel_rfl
theorem link38 : compF Try.prog tau sig (find [(6, [0, 1, 2, 26]), (7, [0, 1, 2, 32]), (8, []), (9, [0, 1, 2, 39]), (10, []), (0, [0, 2]), (1, [0, 2, 15, 16]), (2, [0, 2, 15, 16, 17]), (3, [0, 2, 6, 15, 16]), (4, [0, 2, 15, 16]), (5, [0, 2, 15, 16])]) (findO [(9, [(0, 0), (1, 0), (2, 0), (3, 0), (4, 0), (5, 0), (6, 0), (7, 0), (9, 0), (10, 0), (8, 1), (11, 0), (12, 0), (13, 0), (14, 0), (15, 0), (16, 0), (17, 0), (18, 0)])]) Try.f38 false false = some F38 := by kernel_rfl
theorem link39 : compF Try.prog tau sig (find [(0, [0, 1, 4]), (1, [0, 4, 5]), (2, [0, 4]), (3, [])]) (findO []) Try.f39 false false = some F39 := by kernel_rfl
theorem link40 : compF Try.prog tau sig (find [(0, [0, 1]), (1, [4])]) (findO []) Try.f40 false false = some F40 := by kernel_rfl
theorem link41 : compF Try.prog tau sig (find [(0, [0]), (1, [2])]) (findO []) Try.f41 false false = some F41 := by kernel_rfl
theorem link42 : compF Try.prog tau sig (find [(0, [0, 1]), (1, [0, 1, 5]), (2, [0, 1, 5, 16]), (3, [4]), (4, [0, 5, 22]), (5, []), (6, [4]), (7, [0, 5, 28]), (8, []), (9, [4]), (10, [5, 6]), (11, [6, 7]), (12, [6, 7, 41, 42]), (13, [6, 7, 41, 42, 43]), (14, [6, 7, 8, 41, 42]), (15, [6, 7, 41, 42]), (16, [6, 7, 41, 42]), (17, [4])]) (findO []) Try.f42 false false = some F42 := by kernel_rfl
theorem link43 : compF Try.prog tau sig (find [(0, [0, 1, 2, 10]), (1, [0, 1, 2, 16]), (2, []), (3, [0, 1, 2, 31]), (4, []), (5, [0, 1, 2, 37]), (6, [])]) (findO []) Try.f43 false false = some F43 := by kernel_rfl
theorem link44 : compF Try.prog tau sig (find [(0, [0, 1, 2, 10]), (1, [0, 1, 2, 16]), (2, []), (3, [0, 1, 2, 33]), (4, []), (5, [0, 1, 2, 39]), (6, [])]) (findO []) Try.f44 false false = some F44 := by kernel_rfl
theorem link45 : compF Try.prog tau sig (find [(0, [0, 1, 6]), (1, [0, 7]), (2, []), (3, [])]) (findO []) Try.f45 false false = some F45 := by kernel_rfl
theorem link46 : compF Try.prog tau sig (find [(0, [0, 1, 2, 11]), (1, [0, 1, 2, 17]), (2, []), (3, [0, 1, 2, 24]), (4, []), (5, [0, 1, 2, 36]), (6, [0, 2]), (7, [0, 2, 6]), (8, [0, 2, 6, 46]), (10, [0, 2, 6]), (9, [0, 2, 6])]) (findO []) Try.f46 false false = some F46 := by kernel_rfl
theorem link47 : compF Try.prog tau sig (find [(0, [0]), (1, [0, 2]), (2, [1])]) (findO []) Try.f47 false false = some F47 := by kernel_rfl
theorem link48 : compF Try.prog tau sig (find [(0, [0, 1]), (1, [0, 1, 5]), (2, [0, 5, 6, 7]), (3, [0, 5, 6, 7, 8]), (4, [0, 5, 6, 7]), (5, [0, 5, 6, 7]), (6, [0, 5, 6, 7]), (7, [4])]) (findO [(4, [(0, 0), (1, 0), (2, 0), (3, 0), (4, 0), (5, 0), (6, 0), (7, 0), (8, 0), (9, 0), (10, 0), (11, 0), (12, 0), (13, 0), (14, 0), (15, 0), (16, 0), (17, 0), (18, 0), (19, 0), (20, 0), (21, 0), (22, 0)])]) Try.f48 false false = some F48 := by kernel_rfl
theorem link49 : compF Try.prog tau sig (find [(0, [0]), (1, [2]), (2, [2])]) (findO []) Try.f49 true true = some F49 := by kernel_rfl
theorem link50 : compF Try.prog tau sig (find [(1, [0, 1, 2, 3, 4, 15]), (2, [0, 2, 3, 4, 21]), (3, []), (4, [0, 3, 4, 27]), (5, []), (6, [0, 3, 4, 33]), (7, []), (0, [])]) (findO []) Try.f50 false false = some F50 := by kernel_rfl
theorem link51 : compF Try.prog tau sig (find [(0, [0, 1, 2]), (2, [0, 1, 2, 10]), (3, [0, 2, 16]), (4, []), (5, [0, 2, 21]), (6, []), (1, [6]), (7, [6])]) (findO []) Try.f51 false false = some F51 := by kernel_rfl
theorem link52 : compF Try.prog tau sig (find [(0, [0]), (1, [0]), (2, [])]) (findO []) Try.f52 false false = some F52 := by kernel_rfl
theorem link53 : compF Try.prog tau sig (find [(0, [0, 1]), (1, [0, 1, 11]), (2, [4]), (3, [0, 1, 15]), (4, []), (5, [4]), (6, [0, 1, 5]), (7, [0, 1, 5, 6]), (8, [0, 1, 5, 6, 20]), (10, [0, 1, 5, 6]), (11, [0, 1, 5, 6]), (9, [0, 1, 5, 6]), (12, [4])]) (findO [(10, [(0, 0), (1, 0), (2, 0), (3, 0), (4, 0), (5, 0), (6, 0), (7, 0), (8, 0), (9, 0), (10, 0), (11, 0), (12, 0), (13, 0), (14, 0), (15, 0), (16, 0), (17, 0), (18, 0), (19, 0), (20, 0), (21, 0), (22, 0)])]) Try.f53 false false = some F53 := by kernel_rfl
theorem link54 : compF Try.prog tau sig (find [(0, [0]), (1, [0, 5]), (2, [2]), (3, [0, 3]), (4, [0, 3, 7]), (5, [0, 3]), (6, [0, 3]), (7, [2])]) (findO []) Try.f54 true true = some F54 := by kernel_rfl
theorem link55 : compF Try.prog tau sig (find [(0, [0]), (1, [2])]) (findO []) Try.f55 true true = some F55 := by kernel_rfl
theorem link56 : compF Try.prog tau sig (find [(0, [0, 2, 6]), (1, [0, 2, 6, 10]), (3, [0, 2, 6, 18]), (4, [0, 2, 6]), (5, [0, 2, 6]), (6, [0, 2, 6]), (2, [0, 2, 6])]) (findO [(5, [(0, 0), (1, 0), (2, 0), (3, 0), (4, 0), (5, 0), (6, 0), (7, 0), (8, 0), (9, 0), (10, 0), (11, 0), (12, 0), (13, 0), (14, 0), (15, 0), (16, 0), (17, 0), (18, 0), (19, 0), (20, 0), (21, 0), (22, 0), (23, 0), (24, 0), (25, 0)])]) Try.f56 false false = some F56 := by kernel_rfl
theorem link57 : compF Try.prog tau sig (find [(0, [0, 1, 8]), (1, [])]) (findO []) Try.f57 false false = some F57 := by kernel_rfl
theorem link58 : compF Try.prog tau sig (find [(0, [0, 1]), (1, [0, 19]), (2, [0]), (3, [4])]) (findO []) Try.f58 false false = some F58 := by kernel_rfl
theorem link59 : compF Try.prog tau sig (find [(0, [0, 2, 6]), (1, [0, 2, 6, 10]), (3, [0, 2, 6]), (2, [0, 2, 6])]) (findO [(3, [(0, 0), (1, 0), (2, 0), (3, 0), (5, 0), (6, 0), (7, 0), (8, 0), (9, 0), (10, 0), (4, 1), (11, 0), (12, 0), (13, 0), (14, 0)])]) Try.f59 false false = some F59 := by kernel_rfl
theorem link60 : compF Try.prog tau sig (find [(0, [0, 2]), (1, [0, 2, 4]), (2, [0]), (3, [0, 2]), (4, [0, 2, 8]), (5, [0, 2]), (6, [0, 2]), (7, [2])]) (findO []) Try.f60 true true = some F60 := by kernel_rfl
theorem link61 : compF Try.prog tau sig (find [(0, [0, 2]), (1, [0, 2, 4]), (2, [0]), (3, [0, 2]), (4, [0, 2, 8]), (5, [0, 2]), (6, [0, 2]), (7, [0, 2, 14]), (8, [0, 2]), (9, [0, 2]), (10, [2])]) (findO []) Try.f61 true true = some F61 := by kernel_rfl

theorem at3 : Try.prog.funcs[sig 3]? = some Try.f3 := by kernel_rfl
theorem at4 : Try.prog.funcs[sig 4]? = some Try.f4 := by kernel_rfl
theorem at5 : Try.prog.funcs[sig 5]? = some Try.f5 := by kernel_rfl
theorem at6 : Try.prog.funcs[sig 6]? = some Try.f6 := by kernel_rfl
theorem at7 : Try.prog.funcs[sig 7]? = some Try.f7 := by kernel_rfl
theorem at8 : Try.prog.funcs[sig 8]? = some Try.f8 := by kernel_rfl
theorem at9 : Try.prog.funcs[sig 9]? = some Try.f9 := by kernel_rfl
theorem at10 : Try.prog.funcs[sig 10]? = some Try.f10 := by kernel_rfl
theorem at11 : Try.prog.funcs[sig 11]? = some Try.f11 := by kernel_rfl
theorem at12 : Try.prog.funcs[sig 12]? = some Try.f12 := by kernel_rfl
theorem at13 : Try.prog.funcs[sig 13]? = some Try.f13 := by kernel_rfl
theorem at14 : Try.prog.funcs[sig 14]? = some Try.f14 := by kernel_rfl
theorem at15 : Try.prog.funcs[sig 15]? = some Try.f15 := by kernel_rfl
theorem at16 : Try.prog.funcs[sig 16]? = some Try.f16 := by kernel_rfl
theorem at17 : Try.prog.funcs[sig 17]? = some Try.f17 := by kernel_rfl
theorem at18 : Try.prog.funcs[sig 18]? = some Try.f18 := by kernel_rfl
theorem at19 : Try.prog.funcs[sig 19]? = some Try.f19 := by kernel_rfl
theorem at20 : Try.prog.funcs[sig 20]? = some Try.f20 := by kernel_rfl
theorem at21 : Try.prog.funcs[sig 21]? = some Try.f21 := by kernel_rfl
theorem at22 : Try.prog.funcs[sig 22]? = some Try.f22 := by kernel_rfl
theorem at23 : Try.prog.funcs[sig 23]? = some Try.f23 := by kernel_rfl
theorem at24 : Try.prog.funcs[sig 24]? = some Try.f24 := by kernel_rfl
theorem at25 : Try.prog.funcs[sig 25]? = some Try.f25 := by kernel_rfl
theorem at26 : Try.prog.funcs[sig 26]? = some Try.f26 := by kernel_rfl
theorem at27 : Try.prog.funcs[sig 27]? = some Try.f27 := by kernel_rfl
theorem at28 : Try.prog.funcs[sig 28]? = some Try.f28 := by kernel_rfl
theorem at29 : Try.prog.funcs[sig 29]? = some Try.f29 := by kernel_rfl
theorem at30 : Try.prog.funcs[sig 30]? = some Try.f30 := by kernel_rfl
theorem at31 : Try.prog.funcs[sig 31]? = some Try.f31 := by kernel_rfl
theorem at32 : Try.prog.funcs[sig 32]? = some Try.f32 := by kernel_rfl
theorem at33 : Try.prog.funcs[sig 33]? = some Try.f33 := by kernel_rfl
theorem at34 : Try.prog.funcs[sig 34]? = some Try.f34 := by kernel_rfl
theorem at35 : Try.prog.funcs[sig 35]? = some Try.f35 := by kernel_rfl
theorem at36 : Try.prog.funcs[sig 36]? = some Try.f36 := by kernel_rfl
theorem at37 : Try.prog.funcs[sig 37]? = some Try.f37 := by kernel_rfl
theorem at38 : Try.prog.funcs[sig 38]? = some Try.f38 := by kernel_rfl
theorem at39 : Try.prog.funcs[sig 39]? = some Try.f39 := by kernel_rfl
theorem at40 : Try.prog.funcs[sig 40]? = some Try.f40 := by kernel_rfl
theorem at41 : Try.prog.funcs[sig 41]? = some Try.f41 := by kernel_rfl
theorem at42 : Try.prog.funcs[sig 42]? = some Try.f42 := by kernel_rfl
theorem at43 : Try.prog.funcs[sig 43]? = some Try.f43 := by kernel_rfl
theorem at44 : Try.prog.funcs[sig 44]? = some Try.f44 := by kernel_rfl
theorem at45 : Try.prog.funcs[sig 45]? = some Try.f45 := by kernel_rfl
theorem at46 : Try.prog.funcs[sig 46]? = some Try.f46 := by kernel_rfl
theorem at47 : Try.prog.funcs[sig 47]? = some Try.f47 := by kernel_rfl
theorem at48 : Try.prog.funcs[sig 48]? = some Try.f48 := by kernel_rfl
theorem at49 : Try.prog.funcs[sig 49]? = some Try.f49 := by kernel_rfl
theorem at50 : Try.prog.funcs[sig 50]? = some Try.f50 := by kernel_rfl
theorem at51 : Try.prog.funcs[sig 51]? = some Try.f51 := by kernel_rfl
theorem at52 : Try.prog.funcs[sig 52]? = some Try.f52 := by kernel_rfl
theorem at53 : Try.prog.funcs[sig 53]? = some Try.f53 := by kernel_rfl
theorem at54 : Try.prog.funcs[sig 54]? = some Try.f54 := by kernel_rfl
theorem at55 : Try.prog.funcs[sig 55]? = some Try.f55 := by kernel_rfl
theorem at56 : Try.prog.funcs[sig 56]? = some Try.f56 := by kernel_rfl
theorem at57 : Try.prog.funcs[sig 57]? = some Try.f57 := by kernel_rfl
theorem at58 : Try.prog.funcs[sig 58]? = some Try.f58 := by kernel_rfl
theorem at59 : Try.prog.funcs[sig 59]? = some Try.f59 := by kernel_rfl
theorem at60 : Try.prog.funcs[sig 60]? = some Try.f60 := by kernel_rfl
theorem at61 : Try.prog.funcs[sig 61]? = some Try.f61 := by kernel_rfl

theorem linked : Linked Try.prog sig tbl := by
  intro i F h
  simp only [tbl, tblL, look] at h
  by_cases h3 : 3 = i
  · rw [if_pos h3] at h; injection h with h; subst h3; subst h; exact ⟨_, _, _, _, at3, link3⟩
  rw [if_neg h3] at h
  by_cases h4 : 4 = i
  · rw [if_pos h4] at h; injection h with h; subst h4; subst h; exact ⟨_, _, _, _, at4, link4⟩
  rw [if_neg h4] at h
  by_cases h5 : 5 = i
  · rw [if_pos h5] at h; injection h with h; subst h5; subst h; exact ⟨_, _, _, _, at5, link5⟩
  rw [if_neg h5] at h
  by_cases h6 : 6 = i
  · rw [if_pos h6] at h; injection h with h; subst h6; subst h; exact ⟨_, _, _, _, at6, link6⟩
  rw [if_neg h6] at h
  by_cases h7 : 7 = i
  · rw [if_pos h7] at h; injection h with h; subst h7; subst h; exact ⟨_, _, _, _, at7, link7⟩
  rw [if_neg h7] at h
  by_cases h8 : 8 = i
  · rw [if_pos h8] at h; injection h with h; subst h8; subst h; exact ⟨_, _, _, _, at8, link8⟩
  rw [if_neg h8] at h
  by_cases h9 : 9 = i
  · rw [if_pos h9] at h; injection h with h; subst h9; subst h; exact ⟨_, _, _, _, at9, link9⟩
  rw [if_neg h9] at h
  by_cases h10 : 10 = i
  · rw [if_pos h10] at h; injection h with h; subst h10; subst h; exact ⟨_, _, _, _, at10, link10⟩
  rw [if_neg h10] at h
  by_cases h11 : 11 = i
  · rw [if_pos h11] at h; injection h with h; subst h11; subst h; exact ⟨_, _, _, _, at11, link11⟩
  rw [if_neg h11] at h
  by_cases h12 : 12 = i
  · rw [if_pos h12] at h; injection h with h; subst h12; subst h; exact ⟨_, _, _, _, at12, link12⟩
  rw [if_neg h12] at h
  by_cases h13 : 13 = i
  · rw [if_pos h13] at h; injection h with h; subst h13; subst h; exact ⟨_, _, _, _, at13, link13⟩
  rw [if_neg h13] at h
  by_cases h14 : 14 = i
  · rw [if_pos h14] at h; injection h with h; subst h14; subst h; exact ⟨_, _, _, _, at14, link14⟩
  rw [if_neg h14] at h
  by_cases h15 : 15 = i
  · rw [if_pos h15] at h; injection h with h; subst h15; subst h; exact ⟨_, _, _, _, at15, link15⟩
  rw [if_neg h15] at h
  by_cases h16 : 16 = i
  · rw [if_pos h16] at h; injection h with h; subst h16; subst h; exact ⟨_, _, _, _, at16, link16⟩
  rw [if_neg h16] at h
  by_cases h17 : 17 = i
  · rw [if_pos h17] at h; injection h with h; subst h17; subst h; exact ⟨_, _, _, _, at17, link17⟩
  rw [if_neg h17] at h
  by_cases h18 : 18 = i
  · rw [if_pos h18] at h; injection h with h; subst h18; subst h; exact ⟨_, _, _, _, at18, link18⟩
  rw [if_neg h18] at h
  by_cases h19 : 19 = i
  · rw [if_pos h19] at h; injection h with h; subst h19; subst h; exact ⟨_, _, _, _, at19, link19⟩
  rw [if_neg h19] at h
  by_cases h20 : 20 = i
  · rw [if_pos h20] at h; injection h with h; subst h20; subst h; exact ⟨_, _, _, _, at20, link20⟩
  rw [if_neg h20] at h
  by_cases h21 : 21 = i
  · rw [if_pos h21] at h; injection h with h; subst h21; subst h; exact ⟨_, _, _, _, at21, link21⟩
  rw [if_neg h21] at h
  by_cases h22 : 22 = i
  · rw [if_pos h22] at h; injection h with h; subst h22; subst h; exact ⟨_, _, _, _, at22, link22⟩
  rw [if_neg h22] at h
  by_cases h23 : 23 = i
  · rw [if_pos h23] at h; injection h with h; subst h23; subst h; exact ⟨_, _, _, _, at23, link23⟩
  rw [if_neg h23] at h
  by_cases h24 : 24 = i
  · rw [if_pos h24] at h; injection h with h; subst h24; subst h; exact ⟨_, _, _, _, at24, link24⟩
  rw [if_neg h24] at h
  by_cases h25 : 25 = i
  · rw [if_pos h25] at h; injection h with h; subst h25; subst h; exact ⟨_, _, _, _, at25, link25⟩
  rw [if_neg h25] at h
  by_cases h26 : 26 = i
  · rw [if_pos h26] at h; injection h with h; subst h26; subst h; exact ⟨_, _, _, _, at26, link26⟩
  rw [if_neg h26] at h
  by_cases h27 : 27 = i
  · rw [if_pos h27] at h; injection h with h; subst h27; subst h; exact ⟨_, _, _, _, at27, link27⟩
  rw [if_neg h27] at h
  by_cases h28 : 28 = i
  · rw [if_pos h28] at h; injection h with h; subst h28; subst h; exact ⟨_, _, _, _, at28, link28⟩
  rw [if_neg h28] at h
  by_cases h29 : 29 = i
  · rw [if_pos h29] at h; injection h with h; subst h29; subst h; exact ⟨_, _, _, _, at29, link29⟩
  rw [if_neg h29] at h
  by_cases h30 : 30 = i
  · rw [if_pos h30] at h; injection h with h; subst h30; subst h; exact ⟨_, _, _, _, at30, link30⟩
  rw [if_neg h30] at h
  by_cases h31 : 31 = i
  · rw [if_pos h31] at h; injection h with h; subst h31; subst h; exact ⟨_, _, _, _, at31, link31⟩
  rw [if_neg h31] at h
  by_cases h32 : 32 = i
  · rw [if_pos h32] at h; injection h with h; subst h32; subst h; exact ⟨_, _, _, _, at32, link32⟩
  rw [if_neg h32] at h
  by_cases h33 : 33 = i
  · rw [if_pos h33] at h; injection h with h; subst h33; subst h; exact ⟨_, _, _, _, at33, link33⟩
  rw [if_neg h33] at h
  by_cases h34 : 34 = i
  · rw [if_pos h34] at h; injection h with h; subst h34; subst h; exact ⟨_, _, _, _, at34, link34⟩
  rw [if_neg h34] at h
  by_cases h35 : 35 = i
  · rw [if_pos h35] at h; injection h with h; subst h35; subst h; exact ⟨_, _, _, _, at35, link35⟩
  rw [if_neg h35] at h
  by_cases h36 : 36 = i
  · rw [if_pos h36] at h; injection h with h; subst h36; subst h; exact ⟨_, _, _, _, at36, link36⟩
  rw [if_neg h36] at h
  by_cases h37 : 37 = i
  · rw [if_pos h37] at h; injection h with h; subst h37; subst h; exact ⟨_, _, _, _, at37, link37⟩
  rw [if_neg h37] at h
  by_cases h38 : 38 = i
  · rw [if_pos h38] at h; injection h with h; subst h38; subst h; exact ⟨_, _, _, _, at38, link38⟩
  rw [if_neg h38] at h
  by_cases h39 : 39 = i
  · rw [if_pos h39] at h; injection h with h; subst h39; subst h; exact ⟨_, _, _, _, at39, link39⟩
  rw [if_neg h39] at h
  by_cases h40 : 40 = i
  · rw [if_pos h40] at h; injection h with h; subst h40; subst h; exact ⟨_, _, _, _, at40, link40⟩
  rw [if_neg h40] at h
  by_cases h41 : 41 = i
  · rw [if_pos h41] at h; injection h with h; subst h41; subst h; exact ⟨_, _, _, _, at41, link41⟩
  rw [if_neg h41] at h
  by_cases h42 : 42 = i
  · rw [if_pos h42] at h; injection h with h; subst h42; subst h; exact ⟨_, _, _, _, at42, link42⟩
  rw [if_neg h42] at h
  by_cases h43 : 43 = i
  · rw [if_pos h43] at h; injection h with h; subst h43; subst h; exact ⟨_, _, _, _, at43, link43⟩
  rw [if_neg h43] at h
  by_cases h44 : 44 = i
  · rw [if_pos h44] at h; injection h with h; subst h44; subst h; exact ⟨_, _, _, _, at44, link44⟩
  rw [if_neg h44] at h
  by_cases h45 : 45 = i
  · rw [if_pos h45] at h; injection h with h; subst h45; subst h; exact ⟨_, _, _, _, at45, link45⟩
  rw [if_neg h45] at h
  by_cases h46 : 46 = i
  · rw [if_pos h46] at h; injection h with h; subst h46; subst h; exact ⟨_, _, _, _, at46, link46⟩
  rw [if_neg h46] at h
  by_cases h47 : 47 = i
  · rw [if_pos h47] at h; injection h with h; subst h47; subst h; exact ⟨_, _, _, _, at47, link47⟩
  rw [if_neg h47] at h
  by_cases h48 : 48 = i
  · rw [if_pos h48] at h; injection h with h; subst h48; subst h; exact ⟨_, _, _, _, at48, link48⟩
  rw [if_neg h48] at h
  by_cases h49 : 49 = i
  · rw [if_pos h49] at h; injection h with h; subst h49; subst h; exact ⟨_, _, _, _, at49, link49⟩
  rw [if_neg h49] at h
  by_cases h50 : 50 = i
  · rw [if_pos h50] at h; injection h with h; subst h50; subst h; exact ⟨_, _, _, _, at50, link50⟩
  rw [if_neg h50] at h
  by_cases h51 : 51 = i
  · rw [if_pos h51] at h; injection h with h; subst h51; subst h; exact ⟨_, _, _, _, at51, link51⟩
  rw [if_neg h51] at h
  by_cases h52 : 52 = i
  · rw [if_pos h52] at h; injection h with h; subst h52; subst h; exact ⟨_, _, _, _, at52, link52⟩
  rw [if_neg h52] at h
  by_cases h53 : 53 = i
  · rw [if_pos h53] at h; injection h with h; subst h53; subst h; exact ⟨_, _, _, _, at53, link53⟩
  rw [if_neg h53] at h
  by_cases h54 : 54 = i
  · rw [if_pos h54] at h; injection h with h; subst h54; subst h; exact ⟨_, _, _, _, at54, link54⟩
  rw [if_neg h54] at h
  by_cases h55 : 55 = i
  · rw [if_pos h55] at h; injection h with h; subst h55; subst h; exact ⟨_, _, _, _, at55, link55⟩
  rw [if_neg h55] at h
  by_cases h56 : 56 = i
  · rw [if_pos h56] at h; injection h with h; subst h56; subst h; exact ⟨_, _, _, _, at56, link56⟩
  rw [if_neg h56] at h
  by_cases h57 : 57 = i
  · rw [if_pos h57] at h; injection h with h; subst h57; subst h; exact ⟨_, _, _, _, at57, link57⟩
  rw [if_neg h57] at h
  by_cases h58 : 58 = i
  · rw [if_pos h58] at h; injection h with h; subst h58; subst h; exact ⟨_, _, _, _, at58, link58⟩
  rw [if_neg h58] at h
  by_cases h59 : 59 = i
  · rw [if_pos h59] at h; injection h with h; subst h59; subst h; exact ⟨_, _, _, _, at59, link59⟩
  rw [if_neg h59] at h
  by_cases h60 : 60 = i
  · rw [if_pos h60] at h; injection h with h; subst h60; subst h; exact ⟨_, _, _, _, at60, link60⟩
  rw [if_neg h60] at h
  by_cases h61 : 61 = i
  · rw [if_pos h61] at h; injection h with h; subst h61; subst h; exact ⟨_, _, _, _, at61, link61⟩
  rw [if_neg h61] at h
  simp at h

theorem follows : Try.prog.follows .mixedOrders = true := by kernel_rfl

end Go.Proofs.Ytlbhbjaimcinbaa.AI
