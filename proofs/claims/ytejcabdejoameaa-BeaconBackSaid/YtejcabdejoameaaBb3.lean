/- What is proved on the way to BeaconBack, part 3: an interpreter of the code, its soundness, and what the functions answer. -/
import Derived.Calls
import Derived.Orders
import Derived.RowKit3
import Derived.KernelRfl
import Derived.WalkKit
import Derived.Laws.IdiomStrings
import Derived.Laws.StructEq
import Derived.LoopN
import Derived.Test.YtejcabdejoameaaRows
import Derived.ProofKit
import Derived.OpenShut
import Derived.Test.YtejcabdejoameaaBb2
/- Each function of the program is that of the interpreter's table. -/
namespace Go.Proofs.Ytejcabdejoameaa.AI
open Go

def sigL : List (Nat × Nat) := [(101, 3), (102, 4), (105, 7), (106, 8), (107, 9), (108, 10), (109, 11), (110, 12), (111, 13), (112, 14), (113, 15), (114, 16), (115, 17), (116, 18), (117, 19), (118, 20), (119, 21), (120, 22), (121, 23), (122, 24), (123, 25), (124, 26), (125, 27), (126, 28), (127, 29), (128, 30), (129, 31), (130, 32), (131, 33), (132, 34), (133, 35), (13, 36), (25, 37), (39, 38), (38, 39), (134, 40), (17, 41), (14, 42), (43, 43), (45, 44), (46, 45), (135, 46), (18, 47), (136, 48), (137, 49), (138, 50), (139, 51), (140, 52), (141, 53), (142, 54), (143, 55), (144, 56), (145, 57), (146, 58), (21, 59), (40, 60), (41, 61), (42, 62), (147, 63), (23, 64), (28, 65), (29, 66), (31, 67), (32, 68), (37, 69), (148, 70), (149, 71), (150, 72), (151, 73), (152, 74), (50, 75), (49, 76), (55, 77), (24, 78), (56, 79), (58, 80), (59, 81), (54, 82), (153, 83), (154, 84), (155, 85), (156, 86), (157, 87), (158, 88), (159, 89), (160, 90), (51, 91), (57, 92), (33, 93), (48, 94), (47, 95), (52, 96), (53, 97), (34, 98), (161, 99), (162, 100), (163, 101), (60, 102), (61, 103), (164, 104), (165, 105), (166, 106), (167, 107), (168, 108), (169, 109), (170, 110), (171, 111), (172, 112), (173, 113), (174, 114), (175, 115)]
def sig (n : Nat) : Nat := num sigL n
def tauL : List (Nat × Nat) := [(3, 101), (4, 102), (7, 105), (8, 106), (9, 107), (10, 108), (11, 109), (12, 110), (13, 111), (14, 112), (15, 113), (16, 114), (17, 115), (18, 116), (19, 117), (20, 118), (21, 119), (22, 120), (23, 121), (24, 122), (25, 123), (26, 124), (27, 125), (28, 126), (29, 127), (30, 128), (31, 129), (32, 130), (33, 131), (34, 132), (35, 133), (36, 13), (37, 25), (38, 39), (39, 38), (40, 134), (41, 17), (42, 14), (43, 43), (44, 45), (45, 46), (46, 135), (47, 18), (48, 136), (49, 137), (50, 138), (51, 139), (52, 140), (53, 141), (54, 142), (55, 143), (56, 144), (57, 145), (58, 146), (59, 21), (60, 40), (61, 41), (62, 42), (63, 147), (64, 23), (65, 28), (66, 29), (67, 31), (68, 32), (69, 37), (70, 148), (71, 149), (72, 150), (73, 151), (74, 152), (75, 50), (76, 49), (77, 55), (78, 24), (79, 56), (80, 58), (81, 59), (82, 54), (83, 153), (84, 154), (85, 155), (86, 156), (87, 157), (88, 158), (89, 159), (90, 160), (91, 51), (92, 57), (93, 33), (94, 48), (95, 47), (96, 52), (97, 53), (98, 34), (99, 161), (100, 162), (101, 163), (102, 60), (103, 61), (104, 164), (105, 165), (106, 166), (107, 167), (108, 168), (109, 169), (110, 170), (111, 171), (112, 172), (113, 173), (114, 174), (115, 175)]
def tau (n : Nat) : Nat := num tauL n

theorem link101 : compF Try.prog tau sig (find [(0, [1]), (1, [1, 8]), (2, [2]), (3, [1, 11]), (4, [2]), (5, [1, 3, 4]), (6, [1, 3, 4, 5, 6]), (7, [2])]) (findO [(7, [(0, 0), (1, 0), (2, 1), (3, 0), (4, 0), (5, 0), (6, 0), (7, 0), (8, 0), (9, 0), (10, 0), (11, 0), (12, 0), (13, 0), (14, 0), (15, 0)])]) Try.f3 false false = some F101 := by kernel_rfl
theorem link102 : compF Try.prog tau sig (find [(0, [1, 2, 3]), (1, [1, 2, 3, 16]), (2, [6]), (3, [1, 2, 3, 41]), (4, [6]), (5, [1, 2, 3, 7, 8]), (6, [1, 2, 3, 7, 8, 9, 10]), (7, [1, 2, 3, 7, 8, 9, 10, 11, 12]), (8, [1, 2, 3, 7, 8, 9, 10, 11, 12, 13, 14]), (9, [6])]) (findO [(9, [(0, 0), (1, 0), (2, 0), (3, 0), (4, 0), (5, 0), (6, 0), (7, 0), (8, 0), (9, 0), (10, 0), (11, 0), (12, 0), (13, 0), (14, 0), (15, 0), (16, 0), (17, 0), (18, 0), (19, 0), (20, 0), (21, 0), (22, 0), (23, 1), (24, 0), (25, 0), (26, 0), (27, 0), (28, 0), (29, 0)])]) Try.f4 false false = some F102 := by kernel_rfl
theorem link105 : compF Try.prog tau sig (find [(0, [0]), (1, [0, 8]), (2, [2]), (3, [0, 11]), (4, [2]), (5, [0, 3, 4]), (6, [3, 4, 5, 6]), (7, [2])]) (findO []) Try.f7 false false = some F105 := by kernel_rfl
theorem link106 : compF Try.prog tau sig (find [(0, [3, 4, 5]), (1, [3, 4, 5, 9]), (2, [6]), (3, [3, 4, 5, 25]), (4, [6]), (5, [3, 4, 5, 7]), (6, [3, 4, 7, 54]), (7, [6]), (8, [3, 4, 64]), (9, [6]), (10, [6])]) (findO [(10, [(0, 0), (1, 0), (2, 0), (3, 0), (4, 0), (5, 0), (6, 0), (7, 0), (8, 0), (9, 1), (10, 1), (11, 0), (12, 0), (13, 0), (14, 0)])]) Try.f8 false false = some F106 := by kernel_rfl
theorem link107 : compF Try.prog tau sig (find [(0, [1, 3, 4, 6]), (1, [1, 3, 4, 6, 22]), (2, [8]), (3, [1, 3, 4, 6, 30]), (4, [8]), (5, [1, 3, 4, 6, 9, 10]), (6, [1, 3, 4, 6, 9, 37]), (7, [1, 3, 4, 6, 11, 12]), (8, [3, 4, 6, 49]), (9, [8]), (10, [3, 4, 6, 13, 14]), (11, [3, 4, 6, 13, 14, 56]), (12, [8]), (13, [3, 4, 6, 13, 15, 16]), (14, [3, 4, 6, 82]), (15, [8]), (16, [3, 4, 6, 17, 18]), (17, [3, 4, 6, 17, 18, 91]), (18, [8]), (19, [3, 4, 6, 17, 19, 20]), (20, [8])]) (findO []) Try.f9 false false = some F107 := by kernel_rfl
theorem link108 : compF Try.prog tau sig (find [(0, [1, 2, 3, 7, 11, 12, 13]), (1, [1, 2, 3, 7, 11, 12, 13, 24]), (2, [14]), (3, [1, 2, 3, 7, 11, 12, 13, 39]), (4, [14]), (5, [1, 2, 3, 7, 11, 12, 13, 15, 16]), (6, [12, 13, 15, 16, 17, 18]), (7, [12, 13, 15, 16, 17, 18, 19, 20]), (8, [12, 13, 15, 16, 17, 18, 19, 20, 21, 22]), (9, [14])]) (findO [(9, [(0, 0), (1, 0), (2, 0), (3, 0), (4, 0), (5, 0), (6, 0), (7, 0), (8, 0), (9, 0), (10, 0), (11, 0), (12, 0), (13, 0), (14, 0), (15, 0), (16, 0), (17, 0), (18, 0), (19, 0), (20, 0), (21, 0), (22, 1), (23, 1), (24, 0), (25, 0), (26, 0), (27, 0)])]) Try.f10 false false = some F108 := by kernel_rfl
theorem link109 : compF Try.prog tau sig (find [(0, []), (1, [1]), (2, [1, 2, 3]), (3, [1, 2, 3, 4, 5]), (4, [1, 2, 3, 4, 5, 6, 7]), (5, [0])]) (findO []) Try.f11 true true = some F109 := by kernel_rfl
theorem link110 : compF Try.prog tau sig (find [(0, [1]), (1, [2])]) (findO []) Try.f12 false false = some F110 := by kernel_rfl
theorem link111 : compF Try.prog tau sig (find [(0, [1]), (1, [1, 4]), (2, [1, 4, 11]), (3, [2, 3]), (4, [1, 5]), (5, [1, 5]), (6, [1, 5]), (7, [1, 5]), (8, [1, 5]), (9, [1, 5, 35]), (10, [1, 5]), (11, [1, 5]), (12, [1, 5]), (13, [1, 5]), (14, [5, 60, 61, 62]), (15, [5, 60, 61, 62, 63]), (16, [5, 7, 60, 61, 62]), (17, [5, 60, 61, 62]), (18, [5, 60, 61, 62]), (19, [2, 3])]) (findO []) Try.f13 false false = some F111 := by kernel_rfl
theorem link112 : compF Try.prog tau sig (find [(0, [1]), (1, [1, 4]), (2, [1, 4, 10]), (3, [2, 3]), (4, [1, 5]), (5, [1, 5]), (6, [1, 5]), (7, [1, 5]), (8, [1, 5]), (9, [1, 5, 34]), (10, [1, 5]), (11, [1, 5]), (12, [1, 5]), (13, [1, 5]), (14, [1, 5, 6]), (15, [1, 5, 6, 62]), (17, [1, 5, 6]), (16, [1, 5, 6]), (18, [2, 3])]) (findO []) Try.f14 false false = some F112 := by kernel_rfl
theorem link113 : compF Try.prog tau sig (find [(0, [1]), (1, [1, 3]), (2, [2]), (3, [1, 12]), (4, [2]), (5, [17]), (6, [2]), (7, [2])]) (findO []) Try.f15 false false = some F113 := by kernel_rfl
theorem link114 : compF Try.prog tau sig (find [(0, [1]), (1, [1, 10]), (2, [2]), (3, [1, 14]), (4, [2]), (5, [24]), (6, [2]), (7, [2])]) (findO []) Try.f16 false false = some F114 := by kernel_rfl
theorem link115 : compF Try.prog tau sig (find [(0, [1]), (1, [2])]) (findO []) Try.f17 false false = some F115 := by kernel_rfl
theorem link116 : compF Try.prog tau sig (find [(0, [1, 2, 3]), (1, [1, 2, 3, 19]), (2, [6, 7]), (3, [1, 2, 3, 8, 9]), (4, [1, 2, 3, 9, 10, 11]), (5, [1, 2, 3, 9, 10, 35]), (6, [6, 7]), (7, [6, 7])]) (findO []) Try.f18 false false = some F116 := by kernel_rfl
theorem link117 : compF Try.prog tau sig (find [(0, [1, 2, 3]), (1, [1, 2, 3, 27]), (2, [6, 7]), (3, [1, 2, 3, 8, 9, 10]), (4, [1, 2, 3, 8, 9, 10, 11]), (5, [1, 2, 3, 8, 9, 10, 11, 32]), (7, [1, 2, 3, 8, 9, 10, 11, 12]), (8, [1, 2, 3, 8, 9, 10, 11, 12, 42]), (9, [1, 2, 3, 8, 9, 10, 11, 12]), (10, [1, 2, 3, 8, 9, 10, 11, 12, 51]), (11, [1, 2, 3, 8, 9, 10, 11, 12]), (12, [1, 2, 3, 8, 9, 10, 11, 60]), (13, [1, 2, 3, 8, 9, 10, 11]), (6, [1, 2, 3, 8, 9, 10, 11]), (14, [1, 2, 3, 8, 9, 62]), (15, [6, 7]), (16, [6, 7])]) (findO [(10, [(0, 0), (1, 0), (2, 0), (3, 0), (4, 0), (5, 0), (6, 0)]), (12, [(0, 0), (1, 0), (2, 0), (3, 0), (4, 0), (5, 0), (6, 0)])]) Try.f19 false false = some F117 := by kernel_rfl
theorem link118 : compF Try.prog tau sig (find [(0, [1, 2, 3]), (1, [1, 2, 3, 26]), (2, [6, 7]), (3, [1, 2, 3, 8]), (4, [1, 2, 3, 8, 31, 32, 33]), (5, [1, 2, 3, 8, 31, 32, 33, 34]), (6, [1, 2, 3, 8, 10, 31, 32, 33]), (7, [1, 2, 3, 8, 10, 11, 31, 32, 33]), (8, [1, 2, 3, 8, 10, 31, 32, 33, 51]), (9, [1, 2, 3, 8, 31, 32, 33]), (10, [1, 2, 3, 8, 31, 32, 33]), (11, [1, 2, 3, 8, 13, 14]), (12, [1, 2, 3, 8, 13, 14, 65, 66]), (13, [1, 2, 3, 8, 13, 14, 65, 66, 67]), (14, [1, 2, 3, 8, 13, 14, 15, 65, 66]), (15, [1, 2, 3, 8, 13, 14, 16, 65, 66]), (16, [1, 2, 3, 8, 13, 14, 16, 65, 66, 73]), (17, [1, 2, 3, 8, 13, 14, 16, 65, 66, 81]), (18, [1, 2, 3, 8, 13, 14, 16, 17, 65, 66]), (19, [1, 2, 3, 8, 13, 14, 16, 65, 66, 107]), (20, [6, 7]), (21, [1, 2, 3, 8, 13, 14, 65, 66]), (22, [6, 7])]) (findO [(19, [(0, 0), (1, 0), (2, 0), (3, 0), (4, 0), (5, 0), (6, 0), (7, 0), (8, 0), (9, 0), (10, 0), (11, 0), (12, 0), (13, 0), (14, 0), (15, 0), (16, 0)])]) Try.f20 false false = some F118 := by kernel_rfl
theorem link119 : compF Try.prog tau sig (find [(0, [1, 2, 3]), (1, [1, 2, 3, 23]), (2, [6, 7]), (3, [1, 2, 3, 8]), (4, [1, 2, 3, 8, 30]), (6, [1, 2, 3, 8, 38]), (7, [6, 7]), (5, [1, 2, 3, 8]), (8, [6, 7])]) (findO []) Try.f21 false false = some F119 := by kernel_rfl
theorem link120 : compF Try.prog tau sig (find [(0, [1, 2, 3]), (1, [1, 2, 3, 7, 8]), (2, [2, 3, 7, 8, 9, 10]), (3, [6])]) (findO []) Try.f22 false false = some F120 := by kernel_rfl
theorem link121 : compF Try.prog tau sig (find [(0, [1, 2, 3]), (1, [1, 2, 3, 7, 8]), (2, [2, 3, 7, 8, 9, 10]), (3, [6])]) (findO []) Try.f23 false false = some F121 := by kernel_rfl
theorem link122 : compF Try.prog tau sig (find [(0, [2, 3, 4]), (1, [2, 3, 4, 9]), (2, [4, 5]), (3, [2, 3, 4, 6]), (4, [2, 3, 4, 6, 15]), (5, [4, 5]), (6, [2, 3, 4, 24]), (7, [4, 5]), (8, [2, 3, 4, 29]), (9, [4, 5]), (10, [4, 5])]) (findO [(10, [(0, 0), (2, 0), (4, 0), (5, 0), (6, 0), (7, 0), (1, 1), (3, 1), (8, 0), (9, 0), (10, 0)])]) Try.f24 false false = some F122 := by kernel_rfl
theorem link123 : compF Try.prog tau sig (find [(0, [0, 2]), (1, [2])]) (findO []) Try.f25 true true = some F123 := by kernel_rfl
theorem link124 : compF Try.prog tau sig (find [(0, [0, 2]), (1, [2, 4]), (2, [2, 4, 5]), (3, [2, 4, 5, 16]), (4, [2, 4, 5]), (5, [2, 4, 5, 23]), (6, [2, 3]), (7, [2, 5, 32]), (8, [2, 3]), (9, [2, 3])]) (findO []) Try.f26 false false = some F124 := by kernel_rfl
theorem link125 : compF Try.prog tau sig (find [(0, [0, 2]), (1, [2, 4]), (2, [2, 4, 5]), (3, [2, 4, 5]), (4, [2, 4, 5]), (5, [2, 4, 5, 6]), (6, [2, 4, 5, 6, 22]), (7, [2, 4, 5, 6]), (8, [2, 4, 5, 6]), (9, [2, 4, 5, 6]), (10, [2, 4, 5, 6, 7]), (11, [2, 4, 5, 6, 7, 8]), (12, [2, 4, 5, 6, 7, 8, 40]), (14, [2, 4, 5, 6, 7, 8]), (13, [2, 4, 5, 6, 7, 8]), (15, [2, 5, 66]), (16, [2, 3]), (17, [2, 3])]) (findO [(14, [(0, 0), (1, 0), (3, 0), (4, 0), (5, 0), (2, 2), (6, 0), (7, 0), (8, 0), (9, 0)])]) Try.f27 false false = some F125 := by kernel_rfl
theorem link126 : compF Try.prog tau sig (find [(0, [2, 3]), (1, [4])]) (findO []) Try.f28 false false = some F126 := by kernel_rfl
theorem link127 : compF Try.prog tau sig (find [(0, [1]), (1, [4]), (2, [2])]) (findO []) Try.f29 true true = some F127 := by kernel_rfl
theorem link128 : compF Try.prog tau sig (find [(0, [1, 2]), (1, [1, 2, 6]), (2, [2, 3]), (3, [2, 3])]) (findO []) Try.f30 false false = some F128 := by kernel_rfl
theorem link129 : compF Try.prog tau sig (find [(0, [2, 3]), (1, [2, 3, 5]), (2, [4]), (3, [2, 3, 14]), (4, [4]), (5, [2, 3, 25]), (6, [4]), (7, [4])]) (findO []) Try.f31 true true = some F129 := by kernel_rfl
theorem link130 : compF Try.prog tau sig (find [(0, [1, 2, 3, 5, 9, 10]), (1, [1, 2, 3, 5, 10, 12, 13]), (2, [1, 2, 3, 5, 10, 12, 13, 21]), (3, [10, 11]), (4, [1, 2, 3, 5, 10, 12, 26]), (5, [10, 11]), (6, [10, 14]), (7, [10, 14, 41]), (8, [10, 11]), (9, [10, 11])]) (findO []) Try.f32 false false = some F130 := by kernel_rfl
theorem link131 : compF Try.prog tau sig (find [(0, [1, 2, 3, 5, 9, 10]), (1, [1, 2, 3, 5, 10, 12, 13]), (2, [1, 2, 3, 5, 10, 12, 13, 21]), (3, [10, 11]), (4, [1, 2, 3, 5, 10, 12, 26]), (5, [10, 11]), (6, [10, 14]), (7, [10, 14, 41]), (8, [10, 11]), (9, [10, 11])]) (findO []) Try.f33 false false = some F131 := by kernel_rfl
theorem link132 : compF Try.prog tau sig (find [(0, [1, 2]), (1, [1, 2, 6]), (2, [2, 3]), (3, [2, 3])]) (findO []) Try.f34 false false = some F132 := by kernel_rfl
theorem link133 : compF Try.prog tau sig (find [(0, [2, 3]), (1, [2, 3, 12]), (2, [4]), (3, [2, 3, 17]), (4, [4]), (5, [2, 3, 27]), (6, [4]), (7, [4])]) (findO []) Try.f35 true true = some F133 := by kernel_rfl
theorem link13 : compF Try.prog tau sig (find [(0, []), (1, [0])]) (findO []) Try.f36 false false = some F13 := by kernel_rfl
theorem link25 : compF Try.prog tau sig (find [(0, [0, 1, 2, 6]), (1, [])]) (findO []) Try.f37 false false = some F25 := by kernel_rfl
theorem link39 : compF Try.prog tau sig (find [(0, [0, 1, 4]), (1, [0, 4, 5]), (2, [0, 4]), (3, [])]) (findO []) Try.f38 false false = some F39 := by kernel_rfl
theorem link38 : compF Try.prog tau sig (find [(6, [0, 1, 2, 26]), (7, [0, 1, 2, 32]), (8, []), (9, [0, 1, 2, 39]), (10, []), (0, [0, 2]), (1, [0, 2, 15, 16]), (2, [0, 2, 15, 16, 17]), (3, [0, 2, 6, 15, 16]), (4, [0, 2, 15, 16]), (5, [0, 2, 15, 16])]) (findO [(9, [(0, 0), (1, 0), (2, 0), (3, 0), (4, 0), (5, 0), (6, 0), (7, 0), (9, 0), (10, 0), (8, 1), (11, 0), (12, 0), (13, 0), (14, 0), (15, 0), (16, 0), (17, 0), (18, 0)])]) Try.f39 false false = some F38 := by kernel_rfl
theorem link134 : compF Try.prog tau sig (find [(0, [1]), (1, [2])]) (findO []) Try.f40 false false = some F134 := by kernel_rfl
theorem link17 : compF Try.prog tau sig (find [(0, [0]), (1, [0, 8]), (2, [2, 3]), (3, [2, 3])]) (findO [(2, [(0, 0), (1, 0), (2, 0), (3, 0), (4, 0), (5, 0)])]) Try.f41 false false = some F17 := by kernel_rfl
theorem link14 : compF Try.prog tau sig (find [(0, []), (1, [0])]) (findO []) Try.f42 false false = some F14 := by kernel_rfl
theorem link43 : compF Try.prog tau sig (find [(0, [0, 1, 2, 10]), (1, [0, 1, 2, 16]), (2, []), (3, [0, 1, 2, 31]), (4, []), (5, [0, 1, 2, 37]), (6, [])]) (findO []) Try.f43 false false = some F43 := by kernel_rfl
theorem link45 : compF Try.prog tau sig (find [(0, [0, 1, 6]), (1, [0, 7]), (2, []), (3, [])]) (findO []) Try.f44 false false = some F45 := by kernel_rfl
theorem link46 : compF Try.prog tau sig (find [(0, [0, 1, 2, 11]), (1, [0, 1, 2, 17]), (2, []), (3, [0, 1, 2, 24]), (4, []), (5, [0, 1, 2, 36]), (6, [0, 2]), (7, [0, 2, 6]), (8, [0, 2, 6, 46]), (10, [0, 2, 6]), (9, [0, 2, 6])]) (findO []) Try.f45 false false = some F46 := by kernel_rfl
theorem link135 : compF Try.prog tau sig (find [(0, [1]), (1, [2])]) (findO []) Try.f46 false false = some F135 := by kernel_rfl
theorem link18 : compF Try.prog tau sig (find [(0, [0]), (1, [0, 10]), (2, [2, 3]), (3, [0, 4]), (4, [0, 4, 5]), (5, [0, 4, 5, 29]), (7, [0, 4, 5]), (6, [0, 4, 5]), (8, [2, 3])]) (findO [(2, [(0, 0), (1, 0), (2, 0), (3, 0), (4, 0), (5, 0)]), (7, [(0, 0), (1, 0), (2, 0), (3, 0), (4, 0), (5, 0), (6, 0), (7, 0), (8, 0), (9, 0), (10, 0), (11, 0), (12, 0), (13, 0), (14, 0), (15, 0), (16, 0), (17, 0), (18, 0), (19, 0), (20, 0), (21, 0)])]) Try.f47 false false = some F18 := by kernel_rfl
theorem link136 : compF Try.prog tau sig (find [(0, [1]), (1, [33]), (2, [2]), (3, [2])]) (findO []) Try.f48 false false = some F136 := by kernel_rfl
theorem link137 : compF Try.prog tau sig (find [(0, [1]), (1, [33]), (2, [2]), (3, [2])]) (findO []) Try.f49 false false = some F137 := by kernel_rfl
theorem link138 : compF Try.prog tau sig (find [(0, [0]), (1, [2])]) (findO []) Try.f50 true true = some F138 := by kernel_rfl
theorem link139 : compF Try.prog tau sig (find [(0, [1, 2]), (1, [4])]) (findO []) Try.f51 false false = some F139 := by kernel_rfl
theorem link140 : compF Try.prog tau sig (find [(0, [1]), (1, [1, 4]), (2, [1, 4, 8, 9, 10]), (3, [1, 4, 8, 9, 10, 11]), (4, [1, 4, 6, 8, 9, 10]), (5, [1, 4, 8, 9, 10, 16]), (6, [1, 4, 8, 9, 10]), (7, [1, 4, 8, 9, 10]), (8, [2, 3])]) (findO []) Try.f52 false false = some F140 := by kernel_rfl
theorem link141 : compF Try.prog tau sig (find [(0, [1]), (1, [1, 22]), (2, [2]), (3, [1, 26]), (4, [2]), (5, [1, 3]), (6, [1, 3, 31]), (8, [1, 3, 4]), (9, [1, 3, 4, 42]), (10, [2]), (11, [1, 3, 60]), (12, [2]), (7, [1, 3]), (13, [2])]) (findO [(8, [(0, 0), (1, 0), (2, 0), (3, 0), (4, 0), (5, 0), (6, 0), (7, 0)]), (11, [(0, 0), (1, 0), (2, 0), (3, 0), (4, 0), (5, 0), (6, 0), (7, 0), (8, 0), (9, 0), (10, 0), (11, 0), (12, 0), (13, 0), (14, 0), (15, 0), (16, 0)])]) Try.f53 false false = some F141 := by kernel_rfl
theorem link142 : compF Try.prog tau sig (find [(0, [1, 2, 4]), (1, [1, 2, 4, 14]), (2, [4, 5]), (3, [1, 2, 4, 6]), (4, [2, 4, 6, 43]), (5, [4, 5]), (6, [4, 5])]) (findO [(3, [(0, 0), (1, 0), (2, 0), (3, 0), (4, 0), (5, 0), (6, 0), (7, 0), (8, 0), (9, 0), (10, 0), (11, 0)]), (4, [(0, 0), (1, 0), (2, 0), (3, 0), (4, 0), (5, 0), (6, 0), (7, 0), (8, 0), (9, 0), (10, 0), (11, 0), (12, 0), (13, 0), (14, 0), (15, 0), (16, 0), (17, 0)])]) Try.f54 false false = some F142 := by kernel_rfl
theorem link143 : compF Try.prog tau sig (find [(0, [1, 2, 4]), (1, [1, 2, 4, 13]), (2, [4, 5]), (3, [1, 2, 4, 6]), (4, [1, 2, 4, 6, 19]), (6, [1, 2, 4, 6, 32]), (7, [4, 5]), (5, [1, 2, 4, 6]), (8, [4, 5])]) (findO [(6, [(0, 0), (1, 0), (2, 0), (3, 0), (4, 0), (5, 0), (6, 0), (7, 0), (8, 0), (9, 0), (10, 0)])]) Try.f55 false false = some F143 := by kernel_rfl
theorem link144 : compF Try.prog tau sig (find [(0, [2, 3]), (1, [2, 3, 12]), (2, [4]), (3, [2, 3, 34]), (4, [4]), (5, [2, 3, 54]), (6, [4]), (7, [84]), (8, [4]), (9, [4])]) (findO []) Try.f56 false false = some F144 := by kernel_rfl
theorem link145 : compF Try.prog tau sig (find [(0, [0, 1, 2]), (1, [0, 1, 2, 7]), (2, [0, 1, 2, 7, 11]), (4, [0, 1, 2, 7, 29]), (5, [6]), (3, [0, 1, 2, 7]), (6, [6])]) (findO []) Try.f57 false false = some F145 := by kernel_rfl
theorem link146 : compF Try.prog tau sig (find [(0, [0, 3]), (1, [0, 3, 5]), (2, [0, 3, 5, 6]), (3, [0, 3, 5, 6, 18]), (5, [0, 3, 5, 6]), (4, [0, 3, 5, 6]), (6, [0, 5, 6]), (7, [4])]) (findO [(3, [(0, 0), (1, 0), (2, 0), (3, 0), (4, 0), (5, 0), (6, 0), (7, 0), (8, 0), (9, 0), (10, 0), (11, 0)])]) Try.f58 false false = some F146 := by kernel_rfl
theorem link21 : compF Try.prog tau sig (find [(0, [0]), (1, [0, 5]), (2, [2]), (3, [2])]) (findO []) Try.f59 false false = some F21 := by kernel_rfl
theorem link40 : compF Try.prog tau sig (find [(0, [0, 1]), (1, [4])]) (findO []) Try.f60 false false = some F40 := by kernel_rfl
theorem link41 : compF Try.prog tau sig (find [(0, [0]), (1, [2])]) (findO []) Try.f61 false false = some F41 := by kernel_rfl
theorem link42 : compF Try.prog tau sig (find [(0, [0, 1]), (1, [0, 1, 5]), (2, [0, 1, 5, 16]), (3, [4]), (4, [0, 5, 22]), (5, []), (6, [4]), (7, [0, 5, 28]), (8, []), (9, [4]), (10, [5, 6]), (11, [6, 7]), (12, [6, 7, 41, 42]), (13, [6, 7, 41, 42, 43]), (14, [6, 7, 8, 41, 42]), (15, [6, 7, 41, 42]), (16, [6, 7, 41, 42]), (17, [4])]) (findO []) Try.f62 false false = some F42 := by kernel_rfl
theorem link147 : compF Try.prog tau sig (find [(0, [0, 2]), (1, [0, 2, 3]), (2, [0, 2, 3, 13, 14]), (3, [0, 2, 3, 13, 14, 15]), (4, [0, 2, 3, 13, 14]), (5, [0, 2, 3, 13, 14]), (6, [2])]) (findO [(4, [(0, 0), (2, 0), (3, 0), (4, 0), (1, 2), (5, 0), (6, 0), (7, 0)])]) Try.f63 false false = some F147 := by kernel_rfl
theorem link23 : compF Try.prog tau sig (find [(0, [1]), (1, [1, 8]), (2, [2]), (3, [1, 3]), (4, [20]), (5, [2]), (6, [2])]) (findO []) Try.f64 false false = some F23 := by kernel_rfl
theorem link28 : compF Try.prog tau sig (find [(0, [0]), (1, [0, 5]), (2, [2]), (3, [2])]) (findO []) Try.f65 false false = some F28 := by kernel_rfl
theorem link29 : compF Try.prog tau sig (find [(0, [0, 1]), (1, [0, 1, 17]), (2, [0, 1]), (3, [4])]) (findO []) Try.f66 false false = some F29 := by kernel_rfl
theorem link31 : compF Try.prog tau sig (find [(0, [0]), (1, [2])]) (findO []) Try.f67 false false = some F31 := by kernel_rfl
theorem link32 : compF Try.prog tau sig (find [(0, [0, 1]), (1, [0, 1, 20]), (2, [0, 1]), (3, [0, 1, 5]), (4, [0, 5, 36]), (5, [0, 5]), (6, [0, 5, 50]), (7, [0, 5]), (8, [0, 5, 57]), (9, [4]), (10, [0, 5, 6]), (11, [0, 5, 6, 7]), (12, [0, 5, 6, 7, 62]), (14, [0, 5, 6, 7]), (13, [0, 5, 6, 7]), (15, [4])]) (findO []) Try.f68 false false = some F32 := by kernel_rfl
theorem link37 : compF Try.prog tau sig (find [(0, [0]), (1, [0, 8]), (2, [2]), (3, [0, 15]), (4, [2]), (5, [0, 3]), (6, [0, 3, 27]), (8, [0, 3, 43]), (9, [2]), (7, [0, 3]), (10, [2])]) (findO []) Try.f69 false false = some F37 := by kernel_rfl
theorem link148 : compF Try.prog tau sig (find [(0, [2, 3]), (1, [2, 3, 33]), (2, [4]), (3, [2, 3, 5]), (4, [2, 3, 5, 38]), (6, [2, 3, 5, 51]), (7, [4]), (5, [2, 3, 5]), (8, [4])]) (findO [(6, [(0, 0), (1, 0), (2, 0), (3, 0), (4, 0), (5, 0), (6, 0), (7, 0), (8, 0), (9, 0), (10, 0)])]) Try.f70 false false = some F148 := by kernel_rfl
theorem link149 : compF Try.prog tau sig (find [(0, [1]), (1, [2])]) (findO []) Try.f71 true true = some F149 := by kernel_rfl
theorem link150 : compF Try.prog tau sig (find [(0, [1]), (1, [1, 3, 4]), (2, [1, 3, 4, 5]), (3, [46]), (4, [2]), (5, [2])]) (findO []) Try.f72 true true = some F150 := by kernel_rfl
theorem link151 : compF Try.prog tau sig (find [(0, [1]), (1, [1, 3, 4, 5, 6]), (2, [1, 3, 4, 5, 50]), (3, [2]), (4, [1, 3, 4, 5, 51]), (5, [1, 3, 4, 5, 51]), (6, [1, 3, 4, 5, 51]), (7, [2]), (8, [1, 4, 5, 82]), (9, [1, 4, 5, 82]), (10, [1, 4, 82]), (11, [1, 82]), (12, [2]), (13, [125]), (14, [2]), (15, [2])]) (findO [(1, [(0, 0), (1, 0), (2, 0), (3, 0), (4, 0), (5, 0), (6, 0), (7, 0), (8, 0), (9, 0), (10, 0), (11, 0), (12, 0), (13, 0), (14, 0), (15, 0)])]) Try.f73 true true = some F151 := by kernel_rfl
theorem link152 : compF Try.prog tau sig (find [(0, [1]), (1, [2])]) (findO []) Try.f74 true true = some F152 := by kernel_rfl
theorem link50 : compF Try.prog tau sig (find [(1, [0, 1, 2, 3, 4, 15]), (2, [0, 2, 3, 4, 21]), (3, []), (4, [0, 3, 4, 27]), (5, []), (6, [0, 3, 4, 33]), (7, []), (0, [])]) (findO []) Try.f75 false false = some F50 := by kernel_rfl
theorem link49 : compF Try.prog tau sig (find [(0, [0]), (1, [2]), (2, [2])]) (findO []) Try.f76 true true = some F49 := by kernel_rfl
theorem link55 : compF Try.prog tau sig (find [(0, [0]), (1, [2])]) (findO []) Try.f77 true true = some F55 := by kernel_rfl
theorem link24 : compF Try.prog tau sig (find [(0, [0]), (1, [0, 4]), (2, [2]), (3, [2])]) (findO []) Try.f78 true true = some F24 := by kernel_rfl
theorem link56 : compF Try.prog tau sig (find [(0, [0, 2, 6]), (1, [0, 2, 6, 10]), (3, [0, 2, 6, 18]), (4, [0, 2, 6]), (5, [0, 2, 6]), (6, [0, 2, 6]), (2, [0, 2, 6])]) (findO [(5, [(0, 0), (1, 0), (2, 0), (3, 0), (4, 0), (5, 0), (6, 0), (7, 0), (8, 0), (9, 0), (10, 0), (11, 0), (12, 0), (13, 0), (14, 0), (15, 0), (16, 0), (17, 0), (18, 0), (19, 0), (20, 0), (21, 0), (22, 0), (23, 0), (24, 0), (25, 0)])]) Try.f79 false false = some F56 := by kernel_rfl
theorem link58 : compF Try.prog tau sig (find [(0, [0, 1]), (1, [0, 19]), (2, [0]), (3, [4])]) (findO []) Try.f80 false false = some F58 := by kernel_rfl
theorem link59 : compF Try.prog tau sig (find [(0, [0, 2, 6]), (1, [0, 2, 6, 10]), (3, [0, 2, 6]), (2, [0, 2, 6])]) (findO [(3, [(0, 0), (1, 0), (2, 0), (3, 0), (5, 0), (6, 0), (7, 0), (8, 0), (9, 0), (10, 0), (4, 1), (11, 0), (12, 0), (13, 0), (14, 0)])]) Try.f81 false false = some F59 := by kernel_rfl
theorem link54 : compF Try.prog tau sig (find [(0, [0]), (1, [0, 5]), (2, [2]), (3, [0, 3]), (4, [0, 3, 7]), (5, [0, 3]), (6, [0, 3]), (7, [2])]) (findO []) Try.f82 true true = some F54 := by kernel_rfl
theorem link153 : compF Try.prog tau sig (find [(0, [0]), (1, [0, 5, 6, 7]), (2, [0, 5, 6, 7, 8]), (3, [0, 3, 4, 5, 6, 7]), (4, [0, 5, 6, 7, 21]), (5, [2]), (6, [0, 5, 6, 7]), (7, [2])]) (findO []) Try.f83 false false = some F153 := by kernel_rfl
theorem link154 : compF Try.prog tau sig (find [(0, [0]), (1, [0, 3]), (2, [0, 3, 7]), (4, [0, 3, 25]), (5, [2]), (3, [0, 3]), (6, [2])]) (findO [(4, [(0, 0), (1, 0), (2, 0), (3, 0), (4, 0), (5, 0), (6, 0), (7, 0), (8, 0), (9, 0), (10, 0), (11, 0), (12, 0), (13, 0), (14, 0), (15, 0)])]) Try.f84 false false = some F154 := by kernel_rfl
theorem link155 : compF Try.prog tau sig (find [(0, [1]), (1, [1, 19]), (2, [2]), (3, [1, 23]), (4, [2]), (5, [1, 25, 26, 27]), (6, [1, 25, 26, 27, 28]), (7, [1, 3, 4, 25, 26, 27]), (8, [1, 3, 4, 5, 25, 26, 27]), (9, [1, 3, 4, 5, 25, 26, 27, 39]), (10, [2]), (11, [1, 25, 26, 27, 53]), (12, [2]), (13, [1, 25, 26, 27]), (14, [2])]) (findO [(11, [(0, 0), (1, 0), (2, 0), (3, 0), (4, 0), (5, 0), (6, 0), (7, 0), (8, 0), (9, 0), (10, 0), (11, 0), (12, 0)])]) Try.f85 false false = some F155 := by kernel_rfl
theorem link156 : compF Try.prog tau sig (find [(0, [0, 1]), (1, [0, 1, 5]), (2, [0, 5, 9, 10, 11]), (3, [0, 5, 9, 10, 11, 12]), (4, [0, 5, 7, 9, 10, 11]), (5, [0, 5, 7, 9, 10, 11, 23]), (6, [0, 5, 9, 10, 11, 27]), (7, [3, 4]), (8, [0, 5, 9, 10, 11]), (9, [0, 5, 9, 10, 11]), (10, [3, 4])]) (findO []) Try.f86 false false = some F156 := by kernel_rfl
theorem link157 : compF Try.prog tau sig (find [(0, [2, 3]), (1, [4])]) (findO []) Try.f87 true true = some F157 := by kernel_rfl
theorem link158 : compF Try.prog tau sig (find [(0, [0, 1, 2]), (1, [0, 1, 2, 8]), (2, [0, 1, 2, 8, 9, 10]), (3, [0, 1, 2, 8, 9, 10, 17]), (4, [0, 1, 2, 8, 9, 10, 11]), (5, [0, 1, 2, 8, 9, 10, 11, 31]), (6, [0, 1, 2, 8, 9, 10]), (7, [0, 1, 2, 8, 9, 10]), (8, [6, 7])]) (findO []) Try.f88 false false = some F158 := by kernel_rfl
theorem link159 : compF Try.prog tau sig (find [(0, [1, 2]), (1, [4])]) (findO []) Try.f89 true true = some F159 := by kernel_rfl
theorem link160 : compF Try.prog tau sig (find [(0, [0, 1]), (1, [0, 1, 5]), (2, [0, 1, 5, 6]), (3, [0, 1, 6, 11]), (4, [12]), (5, [4]), (6, [4]), (7, [0, 1, 13]), (8, [4]), (9, [0, 1, 16]), (10, [4]), (11, [19]), (12, [4]), (13, [4])]) (findO []) Try.f90 true true = some F160 := by kernel_rfl
theorem link51 : compF Try.prog tau sig (find [(0, [0, 1, 2]), (2, [0, 1, 2, 10]), (3, [0, 2, 16]), (4, []), (5, [0, 2, 21]), (6, []), (1, [6]), (7, [6])]) (findO []) Try.f91 false false = some F51 := by kernel_rfl
theorem link57 : compF Try.prog tau sig (find [(0, [0, 1, 8]), (1, [])]) (findO []) Try.f92 false false = some F57 := by kernel_rfl
theorem link33 : compF Try.prog tau sig (find [(0, [0]), (1, [0, 7]), (2, [2]), (3, [2])]) (findO [(3, [(0, 0), (1, 0), (2, 0), (3, 0), (4, 0), (5, 0), (6, 0), (7, 0), (8, 0), (9, 0), (10, 0), (11, 0)])]) Try.f93 false false = some F33 := by kernel_rfl
theorem link48 : compF Try.prog tau sig (find [(0, [0, 1]), (1, [0, 1, 5]), (2, [0, 5, 6, 7]), (3, [0, 5, 6, 7, 8]), (4, [0, 5, 6, 7]), (5, [0, 5, 6, 7]), (6, [0, 5, 6, 7]), (7, [4])]) (findO [(4, [(0, 0), (1, 0), (2, 0), (3, 0), (4, 0), (5, 0), (6, 0), (7, 0), (8, 0), (9, 0), (10, 0), (11, 0), (12, 0), (13, 0), (14, 0), (15, 0), (16, 0), (17, 0), (18, 0), (19, 0), (20, 0), (21, 0), (22, 0)])]) Try.f94 false false = some F48 := by kernel_rfl
theorem link47 : compF Try.prog tau sig (find [(0, [0]), (1, [0, 2]), (2, [1])]) (findO []) Try.f95 false false = some F47 := by kernel_rfl
theorem link52 : compF Try.prog tau sig (find [(0, [0]), (1, [0]), (2, [])]) (findO []) Try.f96 false false = some F52 := by kernel_rfl
theorem link53 : compF Try.prog tau sig (find [(0, [0, 1]), (1, [0, 1, 11]), (2, [4]), (3, [0, 1, 15]), (4, []), (5, [4]), (6, [0, 1, 5]), (7, [0, 1, 5, 6]), (8, [0, 1, 5, 6, 20]), (10, [0, 1, 5, 6]), (11, [0, 1, 5, 6]), (9, [0, 1, 5, 6]), (12, [4])]) (findO [(10, [(0, 0), (1, 0), (2, 0), (3, 0), (4, 0), (5, 0), (6, 0), (7, 0), (8, 0), (9, 0), (10, 0), (11, 0), (12, 0), (13, 0), (14, 0), (15, 0), (16, 0), (17, 0), (18, 0), (19, 0), (20, 0), (21, 0), (22, 0)])]) Try.f97 false false = some F53 := by kernel_rfl
theorem link34 : compF Try.prog tau sig (find [(0, [0]), (1, [2])]) (findO [(1, [(0, 0), (1, 0), (2, 0), (3, 0), (4, 0), (5, 0), (6, 0), (7, 0), (8, 0), (9, 0), (10, 0), (11, 0)])]) Try.f98 false false = some F34 := by kernel_rfl
theorem link161 : compF Try.prog tau sig (find [(0, [1, 2]), (1, [1, 2, 4, 5]), (2, [1, 2, 4, 5, 8]), (3, [1, 2, 4, 5, 8, 9]), (4, [2, 4, 5]), (5, [2, 4, 5]), (6, [1, 2, 4, 5, 8, 26]), (7, [2, 4, 5]), (8, [2, 4, 5]), (9, [1, 2, 4, 5, 8, 36]), (10, [2, 4, 5]), (11, [2, 4, 5]), (12, [1, 2, 4, 5, 60]), (13, [2, 4, 5]), (14, [2, 4, 5]), (15, [2, 3])]) (findO []) Try.f99 true true = some F161 := by kernel_rfl
theorem link162 : compF Try.prog tau sig (find [(0, [0, 1]), (1, [4])]) (findO []) Try.f100 true true = some F162 := by kernel_rfl
theorem link163 : compF Try.prog tau sig (find [(0, [0, 1]), (1, [4])]) (findO []) Try.f101 true true = some F163 := by kernel_rfl
theorem link60 : compF Try.prog tau sig (find [(0, [0, 2]), (1, [0, 2, 4]), (2, [0]), (3, [0, 2]), (4, [0, 2, 8]), (5, [0, 2]), (6, [0, 2]), (7, [2])]) (findO []) Try.f102 true true = some F60 := by kernel_rfl
theorem link61 : compF Try.prog tau sig (find [(0, [0, 2]), (1, [0, 2, 4]), (2, [0]), (3, [0, 2]), (4, [0, 2, 8]), (5, [0, 2]), (6, [0, 2]), (7, [0, 2, 14]), (8, [0, 2]), (9, [0, 2]), (10, [2])]) (findO []) Try.f103 true true = some F61 := by kernel_rfl
theorem link164 : compF Try.prog tau sig (find [(0, [0]), (1, [2])]) (findO []) Try.f104 true true = some F164 := by kernel_rfl
theorem link165 : compF Try.prog tau sig (find [(0, [0, 1]), (1, [4])]) (findO []) Try.f105 false false = some F165 := by kernel_rfl
theorem link166 : compF Try.prog tau sig (find [(0, [0]), (1, [2])]) (findO []) Try.f106 true true = some F166 := by kernel_rfl
theorem link167 : compF Try.prog tau sig (find [(0, [0, 1]), (1, [0, 1, 5]), (2, [0, 1, 5, 9]), (4, [0, 1, 5, 17]), (5, [4]), (3, [0, 1, 5]), (6, [4])]) (findO []) Try.f107 false false = some F167 := by kernel_rfl
theorem link168 : compF Try.prog tau sig (find [(0, [0]), (1, [2])]) (findO []) Try.f108 true true = some F168 := by kernel_rfl
theorem link169 : compF Try.prog tau sig (find [(0, [1, 2, 3]), (1, [1, 2, 3, 7]), (2, [1, 2, 3, 7, 8]), (3, [1, 2, 3, 7, 8, 15]), (4, [6]), (5, [1, 2, 3, 7, 8, 27]), (6, [1, 2, 3, 7, 8, 27]), (7, [6]), (8, [1, 3, 7, 8, 45]), (9, [1, 3, 7, 8, 45]), (10, [3, 8, 45]), (11, [45]), (12, [6]), (13, [6])]) (findO []) Try.f109 true true = some F169 := by kernel_rfl
theorem link170 : compF Try.prog tau sig (find [(0, [2, 3]), (1, [4])]) (findO [(1, [(0, 0), (1, 0), (2, 0), (3, 0), (4, 0), (5, 0), (6, 1), (7, 0), (8, 1), (9, 0), (10, 0), (11, 0), (12, 0)])]) Try.f110 true true = some F170 := by kernel_rfl
theorem link171 : compF Try.prog tau sig (find [(0, [0]), (1, [2])]) (findO []) Try.f111 true true = some F171 := by kernel_rfl
theorem link172 : compF Try.prog tau sig (find [(0, [1]), (1, [2])]) (findO []) Try.f112 true true = some F172 := by kernel_rfl
theorem link173 : compF Try.prog tau sig (find [(0, [0]), (1, [2])]) (findO []) Try.f113 true true = some F173 := by kernel_rfl
theorem link174 : compF Try.prog tau sig (find [(0, [0, 1]), (1, [0, 1, 7, 8]), (2, [0, 1, 7, 8, 9]), (3, [0, 1, 5, 7, 8]), (4, [0, 1, 5, 7, 8, 16]), (5, [4]), (6, [0, 1, 7, 8]), (7, [4])]) (findO []) Try.f114 false false = some F174 := by kernel_rfl
theorem link175 : compF Try.prog tau sig (find [(0, [0]), (1, [0, 3]), (2, [3, 6, 7, 8]), (3, [3, 6, 7, 8, 9]), (4, [3, 5, 6, 7, 8]), (5, [3, 5, 6, 7, 8, 14]), (6, [2]), (7, [3, 6, 7, 8]), (8, [2])]) (findO []) Try.f115 false false = some F175 := by kernel_rfl

theorem at101 : Try.prog.funcs[sig 101]? = some Try.f3 := by kernel_rfl
theorem at102 : Try.prog.funcs[sig 102]? = some Try.f4 := by kernel_rfl
theorem at105 : Try.prog.funcs[sig 105]? = some Try.f7 := by kernel_rfl
theorem at106 : Try.prog.funcs[sig 106]? = some Try.f8 := by kernel_rfl
theorem at107 : Try.prog.funcs[sig 107]? = some Try.f9 := by kernel_rfl
theorem at108 : Try.prog.funcs[sig 108]? = some Try.f10 := by kernel_rfl
theorem at109 : Try.prog.funcs[sig 109]? = some Try.f11 := by kernel_rfl
theorem at110 : Try.prog.funcs[sig 110]? = some Try.f12 := by kernel_rfl
theorem at111 : Try.prog.funcs[sig 111]? = some Try.f13 := by kernel_rfl
theorem at112 : Try.prog.funcs[sig 112]? = some Try.f14 := by kernel_rfl
theorem at113 : Try.prog.funcs[sig 113]? = some Try.f15 := by kernel_rfl
theorem at114 : Try.prog.funcs[sig 114]? = some Try.f16 := by kernel_rfl
theorem at115 : Try.prog.funcs[sig 115]? = some Try.f17 := by kernel_rfl
theorem at116 : Try.prog.funcs[sig 116]? = some Try.f18 := by kernel_rfl
theorem at117 : Try.prog.funcs[sig 117]? = some Try.f19 := by kernel_rfl
theorem at118 : Try.prog.funcs[sig 118]? = some Try.f20 := by kernel_rfl
theorem at119 : Try.prog.funcs[sig 119]? = some Try.f21 := by kernel_rfl
theorem at120 : Try.prog.funcs[sig 120]? = some Try.f22 := by kernel_rfl
theorem at121 : Try.prog.funcs[sig 121]? = some Try.f23 := by kernel_rfl
theorem at122 : Try.prog.funcs[sig 122]? = some Try.f24 := by kernel_rfl
theorem at123 : Try.prog.funcs[sig 123]? = some Try.f25 := by kernel_rfl
theorem at124 : Try.prog.funcs[sig 124]? = some Try.f26 := by kernel_rfl
theorem at125 : Try.prog.funcs[sig 125]? = some Try.f27 := by kernel_rfl
theorem at126 : Try.prog.funcs[sig 126]? = some Try.f28 := by kernel_rfl
theorem at127 : Try.prog.funcs[sig 127]? = some Try.f29 := by kernel_rfl
theorem at128 : Try.prog.funcs[sig 128]? = some Try.f30 := by kernel_rfl
theorem at129 : Try.prog.funcs[sig 129]? = some Try.f31 := by kernel_rfl
theorem at130 : Try.prog.funcs[sig 130]? = some Try.f32 := by kernel_rfl
theorem at131 : Try.prog.funcs[sig 131]? = some Try.f33 := by kernel_rfl
theorem at132 : Try.prog.funcs[sig 132]? = some Try.f34 := by kernel_rfl
theorem at133 : Try.prog.funcs[sig 133]? = some Try.f35 := by kernel_rfl
theorem at13 : Try.prog.funcs[sig 13]? = some Try.f36 := by kernel_rfl
theorem at25 : Try.prog.funcs[sig 25]? = some Try.f37 := by kernel_rfl
theorem at39 : Try.prog.funcs[sig 39]? = some Try.f38 := by kernel_rfl
theorem at38 : Try.prog.funcs[sig 38]? = some Try.f39 := by kernel_rfl
theorem at134 : Try.prog.funcs[sig 134]? = some Try.f40 := by kernel_rfl
theorem at17 : Try.prog.funcs[sig 17]? = some Try.f41 := by kernel_rfl
theorem at14 : Try.prog.funcs[sig 14]? = some Try.f42 := by kernel_rfl
theorem at43 : Try.prog.funcs[sig 43]? = some Try.f43 := by kernel_rfl
theorem at45 : Try.prog.funcs[sig 45]? = some Try.f44 := by kernel_rfl
theorem at46 : Try.prog.funcs[sig 46]? = some Try.f45 := by kernel_rfl
theorem at135 : Try.prog.funcs[sig 135]? = some Try.f46 := by kernel_rfl
theorem at18 : Try.prog.funcs[sig 18]? = some Try.f47 := by kernel_rfl
theorem at136 : Try.prog.funcs[sig 136]? = some Try.f48 := by kernel_rfl
theorem at137 : Try.prog.funcs[sig 137]? = some Try.f49 := by kernel_rfl
theorem at138 : Try.prog.funcs[sig 138]? = some Try.f50 := by kernel_rfl
theorem at139 : Try.prog.funcs[sig 139]? = some Try.f51 := by kernel_rfl
theorem at140 : Try.prog.funcs[sig 140]? = some Try.f52 := by kernel_rfl
theorem at141 : Try.prog.funcs[sig 141]? = some Try.f53 := by kernel_rfl
theorem at142 : Try.prog.funcs[sig 142]? = some Try.f54 := by kernel_rfl
theorem at143 : Try.prog.funcs[sig 143]? = some Try.f55 := by kernel_rfl
theorem at144 : Try.prog.funcs[sig 144]? = some Try.f56 := by kernel_rfl
theorem at145 : Try.prog.funcs[sig 145]? = some Try.f57 := by kernel_rfl
theorem at146 : Try.prog.funcs[sig 146]? = some Try.f58 := by kernel_rfl
theorem at21 : Try.prog.funcs[sig 21]? = some Try.f59 := by kernel_rfl
theorem at40 : Try.prog.funcs[sig 40]? = some Try.f60 := by kernel_rfl
theorem at41 : Try.prog.funcs[sig 41]? = some Try.f61 := by kernel_rfl
theorem at42 : Try.prog.funcs[sig 42]? = some Try.f62 := by kernel_rfl
theorem at147 : Try.prog.funcs[sig 147]? = some Try.f63 := by kernel_rfl
theorem at23 : Try.prog.funcs[sig 23]? = some Try.f64 := by kernel_rfl
theorem at28 : Try.prog.funcs[sig 28]? = some Try.f65 := by kernel_rfl
theorem at29 : Try.prog.funcs[sig 29]? = some Try.f66 := by kernel_rfl
theorem at31 : Try.prog.funcs[sig 31]? = some Try.f67 := by kernel_rfl
theorem at32 : Try.prog.funcs[sig 32]? = some Try.f68 := by kernel_rfl
theorem at37 : Try.prog.funcs[sig 37]? = some Try.f69 := by kernel_rfl
theorem at148 : Try.prog.funcs[sig 148]? = some Try.f70 := by kernel_rfl
theorem at149 : Try.prog.funcs[sig 149]? = some Try.f71 := by kernel_rfl
theorem at150 : Try.prog.funcs[sig 150]? = some Try.f72 := by kernel_rfl
theorem at151 : Try.prog.funcs[sig 151]? = some Try.f73 := by kernel_rfl
theorem at152 : Try.prog.funcs[sig 152]? = some Try.f74 := by kernel_rfl
theorem at50 : Try.prog.funcs[sig 50]? = some Try.f75 := by kernel_rfl
theorem at49 : Try.prog.funcs[sig 49]? = some Try.f76 := by kernel_rfl
theorem at55 : Try.prog.funcs[sig 55]? = some Try.f77 := by kernel_rfl
theorem at24 : Try.prog.funcs[sig 24]? = some Try.f78 := by kernel_rfl
theorem at56 : Try.prog.funcs[sig 56]? = some Try.f79 := by kernel_rfl
theorem at58 : Try.prog.funcs[sig 58]? = some Try.f80 := by kernel_rfl
theorem at59 : Try.prog.funcs[sig 59]? = some Try.f81 := by kernel_rfl
theorem at54 : Try.prog.funcs[sig 54]? = some Try.f82 := by kernel_rfl
theorem at153 : Try.prog.funcs[sig 153]? = some Try.f83 := by kernel_rfl
theorem at154 : Try.prog.funcs[sig 154]? = some Try.f84 := by kernel_rfl
theorem at155 : Try.prog.funcs[sig 155]? = some Try.f85 := by kernel_rfl
theorem at156 : Try.prog.funcs[sig 156]? = some Try.f86 := by kernel_rfl
theorem at157 : Try.prog.funcs[sig 157]? = some Try.f87 := by kernel_rfl
theorem at158 : Try.prog.funcs[sig 158]? = some Try.f88 := by kernel_rfl
theorem at159 : Try.prog.funcs[sig 159]? = some Try.f89 := by kernel_rfl
theorem at160 : Try.prog.funcs[sig 160]? = some Try.f90 := by kernel_rfl
theorem at51 : Try.prog.funcs[sig 51]? = some Try.f91 := by kernel_rfl
theorem at57 : Try.prog.funcs[sig 57]? = some Try.f92 := by kernel_rfl
theorem at33 : Try.prog.funcs[sig 33]? = some Try.f93 := by kernel_rfl
theorem at48 : Try.prog.funcs[sig 48]? = some Try.f94 := by kernel_rfl
theorem at47 : Try.prog.funcs[sig 47]? = some Try.f95 := by kernel_rfl
theorem at52 : Try.prog.funcs[sig 52]? = some Try.f96 := by kernel_rfl
theorem at53 : Try.prog.funcs[sig 53]? = some Try.f97 := by kernel_rfl
theorem at34 : Try.prog.funcs[sig 34]? = some Try.f98 := by kernel_rfl
theorem at161 : Try.prog.funcs[sig 161]? = some Try.f99 := by kernel_rfl
theorem at162 : Try.prog.funcs[sig 162]? = some Try.f100 := by kernel_rfl
theorem at163 : Try.prog.funcs[sig 163]? = some Try.f101 := by kernel_rfl
theorem at60 : Try.prog.funcs[sig 60]? = some Try.f102 := by kernel_rfl
theorem at61 : Try.prog.funcs[sig 61]? = some Try.f103 := by kernel_rfl
theorem at164 : Try.prog.funcs[sig 164]? = some Try.f104 := by kernel_rfl
theorem at165 : Try.prog.funcs[sig 165]? = some Try.f105 := by kernel_rfl
theorem at166 : Try.prog.funcs[sig 166]? = some Try.f106 := by kernel_rfl
theorem at167 : Try.prog.funcs[sig 167]? = some Try.f107 := by kernel_rfl
theorem at168 : Try.prog.funcs[sig 168]? = some Try.f108 := by kernel_rfl
theorem at169 : Try.prog.funcs[sig 169]? = some Try.f109 := by kernel_rfl
theorem at170 : Try.prog.funcs[sig 170]? = some Try.f110 := by kernel_rfl
theorem at171 : Try.prog.funcs[sig 171]? = some Try.f111 := by kernel_rfl
theorem at172 : Try.prog.funcs[sig 172]? = some Try.f112 := by kernel_rfl
theorem at173 : Try.prog.funcs[sig 173]? = some Try.f113 := by kernel_rfl
theorem at174 : Try.prog.funcs[sig 174]? = some Try.f114 := by kernel_rfl
theorem at175 : Try.prog.funcs[sig 175]? = some Try.f115 := by kernel_rfl

theorem linked : Linked Try.prog sig tbl := by
  intro i F h
  simp only [tbl, tblL, look] at h
  by_cases h101 : 101 = i
  · rw [if_pos h101] at h; injection h with h; subst h101; subst h; exact ⟨_, _, _, _, at101, link101⟩
  rw [if_neg h101] at h
  by_cases h102 : 102 = i
  · rw [if_pos h102] at h; injection h with h; subst h102; subst h; exact ⟨_, _, _, _, at102, link102⟩
  rw [if_neg h102] at h
  by_cases h105 : 105 = i
  · rw [if_pos h105] at h; injection h with h; subst h105; subst h; exact ⟨_, _, _, _, at105, link105⟩
  rw [if_neg h105] at h
  by_cases h106 : 106 = i
  · rw [if_pos h106] at h; injection h with h; subst h106; subst h; exact ⟨_, _, _, _, at106, link106⟩
  rw [if_neg h106] at h
  by_cases h107 : 107 = i
  · rw [if_pos h107] at h; injection h with h; subst h107; subst h; exact ⟨_, _, _, _, at107, link107⟩
  rw [if_neg h107] at h
  by_cases h108 : 108 = i
  · rw [if_pos h108] at h; injection h with h; subst h108; subst h; exact ⟨_, _, _, _, at108, link108⟩
  rw [if_neg h108] at h
  by_cases h109 : 109 = i
  · rw [if_pos h109] at h; injection h with h; subst h109; subst h; exact ⟨_, _, _, _, at109, link109⟩
  rw [if_neg h109] at h
  by_cases h110 : 110 = i
  · rw [if_pos h110] at h; injection h with h; subst h110; subst h; exact ⟨_, _, _, _, at110, link110⟩
  rw [if_neg h110] at h
  by_cases h111 : 111 = i
  · rw [if_pos h111] at h; injection h with h; subst h111; subst h; exact ⟨_, _, _, _, at111, link111⟩
  rw [if_neg h111] at h
  by_cases h112 : 112 = i
  · rw [if_pos h112] at h; injection h with h; subst h112; subst h; exact ⟨_, _, _, _, at112, link112⟩
  rw [if_neg h112] at h
  by_cases h113 : 113 = i
  · rw [if_pos h113] at h; injection h with h; subst h113; subst h; exact ⟨_, _, _, _, at113, link113⟩
  rw [if_neg h113] at h
  by_cases h114 : 114 = i
  · rw [if_pos h114] at h; injection h with h; subst h114; subst h; exact ⟨_, _, _, _, at114, link114⟩
  rw [if_neg h114] at h
  by_cases h115 : 115 = i
  · rw [if_pos h115] at h; injection h with h; subst h115; subst h; exact ⟨_, _, _, _, at115, link115⟩
  rw [if_neg h115] at h
  by_cases h116 : 116 = i
  · rw [if_pos h116] at h; injection h with h; subst h116; subst h; exact ⟨_, _, _, _, at116, link116⟩
  rw [if_neg h116] at h
  by_cases h117 : 117 = i
  · rw [if_pos h117] at h; injection h with h; subst h117; subst h; exact ⟨_, _, _, _, at117, link117⟩
  rw [if_neg h117] at h
  by_cases h118 : 118 = i
  · rw [if_pos h118] at h; injection h with h; subst h118; subst h; exact ⟨_, _, _, _, at118, link118⟩
  rw [if_neg h118] at h
  by_cases h119 : 119 = i
  · rw [if_pos h119] at h; injection h with h; subst h119; subst h; exact ⟨_, _, _, _, at119, link119⟩
  rw [if_neg h119] at h
  by_cases h120 : 120 = i
  · rw [if_pos h120] at h; injection h with h; subst h120; subst h; exact ⟨_, _, _, _, at120, link120⟩
  rw [if_neg h120] at h
  by_cases h121 : 121 = i
  · rw [if_pos h121] at h; injection h with h; subst h121; subst h; exact ⟨_, _, _, _, at121, link121⟩
  rw [if_neg h121] at h
  by_cases h122 : 122 = i
  · rw [if_pos h122] at h; injection h with h; subst h122; subst h; exact ⟨_, _, _, _, at122, link122⟩
  rw [if_neg h122] at h
  by_cases h123 : 123 = i
  · rw [if_pos h123] at h; injection h with h; subst h123; subst h; exact ⟨_, _, _, _, at123, link123⟩
  rw [if_neg h123] at h
  by_cases h124 : 124 = i
  · rw [if_pos h124] at h; injection h with h; subst h124; subst h; exact ⟨_, _, _, _, at124, link124⟩
  rw [if_neg h124] at h
  by_cases h125 : 125 = i
  · rw [if_pos h125] at h; injection h with h; subst h125; subst h; exact ⟨_, _, _, _, at125, link125⟩
  rw [if_neg h125] at h
  by_cases h126 : 126 = i
  · rw [if_pos h126] at h; injection h with h; subst h126; subst h; exact ⟨_, _, _, _, at126, link126⟩
  rw [if_neg h126] at h
  by_cases h127 : 127 = i
  · rw [if_pos h127] at h; injection h with h; subst h127; subst h; exact ⟨_, _, _, _, at127, link127⟩
  rw [if_neg h127] at h
  by_cases h128 : 128 = i
  · rw [if_pos h128] at h; injection h with h; subst h128; subst h; exact ⟨_, _, _, _, at128, link128⟩
  rw [if_neg h128] at h
  by_cases h129 : 129 = i
  · rw [if_pos h129] at h; injection h with h; subst h129; subst h; exact ⟨_, _, _, _, at129, link129⟩
  rw [if_neg h129] at h
  by_cases h130 : 130 = i
  · rw [if_pos h130] at h; injection h with h; subst h130; subst h; exact ⟨_, _, _, _, at130, link130⟩
  rw [if_neg h130] at h
  by_cases h131 : 131 = i
  · rw [if_pos h131] at h; injection h with h; subst h131; subst h; exact ⟨_, _, _, _, at131, link131⟩
  rw [if_neg h131] at h
  by_cases h132 : 132 = i
  · rw [if_pos h132] at h; injection h with h; subst h132; subst h; exact ⟨_, _, _, _, at132, link132⟩
  rw [if_neg h132] at h
  by_cases h133 : 133 = i
  · rw [if_pos h133] at h; injection h with h; subst h133; subst h; exact ⟨_, _, _, _, at133, link133⟩
  rw [if_neg h133] at h
  by_cases h13 : 13 = i
  · rw [if_pos h13] at h; injection h with h; subst h13; subst h; exact ⟨_, _, _, _, at13, link13⟩
  rw [if_neg h13] at h
  by_cases h25 : 25 = i
  · rw [if_pos h25] at h; injection h with h; subst h25; subst h; exact ⟨_, _, _, _, at25, link25⟩
  rw [if_neg h25] at h
  by_cases h39 : 39 = i
  · rw [if_pos h39] at h; injection h with h; subst h39; subst h; exact ⟨_, _, _, _, at39, link39⟩
  rw [if_neg h39] at h
  by_cases h38 : 38 = i
  · rw [if_pos h38] at h; injection h with h; subst h38; subst h; exact ⟨_, _, _, _, at38, link38⟩
  rw [if_neg h38] at h
  by_cases h134 : 134 = i
  · rw [if_pos h134] at h; injection h with h; subst h134; subst h; exact ⟨_, _, _, _, at134, link134⟩
  rw [if_neg h134] at h
  by_cases h17 : 17 = i
  · rw [if_pos h17] at h; injection h with h; subst h17; subst h; exact ⟨_, _, _, _, at17, link17⟩
  rw [if_neg h17] at h
  by_cases h14 : 14 = i
  · rw [if_pos h14] at h; injection h with h; subst h14; subst h; exact ⟨_, _, _, _, at14, link14⟩
  rw [if_neg h14] at h
  by_cases h43 : 43 = i
  · rw [if_pos h43] at h; injection h with h; subst h43; subst h; exact ⟨_, _, _, _, at43, link43⟩
  rw [if_neg h43] at h
  by_cases h45 : 45 = i
  · rw [if_pos h45] at h; injection h with h; subst h45; subst h; exact ⟨_, _, _, _, at45, link45⟩
  rw [if_neg h45] at h
  by_cases h46 : 46 = i
  · rw [if_pos h46] at h; injection h with h; subst h46; subst h; exact ⟨_, _, _, _, at46, link46⟩
  rw [if_neg h46] at h
  by_cases h135 : 135 = i
  · rw [if_pos h135] at h; injection h with h; subst h135; subst h; exact ⟨_, _, _, _, at135, link135⟩
  rw [if_neg h135] at h
  by_cases h18 : 18 = i
  · rw [if_pos h18] at h; injection h with h; subst h18; subst h; exact ⟨_, _, _, _, at18, link18⟩
  rw [if_neg h18] at h
  by_cases h136 : 136 = i
  · rw [if_pos h136] at h; injection h with h; subst h136; subst h; exact ⟨_, _, _, _, at136, link136⟩
  rw [if_neg h136] at h
  by_cases h137 : 137 = i
  · rw [if_pos h137] at h; injection h with h; subst h137; subst h; exact ⟨_, _, _, _, at137, link137⟩
  rw [if_neg h137] at h
  by_cases h138 : 138 = i
  · rw [if_pos h138] at h; injection h with h; subst h138; subst h; exact ⟨_, _, _, _, at138, link138⟩
  rw [if_neg h138] at h
  by_cases h139 : 139 = i
  · rw [if_pos h139] at h; injection h with h; subst h139; subst h; exact ⟨_, _, _, _, at139, link139⟩
  rw [if_neg h139] at h
  by_cases h140 : 140 = i
  · rw [if_pos h140] at h; injection h with h; subst h140; subst h; exact ⟨_, _, _, _, at140, link140⟩
  rw [if_neg h140] at h
  by_cases h141 : 141 = i
  · rw [if_pos h141] at h; injection h with h; subst h141; subst h; exact ⟨_, _, _, _, at141, link141⟩
  rw [if_neg h141] at h
  by_cases h142 : 142 = i
  · rw [if_pos h142] at h; injection h with h; subst h142; subst h; exact ⟨_, _, _, _, at142, link142⟩
  rw [if_neg h142] at h
  by_cases h143 : 143 = i
  · rw [if_pos h143] at h; injection h with h; subst h143; subst h; exact ⟨_, _, _, _, at143, link143⟩
  rw [if_neg h143] at h
  by_cases h144 : 144 = i
  · rw [if_pos h144] at h; injection h with h; subst h144; subst h; exact ⟨_, _, _, _, at144, link144⟩
  rw [if_neg h144] at h
  by_cases h145 : 145 = i
  · rw [if_pos h145] at h; injection h with h; subst h145; subst h; exact ⟨_, _, _, _, at145, link145⟩
  rw [if_neg h145] at h
  by_cases h146 : 146 = i
  · rw [if_pos h146] at h; injection h with h; subst h146; subst h; exact ⟨_, _, _, _, at146, link146⟩
  rw [if_neg h146] at h
  by_cases h21 : 21 = i
  · rw [if_pos h21] at h; injection h with h; subst h21; subst h; exact ⟨_, _, _, _, at21, link21⟩
  rw [if_neg h21] at h
  by_cases h40 : 40 = i
  · rw [if_pos h40] at h; injection h with h; subst h40; subst h; exact ⟨_, _, _, _, at40, link40⟩
  rw [if_neg h40] at h
  by_cases h41 : 41 = i
  · rw [if_pos h41] at h; injection h with h; subst h41; subst h; exact ⟨_, _, _, _, at41, link41⟩
  rw [if_neg h41] at h
  by_cases h42 : 42 = i
  · rw [if_pos h42] at h; injection h with h; subst h42; subst h; exact ⟨_, _, _, _, at42, link42⟩
  rw [if_neg h42] at h
  by_cases h147 : 147 = i
  · rw [if_pos h147] at h; injection h with h; subst h147; subst h; exact ⟨_, _, _, _, at147, link147⟩
  rw [if_neg h147] at h
  by_cases h23 : 23 = i
  · rw [if_pos h23] at h; injection h with h; subst h23; subst h; exact ⟨_, _, _, _, at23, link23⟩
  rw [if_neg h23] at h
  by_cases h28 : 28 = i
  · rw [if_pos h28] at h; injection h with h; subst h28; subst h; exact ⟨_, _, _, _, at28, link28⟩
  rw [if_neg h28] at h
  by_cases h29 : 29 = i
  · rw [if_pos h29] at h; injection h with h; subst h29; subst h; exact ⟨_, _, _, _, at29, link29⟩
  rw [if_neg h29] at h
  by_cases h31 : 31 = i
  · rw [if_pos h31] at h; injection h with h; subst h31; subst h; exact ⟨_, _, _, _, at31, link31⟩
  rw [if_neg h31] at h
  by_cases h32 : 32 = i
  · rw [if_pos h32] at h; injection h with h; subst h32; subst h; exact ⟨_, _, _, _, at32, link32⟩
  rw [if_neg h32] at h
  by_cases h37 : 37 = i
  · rw [if_pos h37] at h; injection h with h; subst h37; subst h; exact ⟨_, _, _, _, at37, link37⟩
  rw [if_neg h37] at h
  by_cases h148 : 148 = i
  · rw [if_pos h148] at h; injection h with h; subst h148; subst h; exact ⟨_, _, _, _, at148, link148⟩
  rw [if_neg h148] at h
  by_cases h149 : 149 = i
  · rw [if_pos h149] at h; injection h with h; subst h149; subst h; exact ⟨_, _, _, _, at149, link149⟩
  rw [if_neg h149] at h
  by_cases h150 : 150 = i
  · rw [if_pos h150] at h; injection h with h; subst h150; subst h; exact ⟨_, _, _, _, at150, link150⟩
  rw [if_neg h150] at h
  by_cases h151 : 151 = i
  · rw [if_pos h151] at h; injection h with h; subst h151; subst h; exact ⟨_, _, _, _, at151, link151⟩
  rw [if_neg h151] at h
  by_cases h152 : 152 = i
  · rw [if_pos h152] at h; injection h with h; subst h152; subst h; exact ⟨_, _, _, _, at152, link152⟩
  rw [if_neg h152] at h
  by_cases h50 : 50 = i
  · rw [if_pos h50] at h; injection h with h; subst h50; subst h; exact ⟨_, _, _, _, at50, link50⟩
  rw [if_neg h50] at h
  by_cases h49 : 49 = i
  · rw [if_pos h49] at h; injection h with h; subst h49; subst h; exact ⟨_, _, _, _, at49, link49⟩
  rw [if_neg h49] at h
  by_cases h55 : 55 = i
  · rw [if_pos h55] at h; injection h with h; subst h55; subst h; exact ⟨_, _, _, _, at55, link55⟩
  rw [if_neg h55] at h
  by_cases h24 : 24 = i
  · rw [if_pos h24] at h; injection h with h; subst h24; subst h; exact ⟨_, _, _, _, at24, link24⟩
  rw [if_neg h24] at h
  by_cases h56 : 56 = i
  · rw [if_pos h56] at h; injection h with h; subst h56; subst h; exact ⟨_, _, _, _, at56, link56⟩
  rw [if_neg h56] at h
  by_cases h58 : 58 = i
  · rw [if_pos h58] at h; injection h with h; subst h58; subst h; exact ⟨_, _, _, _, at58, link58⟩
  rw [if_neg h58] at h
  by_cases h59 : 59 = i
  · rw [if_pos h59] at h; injection h with h; subst h59; subst h; exact ⟨_, _, _, _, at59, link59⟩
  rw [if_neg h59] at h
  by_cases h54 : 54 = i
  · rw [if_pos h54] at h; injection h with h; subst h54; subst h; exact ⟨_, _, _, _, at54, link54⟩
  rw [if_neg h54] at h
  by_cases h153 : 153 = i
  · rw [if_pos h153] at h; injection h with h; subst h153; subst h; exact ⟨_, _, _, _, at153, link153⟩
  rw [if_neg h153] at h
  by_cases h154 : 154 = i
  · rw [if_pos h154] at h; injection h with h; subst h154; subst h; exact ⟨_, _, _, _, at154, link154⟩
  rw [if_neg h154] at h
  by_cases h155 : 155 = i
  · rw [if_pos h155] at h; injection h with h; subst h155; subst h; exact ⟨_, _, _, _, at155, link155⟩
  rw [if_neg h155] at h
  by_cases h156 : 156 = i
  · rw [if_pos h156] at h; injection h with h; subst h156; subst h; exact ⟨_, _, _, _, at156, link156⟩
  rw [if_neg h156] at h
  by_cases h157 : 157 = i
  · rw [if_pos h157] at h; injection h with h; subst h157; subst h; exact ⟨_, _, _, _, at157, link157⟩
  rw [if_neg h157] at h
  by_cases h158 : 158 = i
  · rw [if_pos h158] at h; injection h with h; subst h158; subst h; exact ⟨_, _, _, _, at158, link158⟩
  rw [if_neg h158] at h
  by_cases h159 : 159 = i
  · rw [if_pos h159] at h; injection h with h; subst h159; subst h; exact ⟨_, _, _, _, at159, link159⟩
  rw [if_neg h159] at h
  by_cases h160 : 160 = i
  · rw [if_pos h160] at h; injection h with h; subst h160; subst h; exact ⟨_, _, _, _, at160, link160⟩
  rw [if_neg h160] at h
  by_cases h51 : 51 = i
  · rw [if_pos h51] at h; injection h with h; subst h51; subst h; exact ⟨_, _, _, _, at51, link51⟩
  rw [if_neg h51] at h
  by_cases h57 : 57 = i
  · rw [if_pos h57] at h; injection h with h; subst h57; subst h; exact ⟨_, _, _, _, at57, link57⟩
  rw [if_neg h57] at h
  by_cases h33 : 33 = i
  · rw [if_pos h33] at h; injection h with h; subst h33; subst h; exact ⟨_, _, _, _, at33, link33⟩
  rw [if_neg h33] at h
  by_cases h48 : 48 = i
  · rw [if_pos h48] at h; injection h with h; subst h48; subst h; exact ⟨_, _, _, _, at48, link48⟩
  rw [if_neg h48] at h
  by_cases h47 : 47 = i
  · rw [if_pos h47] at h; injection h with h; subst h47; subst h; exact ⟨_, _, _, _, at47, link47⟩
  rw [if_neg h47] at h
  by_cases h52 : 52 = i
  · rw [if_pos h52] at h; injection h with h; subst h52; subst h; exact ⟨_, _, _, _, at52, link52⟩
  rw [if_neg h52] at h
  by_cases h53 : 53 = i
  · rw [if_pos h53] at h; injection h with h; subst h53; subst h; exact ⟨_, _, _, _, at53, link53⟩
  rw [if_neg h53] at h
  by_cases h34 : 34 = i
  · rw [if_pos h34] at h; injection h with h; subst h34; subst h; exact ⟨_, _, _, _, at34, link34⟩
  rw [if_neg h34] at h
  by_cases h161 : 161 = i
  · rw [if_pos h161] at h; injection h with h; subst h161; subst h; exact ⟨_, _, _, _, at161, link161⟩
  rw [if_neg h161] at h
  by_cases h162 : 162 = i
  · rw [if_pos h162] at h; injection h with h; subst h162; subst h; exact ⟨_, _, _, _, at162, link162⟩
  rw [if_neg h162] at h
  by_cases h163 : 163 = i
  · rw [if_pos h163] at h; injection h with h; subst h163; subst h; exact ⟨_, _, _, _, at163, link163⟩
  rw [if_neg h163] at h
  by_cases h60 : 60 = i
  · rw [if_pos h60] at h; injection h with h; subst h60; subst h; exact ⟨_, _, _, _, at60, link60⟩
  rw [if_neg h60] at h
  by_cases h61 : 61 = i
  · rw [if_pos h61] at h; injection h with h; subst h61; subst h; exact ⟨_, _, _, _, at61, link61⟩
  rw [if_neg h61] at h
  by_cases h164 : 164 = i
  · rw [if_pos h164] at h; injection h with h; subst h164; subst h; exact ⟨_, _, _, _, at164, link164⟩
  rw [if_neg h164] at h
  by_cases h165 : 165 = i
  · rw [if_pos h165] at h; injection h with h; subst h165; subst h; exact ⟨_, _, _, _, at165, link165⟩
  rw [if_neg h165] at h
  by_cases h166 : 166 = i
  · rw [if_pos h166] at h; injection h with h; subst h166; subst h; exact ⟨_, _, _, _, at166, link166⟩
  rw [if_neg h166] at h
  by_cases h167 : 167 = i
  · rw [if_pos h167] at h; injection h with h; subst h167; subst h; exact ⟨_, _, _, _, at167, link167⟩
  rw [if_neg h167] at h
  by_cases h168 : 168 = i
  · rw [if_pos h168] at h; injection h with h; subst h168; subst h; exact ⟨_, _, _, _, at168, link168⟩
  rw [if_neg h168] at h
  by_cases h169 : 169 = i
  · rw [if_pos h169] at h; injection h with h; subst h169; subst h; exact ⟨_, _, _, _, at169, link169⟩
  rw [if_neg h169] at h
  by_cases h170 : 170 = i
  · rw [if_pos h170] at h; injection h with h; subst h170; subst h; exact ⟨_, _, _, _, at170, link170⟩
  rw [if_neg h170] at h
  by_cases h171 : 171 = i
  · rw [if_pos h171] at h; injection h with h; subst h171; subst h; exact ⟨_, _, _, _, at171, link171⟩
  rw [if_neg h171] at h
  by_cases h172 : 172 = i
  · rw [if_pos h172] at h; injection h with h; subst h172; subst h; exact ⟨_, _, _, _, at172, link172⟩
  rw [if_neg h172] at h
  by_cases h173 : 173 = i
  · rw [if_pos h173] at h; injection h with h; subst h173; subst h; exact ⟨_, _, _, _, at173, link173⟩
  rw [if_neg h173] at h
  by_cases h174 : 174 = i
  · rw [if_pos h174] at h; injection h with h; subst h174; subst h; exact ⟨_, _, _, _, at174, link174⟩
  rw [if_neg h174] at h
  by_cases h175 : 175 = i
  · rw [if_pos h175] at h; injection h with h; subst h175; subst h; exact ⟨_, _, _, _, at175, link175⟩
  rw [if_neg h175] at h
  simp at h

theorem follows : Try.prog.follows .mixedOrders = true := by kernel_rfl

end Go.Proofs.Ytejcabdejoameaa.AI

/- How a function is reckoned through, as rewriting rules: each goes one step, and none looks behind what is next. -/
namespace Go.Proofs.Ytejcabdejoameaa.AI
open Go

section
variable {tbl : Nat → Option AFn} {e e' : Env} {H H' : Heap} {Q : AExit → Env → Heap → Prop} {R : Env → Heap → Prop} {K : Value → Heap → Prop}

/-! What is next is laid behind names that the rules open one at a time. -/
def CSeq (tbl : Nat → Option AFn) (b : ACode) (Q : AExit → Env → Heap → Prop) : Env → Heap → Prop := fun e H => AW tbl b e H Q
theorem ybk {b : ACode} : CSeq tbl b Q e H = AW tbl b e H Q := rfl
theorem yaa {a b : ACode} : AW tbl (.seq a b) e H Q = AW tbl a e H (Then (CSeq tbl b Q) Q) := AW_seq
theorem RW_loop {a : ACode} : AW tbl (.loop a) e H Q = AW tbl a e H (Then (CSeq tbl (.loop a) Q) Q) := AW_loop
def CReg (live : List Nat) (Q : AExit → Env → Heap → Prop) : Env → Heap → Prop := fun e H => Q .normal (keep e live) H
theorem ybl {live : List Nat} : CReg live Q e H = Q .normal (keep e live) H := rfl
theorem yag {ops : List AOper} {live : List Nat} : AW tbl (.reg ops live) e H Q = AO tbl ops e H (CReg live Q) := AW_reg
theorem yah {ops : List DOper} {live : List Nat} : AW tbl (.regd ops live) e H Q = AOD tbl ops [] e H (CReg live Q) := AW_regd
def COps (tbl : Nat → Option AFn) (d : Option Nat) (r : List AOper) (e : Env) (R : Env → Heap → Prop) : Value → Heap → Prop := fun v H => AO tbl r (putE e d v) H R
theorem ybm {d : Option Nat} {r : List AOper} {v : Value} : COps tbl d r e R v H = AO tbl r (putE e d v) H R := rfl
theorem yai {d : Option Nat} {op : AOp} {r : List AOper} : AO tbl (⟨d, none, op⟩ :: r) e H R = Op1 (dval (AC tbl) op e H) (COps tbl d r e R) := AO_op
theorem yaj {d : Option Nat} {t : Nat} {op : AOp} {r : List AOper} (h : lk e t = some (.bool true)) : AO tbl (⟨d, some (t, true), op⟩ :: r) e H R = Op1 (dval (AC tbl) op e H) (COps tbl d r e R) := by rw [AO_guard h, if_pos rfl]; exact AO_op
theorem yak {d : Option Nat} {t : Nat} {op : AOp} {r : List AOper} (h : lk e t = some (.bool false)) : AO tbl (⟨d, some (t, true), op⟩ :: r) e H R = AO tbl r (putE e d undef) H R := by rw [AO_guard h, if_neg (by decide)]
theorem yal {d : Option Nat} {t : Nat} {op : AOp} {r : List AOper} (h : lk e t = some (.bool true)) : AO tbl (⟨d, some (t, false), op⟩ :: r) e H R = AO tbl r (putE e d undef) H R := by rw [AO_guard h, if_neg (by decide)]
theorem yam {d : Option Nat} {t : Nat} {op : AOp} {r : List AOper} (h : lk e t = some (.bool false)) : AO tbl (⟨d, some (t, false), op⟩ :: r) e H R = Op1 (dval (AC tbl) op e H) (COps tbl d r e R) := by rw [AO_guard h, if_pos rfl]; exact AO_op

/-- What follows an operation whose order is open. -/
def CDops (tbl : Nat → Option AFn) (d : Option Nat) (op : AOp) (eff : Bool) (back : Nat) (r : List DOper) (hist : List Heap) (e : Env) (H0 : Heap) (R : Env → Heap → Prop) : Value → Heap → Prop :=
  fun v H => okBack ⟨⟨d, none, op⟩, eff, back⟩ hist e H0 = true ∧ AOD tbl r (if eff then H0 :: hist else hist) (putE e d v) H R
theorem yay {d : Option Nat} {op : AOp} {r : List DOper} {hist : List Heap} {H0 : Heap} {v : Value} : CDops tbl d op true 0 r hist e H0 R v H = AOD tbl r (H0 :: hist) (putE e d v) H R := by
  simp [CDops, okBack]
theorem yaz {d : Option Nat} {op : AOp} {r : List DOper} {hist : List Heap} {H0 : Heap} {v : Value} : CDops tbl d op false 0 r hist e H0 R v H = AOD tbl r hist (putE e d v) H R := by
  simp [CDops, okBack]
theorem CDops_back {d : Option Nat} {op : AOp} {n : Nat} {r : List DOper} {hist : List Heap} {H0 : Heap} {v : Value} : CDops tbl d op false (n + 1) r hist e H0 R v H =
    ((match aop op e H0 with | some (v, _) => again op e v (hist.take (n + 1)) | none => false) = true ∧ AOD tbl r hist (putE e d v) H R) := by
  simp [CDops, okBack, want]
  intro _
  cases aop op e H0 <;> rfl
theorem yap {d : Option Nat} {op : AOp} {eff : Bool} {back : Nat} {r : List DOper} {hist : List Heap} : AOD tbl (⟨⟨d, none, op⟩, eff, back⟩ :: r) hist e H R = Op1 (dval (AC tbl) op e H) (CDops tbl d op eff back r hist e H R) := AOD_op
theorem yaq {d : Option Nat} {t : Nat} {op : AOp} {eff : Bool} {back : Nat} {r : List DOper} {hist : List Heap} (h : lk e t = some (.bool true)) : AOD tbl (⟨⟨d, some (t, true), op⟩, eff, back⟩ :: r) hist e H R = Op1 (dval (AC tbl) op e H) (CDops tbl d op eff back r hist e H R) := by rw [AOD_guard h, if_pos rfl]; rfl
theorem yar {d : Option Nat} {t : Nat} {op : AOp} {back : Nat} {r : List DOper} {hist : List Heap} (h : lk e t = some (.bool false)) : AOD tbl (⟨⟨d, some (t, true), op⟩, false, back⟩ :: r) hist e H R = AOD tbl r hist (putE e d undef) H R := by rw [AOD_guard h, if_neg (by decide)]; rfl
theorem yas {d : Option Nat} {t : Nat} {op : AOp} {back : Nat} {r : List DOper} {hist : List Heap} (h : lk e t = some (.bool true)) : AOD tbl (⟨⟨d, some (t, false), op⟩, false, back⟩ :: r) hist e H R = AOD tbl r hist (putE e d undef) H R := by rw [AOD_guard h, if_neg (by decide)]; rfl
theorem yat {d : Option Nat} {t : Nat} {op : AOp} {back : Nat} {r : List DOper} {hist : List Heap} (h : lk e t = some (.bool false)) : AOD tbl (⟨⟨d, some (t, true), op⟩, true, back⟩ :: r) hist e H R = AOD tbl r (H :: hist) (putE e d undef) H R := by rw [AOD_guard h, if_neg (by decide)]; rfl
theorem yau {d : Option Nat} {t : Nat} {op : AOp} {back : Nat} {r : List DOper} {hist : List Heap} (h : lk e t = some (.bool true)) : AOD tbl (⟨⟨d, some (t, false), op⟩, true, back⟩ :: r) hist e H R = AOD tbl r (H :: hist) (putE e d undef) H R := by rw [AOD_guard h, if_neg (by decide)]; rfl
theorem yav {d : Option Nat} {t : Nat} {op : AOp} {eff : Bool} {back : Nat} {r : List DOper} {hist : List Heap} (h : lk e t = some (.bool false)) : AOD tbl (⟨⟨d, some (t, false), op⟩, eff, back⟩ :: r) hist e H R = Op1 (dval (AC tbl) op e H) (CDops tbl d op eff back r hist e H R) := by rw [AOD_guard h, if_pos rfl]; rfl

/-- A choice by a value. -/
def CondA (tbl : Nat → Option AFn) (o : Option Value) (a b : ACode) (e : Env) (H : Heap) (Q : AExit → Env → Heap → Prop) : Prop := match o with
  | some (.bool true) => AW tbl a e H Q
  | some (.bool false) => AW tbl b e H Q
  | _ => False
theorem ycr {a b : ACode} : CondA tbl (some (.bool true)) a b e H Q = AW tbl a e H Q := rfl
theorem ycq {a b : ACode} : CondA tbl (some (.bool false)) a b e H Q = AW tbl b e H Q := rfl
theorem CondA_of {x : Bool} {a b : ACode} (h1 : x = true → AW tbl a e H Q) (h2 : x = false → AW tbl b e H Q) : CondA tbl (some (.bool x)) a b e H Q := by
  cases x
  · exact h2 rfl
  · exact h1 rfl
theorem yeh {p : Prop} {hp : Decidable p} {a b : ACode} (h1 : p → AW tbl a e H Q) (h2 : ¬ p → AW tbl b e H Q) : CondA tbl (some (.bool (@decide p hp))) a b e H Q := by
  by_cases h : p
  · rw [decide_eq_true h]; exact h1 h
  · rw [decide_eq_false h]; exact h2 h
theorem yaf {c : Arg} {a b : ACode} : AW tbl (.cond c a b) e H Q = CondA tbl (ev e c) a b e H Q := by
  rw [AW_cond]
  apply propext; constructor
  · rintro (⟨h1, h2⟩ | ⟨h1, h2⟩) <;> rw [h1] <;> exact h2
  · intro h
    unfold CondA at h
    split at h
    · exact .inl ⟨‹_›, h⟩
    · exact .inr ⟨‹_›, h⟩
    · exact h.elim

theorem ybz {d n : Nat} {v : Value} : lk (putE e (some d) v) n = if d = n then some v else lk e n := rfl
theorem yca {n : Nat} {v : Value} : lk (putE e none v) n = lk e n := rfl
theorem ycb {d n : Nat} {v : Value} {r : Env} : lk ((d, v) :: r) n = if d = n then some v else lk r n := rfl
theorem ycc {n : Nat} : lk [] n = none := rfl
theorem ycd : keep e [] = [] := rfl
theorem yce {t : Nat} {r : List Nat} : keep e (t :: r) = match lk e t with | some v => (t, v) :: keep e r | none => keep e r := rfl

/-- How a function ends. -/
def finO (trunc : Bool) (n : Nat) (o : Option (List Value)) (H : Heap) : Option (Value × Heap) := o.map fun vs => fin trunc n (tup vs) H
theorem ybw {t : Bool} {n : Nat} {vs : List Value} : finO t n (some vs) H = some (fin t n (tup vs) H) := rfl
def Ends (rs : List ARes) (t : Bool) (n : Nat) (K : Value → Heap → Prop) : AExit → Env → Heap → Prop
  | .exit _, _, _ => False
  | _, e, H => Op1 (finO t n (ares e H rs) H) K
theorem ybu {rs : List ARes} {t : Bool} {n : Nat} : Ends rs t n K .ret e H = Op1 (finO t n (ares e H rs) H) K := rfl
theorem ybv {rs : List ARes} {t : Bool} {n : Nat} : Ends rs t n K .normal e H = Op1 (finO t n (ares e H rs) H) K := rfl

/-- A function, through its body. -/
theorem AC_wp {f : Nat} {vs : List Value} {F : AFn} (hF : tbl f = some F) (hl : vs.length ≤ F.ntmps) (hi : F.iso = false ∨ H = [])
    (h : AW tbl F.body (argsE 0 vs) H (Ends F.results F.trunc H.length K)) : Op1 (AC tbl f vs H) K := by
  obtain ⟨n, x, e1, H1, h1, h2⟩ := h
  have : ∃ r, (ares e1 H1 F.results).map (fun vs => fin F.trunc H.length (tup vs) H1) = some r ∧ K r.1 r.2 ∧ ∀ i, x ≠ .exit i := by
    cases x with
    | exit i => exact h2.elim
    | normal => obtain ⟨v, H2, hv, hk⟩ := h2; unfold finO at hv; exact ⟨(v, H2), hv, hk, fun i => by simp⟩
    | ret => obtain ⟨v, H2, hv, hk⟩ := h2; unfold finO at hv; exact ⟨(v, H2), hv, hk, fun i => by simp⟩
  obtain ⟨⟨v, H2⟩, hr, hk, hx⟩ := this
  obtain ⟨rvs, hrvs, hfin⟩ := Option.map_eq_some_iff.1 hr
  exact ⟨v, H2, AC_of hF hl hi ⟨n, x, e1, H1, h1, hx, rvs, hrvs, hfin⟩, hk⟩

theorem AC_eq {f : Nat} {vs : List Value} {v : Value} (h : Op1 (AC tbl f vs H) fun v1 H1 => v1 = v ∧ H1 = H') : AC tbl f vs H = some (v, H') := by
  obtain ⟨v1, H1, h1, rfl, rfl⟩ := h
  exact h1
theorem Op1_mono {r : Option (Value × Heap)} {K' : Value → Heap → Prop} (h : Op1 r K) (hk : ∀ v H, K v H → K' v H) : Op1 r K' := by
  obtain ⟨v, H1, h1, h2⟩ := h
  exact ⟨v, H1, h1, hk _ _ h2⟩

/-- At the next round's start. -/
def Inv (I : Nat → Env → Heap → Prop) (k : Nat) : Env → Heap → Prop := fun e H => ∃ k', k' < k ∧ I k' e H
/-- A loop, by what holds at each round's start. -/
theorem AW_loop_inv {a : ACode} (I : Nat → Env → Heap → Prop) (step : ∀ k e H, I k e H → AW tbl a e H (Then (Inv I k) Q)) : ∀ k e H, I k e H → AW tbl (.loop a) e H Q := by
  intro k
  induction k using Nat.strongRecOn with
  | ind k ih =>
    intro e H hI
    rw [AW_loop]
    refine (step k e H hI).mono fun x e H hx => ?_
    cases x with
    | normal => obtain ⟨k', hk, hI'⟩ := hx; exact ih k' hk e H hI'
    | ret => exact hx
    | exit i => exact hx
end

/-! ## Operations -/
section
variable {c : CallF} {e : Env} {H : Heap}
theorem dval_call {f : Nat} {args : List Arg} : dval c (.call f args) e H = (evs e args).bind fun vs => c f vs H := rfl
theorem dval_callv {f : Arg} {args : List Arg} : dval c (.callv f args) e H = match ev e f with
    | some (.func (.func i) first captured) => (evs e args).bind fun vs => c i (first.toList ++ vs ++ captured.toList) H
    | _ => none := rfl

theorem ycm (k : IntKind) (a b : Int) : binV .add (.int k a) (.int k b) = some (.int k (k.wrap (a + b))) := by simp [binV]; rfl
theorem ycn (k : IntKind) (a b : Int) : binV .sub (.int k a) (.int k b) = some (.int k (k.wrap (a - b))) := by simp [binV]; rfl
theorem yco (k : IntKind) (a b : Int) : binV .mul (.int k a) (.int k b) = some (.int k (k.wrap (a * b))) := by simp [binV]; rfl
theorem yck (k : IntKind) (a b : Int) : binV .eql (.int k a) (.int k b) = some (.bool (decide (a = b))) := by simp [binV]; show some (Value.bool (a == b)) = _; rfl
theorem ycl (k : IntKind) (a b : Int) : binV .neq (.int k a) (.int k b) = some (.bool (decide (a ≠ b))) := by
  simp only [binV, if_true]; show some (Value.bool (a != b)) = _; rw [bne]; simp [BEq.beq]
theorem ycg (k : IntKind) (a b : Int) : binV .lss (.int k a) (.int k b) = some (.bool (decide (a < b))) := by simp [binV]; rfl
theorem ych (k : IntKind) (a b : Int) : binV .leq (.int k a) (.int k b) = some (.bool (decide (a ≤ b))) := by simp [binV]; rfl
theorem yci (k : IntKind) (a b : Int) : binV .gtr (.int k a) (.int k b) = some (.bool (decide (b < a))) := by simp [binV]; rfl
theorem ycj (k : IntKind) (a b : Int) : binV .geq (.int k a) (.int k b) = some (.bool (decide (b ≤ a))) := by simp [binV]; rfl
theorem binV_shl (k k' : IntKind) (a b : Int) (h : ¬ b < 0) : binV .shl (.int k a) (.int k' b) = some (.int k (k.wrap (a * 2 ^ (min b.toNat k.bits)))) := by
  simp only [binV, Op.shift, if_neg h]; rfl
theorem binV_shr (k k' : IntKind) (a b : Int) (h : ¬ b < 0) : binV .shr (.int k a) (.int k' b) = some (.int k (a.fdiv (2 ^ (min b.toNat k.bits)))) := by
  simp only [binV, Op.shift, if_neg h]; rfl
theorem binV_quo (k : IntKind) (a b : Int) (h : ¬ b = 0) : binV .quo (.int k a) (.int k b) = some (.int k (k.wrap (a.tdiv b))) := by
  simp only [binV, Op.intDiv, if_neg h, if_true]; rfl
theorem binV_rem (k : IntKind) (a b : Int) (h : ¬ b = 0) : binV .rem (.int k a) (.int k b) = some (.int k (a.tmod b)) := by
  simp only [binV, Op.intDiv, if_neg h, if_true]; rfl
theorem binV_and (k : IntKind) (a b : Int) : binV .and (.int k a) (.int k b) = some (.int k (k.wrap (BitVec.ofInt k.bits a &&& BitVec.ofInt k.bits b).toNat)) := by simp [binV]; rfl
theorem binV_or (k : IntKind) (a b : Int) : binV .or (.int k a) (.int k b) = some (.int k (k.wrap (BitVec.ofInt k.bits a ||| BitVec.ofInt k.bits b).toNat)) := by simp [binV]; rfl
theorem ycp (b : Bool) : eval0 (Op.unary .not (.bool b)) = some (.bool !b) := rfl
theorem un_neg (k : IntKind) (n : Int) : eval0 (Op.unary .neg (.int k n)) = some (.int k (k.wrap (0 - n))) := rfl

theorem yby {n : Nat} {v : Value} : fin false n v H = (v, H) := by simp [fin]
theorem ybx {t : Bool} {v : Value} : fin t H.length v H = (v, H) := by
  unfold fin
  split
  · simp
  · rfl
def WFH (H : Heap) : Prop := H.all (blkB H.length) = true
theorem fin_append {v : Value} {L : Heap} (hv : idsB 9 H.length v = true) (h : WFH H) : fin true H.length v (H ++ L) = (v, H) := by
  unfold fin
  rw [if_pos]
  · simp
  · simp only [List.take_left, hv, zaw]; exact h

theorem hload_last {cs : List Value} {rw' : Bool} {n : Option Nat} {o : Nat} : hload (H ++ [some ⟨rw', cs⟩]) n ⟨H.length, o, none⟩ = match n with
    | none => cs[o]?
    | some n => if o + n ≤ cs.length then some (.agg ((cs.drop o).take n).toArray) else none := by
  cases n <;> simp only [hload, ydu, zag]
theorem hstore_last {cs vs : List Value} {o : Nat} (h : (decide (o + vs.length ≤ cs.length) && vs.all one) = true) : hstore (H ++ [some ⟨true, cs⟩]) ⟨H.length, o, none⟩ vs = some (H ++ [some ⟨true, splice cs o vs⟩]) := by
  simp only [hstore, ydu, zag, zaw]
  rw [if_pos h]
  simp
end

/-! ## An operation that is carried out in elder memories as well -/
def Again (op : AOp) (e : Env) (l : List Heap) (r : Option (Value × Heap)) : Prop := (match r with | some (v, _) => again op e v l | none => false) = true
theorem CDops_again {tbl : Nat → Option AFn} {e : Env} {H H0 : Heap} {R : Env → Heap → Prop} {d : Option Nat} {op : AOp} {n : Nat} {r : List DOper} {hist : List Heap} {v : Value} : CDops tbl d op false (n + 1) r hist e H0 R v H =
    (Again op e (hist.take (n + 1)) (aop op e H0) ∧ AOD tbl r hist (putE e d v) H R) := CDops_back
theorem ybc {op : AOp} {e : Env} {v : Value} {H : Heap} : Again op e [] (some (v, H)) = True := by simp [Again, again]
def Same1 (v : Value) (r : Option (Value × Heap)) : Prop := (match r with | some (v', _) => sameV 9 v v' | none => false) = true
theorem ybd {op : AOp} {e : Env} {v : Value} {H G : Heap} {l : List Heap} : Again op e (G :: l) (some (v, H)) = (Same1 v (aop op e G) ∧ Again op e l (some (v, H))) := by
  simp [Again, again, Same1]
  intro _
  cases aop op e G <;> rfl
theorem ybe {k : IntKind} {n : Int} {H : Heap} : Same1 (.int k n) (some (.int k n, H)) = True := by simp [Same1, sameV]
theorem ybf {b : Bool} {H : Heap} : Same1 (.bool b) (some (.bool b, H)) = True := by simp [Same1, sameV]
theorem ybg {s : ByteArray} {H : Heap} : Same1 (.string s) (some (.string s, H)) = True := by simp [Same1, sameV]
theorem ybh {a : Addr} {H : Heap} : Same1 (.pointer (some a)) (some (.pointer (some a), H)) = True := by simp [Same1, sameV]
theorem ybi {a : Addr} {n z : Nat} {H : Heap} : Same1 (.slice (some a) n z) (some (.slice (some a) n z, H)) = True := by simp [Same1, sameV]
theorem ybj {H : Heap} : Same1 (.slice none 0 0) (some (.slice none 0 0, H)) = True := by simp [Same1, sameV]
theorem take_one {G : Heap} {l : List Heap} : List.take (0 + 1) (G :: l) = [G] := by simp
theorem take_two {G G2 : Heap} {l : List Heap} : List.take (1 + 1) (G :: G2 :: l) = [G, G2] := by simp
theorem yba {tbl : Nat → Option AFn} {e : Env} {H H0 G : Heap} {R : Env → Heap → Prop} {d : Option Nat} {op : AOp} {r : List DOper} {hist : List Heap} {v : Value} : CDops tbl d op false 1 r (G :: hist) e H0 R v H =
    (Again op e [G] (aop op e H0) ∧ AOD tbl r (G :: hist) (putE e d v) H R) := by rw [CDops_again (n := 0), take_one]
theorem ybb {tbl : Nat → Option AFn} {e : Env} {H H0 G G2 : Heap} {R : Env → Heap → Prop} {d : Option Nat} {op : AOp} {r : List DOper} {hist : List Heap} {v : Value} : CDops tbl d op false 2 r (G :: G2 :: hist) e H0 R v H =
    (Again op e [G, G2] (aop op e H0) ∧ AOD tbl r (G :: G2 :: hist) (putE e d v) H R) := by rw [CDops_again (n := 1), take_two]

section
variable {tbl : Nat → Option AFn} {e : Env} {H : Heap} {R : Env → Heap → Prop}
theorem yan {d : Option Nat} {t : Nat} {b : Bool} {op : AOp} {r : List AOper} (h : lk e t = some undef) : AO tbl (⟨d, some (t, b), op⟩ :: r) e H R = AO tbl r (putE e d undef) H R := by
  unfold AO
  simp only [aops, step, want, h, undef, zag]
theorem yaw {d : Option Nat} {t : Nat} {b : Bool} {op : AOp} {back : Nat} {r : List DOper} {hist : List Heap} (h : lk e t = some undef) : AOD tbl (⟨⟨d, some (t, b), op⟩, false, back⟩ :: r) hist e H R = AOD tbl r hist (putE e d undef) H R := by
  unfold AOD
  simp only [aopsD, step, want, h, undef, zag, okBack]
  simp
end

end Go.Proofs.Ytejcabdejoameaa.AI

/- From the interpreter's answer to the statement's words: what is left behind a law's call. -/
set_option linter.unusedSimpArgs false
namespace Go.Proofs.Ytejcabdejoameaa.AI
open Go Go.ChangeShapes Go.WideShapes Go.ChangeAt Go.RowKit

section
variable {H : Type} {enc : TypeId × Value → H} {P : Program}

/-- Arguments of any type that can be read: where nothing old has turned they read as they did. -/
theorem stay_all (hl : laidOutB P = true) {W W' : World} (hb : Below W.heap.size W W') : ∀ {ts : List TypeId} {vs : List Value} {ds : List (DataW H)} {ps : List MemPlace},
    (∀ t ∈ ts, P.readableRec t = true ∧ t < P.types.size) → DataW.TrodAll enc P W 0 (fun _ => true) true ts vs ds ps → (∀ x ∈ ps, x.block < W.heap.size) → ∀ sp : Nat → Bool, (∀ x ∈ ps, sp x.block = true) →
    DataW.TrodAll enc P W' 0 sp true ts vs ds ps := by
  intro ts
  induction ts with
  | nil => intro vs ds ps _ h _ sp _; obtain ⟨rfl, rfl, rfl⟩ := trodAll_nil h; exact trodAll_mk0
  | cons t ts ih =>
    intro vs ds ps ht h hlt sp hsp
    obtain ⟨v, vs1, d, ds1, p, q, rfl, rfl, rfl, h1, h2⟩ := trodAll_cons h
    have h3 := ih (fun u hu => ht u (List.mem_cons_of_mem _ hu)) h2 (fun x hx => hlt x (List.mem_append_right _ hx)) sp (fun x hx => hsp x (List.mem_append_right _ hx))
    have h4 := WideElems.Trod_stays hl (ht t List.mem_cons_self).1 (ht t List.mem_cons_self).2 h1 (fun x hx => hb.same (hlt x (List.mem_append_left _ hx))) (fun x hx => hsp x (List.mem_append_left _ hx))
    exact ⟨p, q, h4, h3, rfl⟩

/-- Behind a call that has written to memory of its own alone. -/
theorem law_post {f : Func} {s : ChangeSpec} {apart fresh handsOn again : Bool} {W W' : World} {args : Array Value} {v : Value} {ds gs : List (DataW H)} {before : List MemPlace} {rs : List (DataW H)} (hl : laidOutB P = true)
    (hW : DataW.Whole enc P f.params.toList s.vars apart W args.toList ds gs before) (hv : s.vars = []) (hfn : s.fn H (ds ++ gs) = { results := rs, args := ds }) (hpar : ∀ t ∈ f.params.toList, P.readableRec t = true ∧ t < P.types.size)
    (hb : Below W.heap.size W W')
    (hres : ∀ (b : Nat) (sp : Nat → Bool) (hd : Bool), DataW.TrodAll enc P W' b sp hd f.resultTypes.toList (v.resultList f.resultTypes.size) rs [])
    (hok : ∀ (j : Nat) (t : TypeId) (r : Value), f.resultTypes[j]? = some t → (v.resultList f.resultTypes.size)[j]? = some r → Value.okWide P W' .any 0 t r) :
    s.post enc P f apart fresh handsOn again W args v W' := by
  have hlt := hW.lt
  have hW0 := hW
  obtain ⟨p, q, hA, hV, hpq, hz, hn⟩ := hW
  rw [hv] at hV
  obtain ⟨hgs, hq⟩ := trodVars_none hV
  subst hq; subst hpq
  rw [List.append_nil] at *
  have hargs : ∀ sp : Nat → Bool, (∀ x ∈ p, sp x.block = true) → DataW.TrodAll enc P W' 0 sp true f.params.toList args.toList ds p := fun sp hsp => stay_all hl hb hpar hA hlt sp hsp
  have hold : ∀ x ∈ p, (fun b => decide (b < W.heap.size)) x.block = true := fun x hx => by simpa using hlt x hx
  have hnone : ∀ sp : Nat → Bool, DataW.TrodVars enc P W' sp s.vars ([] : List (DataW H)) [] := fun sp => by rw [hv]; rfl
  refine ⟨ds, gs, p, [], p, [], hW0, ?_, ?_, ?_, World.keptBut_mono (fun x hx => ⟨hx, .inr (.inl hx)⟩) (hb.frame _), fun _ => ?_⟩
  · rw [hfn]; exact hres _ _ _
  · rw [hfn]; exact hargs _ hold
  · rw [hfn]; exact hnone _
  · refine ⟨hok, rs ++ ds, [], ([] ++ p) ++ [], ⟨[] ++ p, [], ?_, ?_, rfl, ?_, ?_⟩, ?_⟩
    · exact trodAll_append (hargs _ (fun _ _ => rfl)) (hres _ _ _)
    · exact hnone _
    · intro b off hp
      have hp' : MemPlace.cell b off ∈ p := by simpa using hp
      rw [hb.frozen (hlt _ hp')]
      exact hz b off hp'
    · intro ha
      simpa using hn ha
    · intro x hx _
      simpa using hx
end

/-- A law that answers true in the interpreter does so in the program. -/
theorem law_calls {k : Nat} {vs : List Value} {H : Heap} {B : Map} {W : World} {args : List Value} (h : Op1 (AC tbl k vs H) fun v _ => v = .bool true) (hr : HR sig W.heap.size B H W) (hro : ∀ i b, hget H i = some b → b.rw = false)
    (hv : VRs sig B vs args) : Calls Try.prog (sig k) ⟨args⟩ W fun e W' => e = .returned (.bool true) ∧ Below W.heap.size W W' := by
  obtain ⟨v, H', hac, rfl⟩ := h
  obtain ⟨_, hc⟩ := AC_sound tbl (base := W.heap.size) follows linked k vs H _ H' hac
  refine (hc B W args hr hv).mono fun e W' he => ?_
  obtain ⟨v', B', rfl, r1, r2, r3⟩ := he
  rw [r1.of_bool]
  exact ⟨rfl, r3.os, r3.tape, r3.output, r3.size, fun g hg => r3.keep g hg (by rintro ⟨i, b, p, hi, hb, _⟩; rw [hro i b hi] at hb; simp at hb)⟩

theorem own : ownKnob Try.prog.godebug = none := by kernel_rfl
theorem laidOut : laidOutB Try.prog = true := by kernel_rfl

end Go.Proofs.Ytejcabdejoameaa.AI

/- A law's arguments, whatever their types: their cells, and the abstract memory in which their slices lie. -/
set_option linter.unusedSimpArgs false
namespace Go.Proofs.Ytejcabdejoameaa.AI
open Go Go.ChangeShapes Go.WideShapes Go.ChangeAt Go.RowKit

inductive Leaf where
  | int (k : IntKind)
  | bool
  | str
  | sl (els : List Leaf)
def Leaf.atomic : Leaf → Bool
  | .sl _ => false
  | _ => true

def isA : Leaf → Value → Prop
  | .int k, v => ∃ n, v = .int k n ∧ (Lit.int k n).wf = true
  | .bool, v => ∃ b, v = .bool b
  | .str, v => ∃ s : ByteArray, v = .string s ∧ s.size ≤ maxLen
  | .sl _, _ => False
theorem isA.atom {l : Leaf} {v : Value} (h : isA l v) : AI.atom v = true := by
  cases l with
  | int k => obtain ⟨n, rfl, _⟩ := h; rfl
  | bool => obtain ⟨b, rfl⟩ := h; rfl
  | str => obtain ⟨s, rfl, _⟩ := h; rfl
  | sl els => exact h.elim
def RowOf (els : List Leaf) (row : List Value) : Prop := row.length = els.length ∧ ∀ (i : Nat) (l : Leaf) (x : Value), els[i]? = some l → row[i]? = some x → isA l x
/-- What a slice's array has, in rows. -/
structure Rows (W : World) (els : List Leaf) (a : Addr) (len : Nat) (rows : List (List Value)) : Prop where
  len : rows.length = len
  row : ∀ r ∈ rows, RowOf els r
  cell : ∀ (j : Nat) (x : Value), rows.flatten[j]? = some x → W.cell? (a.add j) = some x
def isL (W : World) : Leaf → Value → Prop
  | .sl els, v => v = .slice none 0 0 ∨ ∃ a len cap rows, v = .slice (some a) len cap ∧ len ≤ cap ∧ AI.Rows W els a len rows
  | l, v => isA l v
theorem isL.of {W : World} {l : Leaf} {v : Value} (h : isL W l v) (ha : l.atomic = true) : isA l v := by
  cases l <;> first | exact h | simp [Leaf.atomic] at ha

section
variable (P : Program)
def fieldsL (f : TypeId → Option (List Leaf)) : Nat → List Field → Option (List Leaf)
  | _, [] => some []
  | off, fd :: r => (f fd.type).bind fun a => if fd.offset = off ∧ a.length = P.cellsOf fd.type then (fieldsL f (off + a.length) r).map (a ++ ·) else none
/-- The cells of a type. -/
def leaves : Nat → TypeId → Option (List Leaf)
  | 0, _ => none
  | d + 1, t => match P.underlying t with
    | some .bool => some [.bool]
    | some (.int k) => some [.int k]
    | some .string => some [.str]
    | some (.struct fs) => (fieldsL P (leaves d) 0 fs.toList).bind fun ls => if ls.length = P.cellsOf t then some ls else none
    | some (.array n e) => match leaves d e with
      | some [a] => if P.cellsOf e = 1 ∧ P.cellsOf t = n then some (List.replicate n a) else none
      | _ => none
    | some (.slice e) => (leaves d e).bind fun l => if l.all Leaf.atomic = true ∧ l.length = P.cellsOf e ∧ 0 < l.length then some [.sl l] else none
    | _ => none
end

theorem mapM_at {α β : Type} {f : α → Option β} : ∀ {l : List α} {r : List β}, l.mapM f = some r → ∀ (i : Nat) (x : α), l[i]? = some x → ∃ y, r[i]? = some y ∧ f x = some y := by
  intro l
  induction l with
  | nil => intro r _ i x h; simp at h
  | cons a l ih =>
    intro r h i x hx
    simp only [List.mapM_cons, bind, Option.bind_eq_some_iff, pure, Option.some.injEq] at h
    obtain ⟨y, hy, ys, hys, rfl⟩ := h
    cases i with
    | zero => simp at hx; subst hx; exact ⟨y, rfl, hy⟩
    | succ i => exact ih hys i x (by simpa using hx)
theorem mapM_len {α β : Type} {f : α → Option β} : ∀ {l : List α} {r : List β}, l.mapM f = some r → r.length = l.length := by
  intro l
  induction l with
  | nil => intro r h; simp at h; subst h; rfl
  | cons a l ih =>
    intro r h
    simp only [List.mapM_cons, bind, Option.bind_eq_some_iff, pure, Option.some.injEq] at h
    obtain ⟨y, hy, ys, hys, rfl⟩ := h
    simp [ih hys]

theorem add_add (a : Addr) (i j : Nat) : (a.add i).add j = a.add (i + j) := by
  unfold Addr.add
  by_cases hi : i = 0
  · subst hi; simp
  · by_cases hj : j = 0
    · subst hj; simp [hi]
    · cases a with
      | mk b o s => simp [hi, hj]; try omega

theorem cells_at {W : World} {base : Nat} {a : Addr} {n : Nat} {cs : List Value} (h : W.cells? base a n = some cs) : cs.length = n ∧ ∀ j x, cs[j]? = some x → W.cell? (a.add j) = some x := by
  unfold World.cells? at h
  split at h
  · have hl := mapM_len h
    rw [List.length_range] at hl
    refine ⟨hl, fun j x hx => ?_⟩
    have hj : j < n := by have := (List.getElem?_eq_some_iff.1 hx).1; omega
    obtain ⟨y, hy, hf⟩ := mapM_at h j j (List.getElem?_range hj)
    rw [hx] at hy; injection hy with hy; subst hy
    exact hf
  · simp at h

theorem list_choose {α : Type} {R : Nat → α → Prop} : ∀ n, (∀ i, i < n → ∃ x, R i x) → ∃ l : List α, l.length = n ∧ ∀ i x, l[i]? = some x → R i x := by
  intro n
  induction n with
  | zero => intro _; exact ⟨[], rfl, fun i x h => by simp at h⟩
  | succ n ih =>
    intro h
    obtain ⟨l, hl, hr⟩ := ih fun i hi => h i (by omega)
    obtain ⟨x, hx⟩ := h n (by omega)
    refine ⟨l ++ [x], by simp [hl], fun i y hy => ?_⟩
    rw [List.getElem?_append] at hy
    split at hy
    · exact hr i y hy
    · have : i = n := by
        have := (List.getElem?_eq_some_iff.1 hy).1
        simp at this; omega
      subst this
      rw [hl, Nat.sub_self] at hy
      simp at hy; subst hy; exact hx
theorem flatten_at {α : Type} {m : Nat} (hm : 0 < m) : ∀ (rows : List (List α)), (∀ r ∈ rows, r.length = m) → ∀ j x, rows.flatten[j]? = some x → ∃ r, rows[j / m]? = some r ∧ r[j % m]? = some x := by
  intro rows
  induction rows with
  | nil => intro _ j x h; simp at h
  | cons r rows ih =>
    intro hr j x h
    have hrl := hr r List.mem_cons_self
    rw [List.flatten_cons, List.getElem?_append] at h
    split at h
    · rename_i hj
      rw [hrl] at hj
      exact ⟨r, by rw [Nat.div_eq_of_lt hj]; rfl, by rw [Nat.mod_eq_of_lt hj]; exact h⟩
    · rename_i hj
      rw [hrl] at hj h
      obtain ⟨q, h1, h2⟩ := ih (fun r' h' => hr r' (List.mem_cons_of_mem _ h')) (j - m) x h
      have hd : j / m = (j - m) / m + 1 := by rw [Nat.div_eq_sub_div hm (by omega)]
      have hmod : j % m = (j - m) % m := by rw [Nat.mod_eq_sub_mod (by omega)]
      exact ⟨q, by rw [hd]; simpa using h1, by rw [hmod]; exact h2⟩

section
variable {P : Program} {H : Type} {enc : TypeId × Value → H} {W : World}

theorem fields_ok {f : TypeId → Option (List Leaf)} {cs : List Value} : ∀ {fds : List Field} {off : Nat} {ls : List Leaf}, fieldsL P f off fds = some ls →
    (∀ fd ∈ fds, ∀ a, f fd.type = some a → ((cs.drop fd.offset).take (P.cellsOf fd.type)).length = a.length ∧ ∀ (i : Nat) (l : Leaf) (c : Value), a[i]? = some l → ((cs.drop fd.offset).take (P.cellsOf fd.type))[i]? = some c → isL W l c) →
    ∀ (i : Nat) (l : Leaf) (c : Value), ls[i]? = some l → cs[off + i]? = some c → isL W l c := by
  intro fds
  induction fds with
  | nil => intro off ls h _ i l c hl; simp [fieldsL] at h; subst h; simp at hl
  | cons fd r ih =>
    intro off ls h hf i l c hl hc
    simp only [fieldsL, Option.bind_eq_some_iff] at h
    obtain ⟨a, ha, h⟩ := h
    split at h
    · rename_i hcond
      obtain ⟨ho, hal⟩ := hcond
      obtain ⟨ls', hls', rfl⟩ := Option.map_eq_some_iff.1 h
      rw [List.getElem?_append] at hl
      split at hl
      · rename_i hi
        obtain ⟨_, h2⟩ := hf fd List.mem_cons_self a ha
        refine h2 i l c hl ?_
        rw [List.getElem?_take, if_pos (by omega), List.getElem?_drop, ho]
        exact hc
      · rename_i hi
        refine ih hls' (fun fd' h' => hf fd' (List.mem_cons_of_mem _ h')) (i - a.length) l c hl ?_
        rw [show off + a.length + (i - a.length) = off + i by omega]; exact hc
    · simp at h

theorem leaves_ok : ∀ (d : Nat) {t : TypeId} {ls : List Leaf}, leaves P d t = some ls → ∀ {n : Nat} {cs : List Value} {x : DataW H × List MemPlace}, DataW.trod enc P W 0 (fun _ => true) true n t cs = some x →
    cs.length = ls.length ∧ ∀ (i : Nat) (l : Leaf) (c : Value), ls[i]? = some l → cs[i]? = some c → isL W l c := by
  intro d
  induction d with
  | zero => intro t ls h; simp [leaves] at h
  | succ d ih =>
    intro t ls h n cs x hx
    have one : ∀ (l : Leaf) (v : Value), ls = [l] → cs = [v] → isL W l v → cs.length = ls.length ∧ ∀ (i : Nat) (l : Leaf) (c : Value), ls[i]? = some l → cs[i]? = some c → isL W l c := by
      rintro l v rfl rfl hv
      refine ⟨rfl, fun i l' c h1 h2 => ?_⟩
      cases i with
      | zero => simp at h1 h2; subst h1; subst h2; exact hv
      | succ i => simp at h1
    simp only [leaves] at h
    split at h
    · rename_i ht
      obtain ⟨b, hb, _⟩ := DataW.trod_bool ht hx
      exact one .bool _ (by simpa using h.symm) hb ⟨b, rfl⟩
    · rename_i k ht
      obtain ⟨m, hb, _, hw⟩ := DataW.trod_int ht hx
      exact one (.int k) _ (by simpa using h.symm) hb ⟨m, rfl, hw⟩
    · rename_i ht
      obtain ⟨s, hb, _, hw⟩ := DataW.trod_string ht hx
      exact one .str _ (by simpa using h.symm) hb ⟨s, rfl, hw⟩
    · rename_i fs ht
      obtain ⟨xs, m, rfl, _, hl, hxl, hf⟩ := DataW.trod_struct ht hx
      simp only [Option.bind_eq_some_iff] at h
      obtain ⟨ls', hls', h⟩ := h
      split at h
      · rename_i hlen
        simp at h; subst h
        refine ⟨by omega, ?_⟩
        have := fields_ok (W := W) (cs := cs) hls' fun fd hfd a ha => by
          obtain ⟨j, hj⟩ := List.getElem?_of_mem hfd
          have hj' : fs[j]? = some fd := by simpa using hj
          have h1 := hf j fd hj'
          have : ∃ y, xs[j]? = some y := ⟨_, List.getElem?_eq_getElem (by
            have := (List.getElem?_eq_some_iff.1 hj).1
            simp at this; omega)⟩
          obtain ⟨y, hy⟩ := this
          rw [hy] at h1
          exact ih ha h1
        intro i l c h1 h2
        exact this i l c h1 (by simpa using h2)
      · simp at h
    · rename_i n' e ht
      split at h
      · rename_i a ha
        split at h
        · rename_i hc
          simp at h; subst h
          obtain ⟨xs, m, rfl, _, hl, hxl, hf⟩ := DataW.trod_array ht hx
          refine ⟨by simp; omega, fun i l c h1 h2 => ?_⟩
          rw [List.getElem?_replicate] at h1
          split at h1
          · rename_i hi
            simp at h1; subst h1
            have h3 := hf i hi
            obtain ⟨y, hy⟩ : ∃ y, xs[i]? = some y := ⟨_, List.getElem?_eq_getElem (by omega)⟩
            rw [hy] at h3
            refine (ih ha h3).2 0 a c rfl ?_
            rw [List.getElem?_take, if_pos (by omega), List.getElem?_drop, hc.1, Nat.mul_one]
            simpa using h2
          · simp at h1
        · simp at h
      · simp at h
    · rename_i e ht
      simp only [Option.bind_eq_some_iff] at h
      obtain ⟨els, he, h⟩ := h
      split at h
      · rename_i hc
        simp at h; subst h
        rcases DataW.trod_slice ht hx with ⟨hcs, _⟩ | ⟨a, len, cap, elems, rest, m, rfl, hcs, _, _, hlc, _, hel, hget', _, _⟩
        · exact one _ _ rfl hcs (.inl rfl)
        · refine one _ _ rfl hcs (.inr ⟨a, len, cap, ?_⟩)
          obtain ⟨rows, hrl, hrr⟩ := list_choose (R := fun i (r : List Value) => RowOf els r ∧ ∀ j x, r[j]? = some x → W.cell? ((a.add (i * els.length)).add j) = some x) len fun i hi => by
            have h1 := hget' i hi
            obtain ⟨y, hy⟩ : ∃ y, elems[i]? = some y := ⟨_, List.getElem?_eq_getElem (by omega)⟩
            rw [hy, Option.bind_eq_some_iff] at h1
            obtain ⟨r, hr, htr⟩ := h1
            obtain ⟨q1, q2⟩ := cells_at hr
            rw [hc.2.1] at *
            obtain ⟨q3, q4⟩ := ih he htr
            exact ⟨r, ⟨by omega, fun j l x hl hx => (q4 j l x hl hx).of (List.all_eq_true.1 hc.1 l (List.mem_of_getElem? hl))⟩, q2⟩
          refine ⟨rows, rfl, hlc, hrl, fun r hr => ?_, fun j x hj => ?_⟩
          · obtain ⟨i, hi⟩ := List.getElem?_of_mem hr
            exact (hrr i r hi).1
          · have hall : ∀ r ∈ rows, r.length = els.length := fun r hr => by
              obtain ⟨i, hi⟩ := List.getElem?_of_mem hr
              exact (hrr i r hi).1.1
            obtain ⟨r, h1, h2⟩ := flatten_at hc.2.2 rows hall j x hj
            have := (hrr _ r h1).2 _ x h2
            rw [add_add] at this
            rw [show j / els.length * els.length + j % els.length = j by rw [Nat.mul_comm]; exact Nat.div_add_mod j els.length] at this
            exact this
      · simp at h
    · simp at h

/-- A struct among the arguments. -/
theorem arg_agg {t : TypeId} {fs : Array Field} {ls : List Leaf} {base : Nat} {v : Value} {dd : DataW H} {ps : List MemPlace} (ht : P.underlying t = some (.struct fs)) (hval : Value.okWide P W .any base t v)
    (h : DataW.Trod enc P W 0 (fun _ => true) true t v dd ps) {d : Nat} (hl : leaves P d t = some ls) : ∃ cs : List Value, v = .agg cs.toArray ∧ cs.length = ls.length ∧ ∀ (i : Nat) (l : Leaf) (c : Value), ls[i]? = some l → cs[i]? = some c → isL W l c := by
  unfold Value.okWide at hval
  rw [ht] at hval
  obtain ⟨cs, rfl, _, _⟩ := hval
  obtain ⟨n, hn⟩ := h
  exact ⟨cs.toList, rfl, leaves_ok d hl hn⟩
/-- A slice among the arguments. -/
theorem arg_slice {t e : TypeId} {els : List Leaf} {base : Nat} {v : Value} {dd : DataW H} {ps : List MemPlace} (ht : P.underlying t = some (.slice e)) (hval : Value.okWide P W .any base t v)
    (h : DataW.Trod enc P W 0 (fun _ => true) true t v dd ps) {d : Nat} (hl : leaves P d t = some [.sl els]) : isL W (.sl els) v := by
  obtain ⟨a0, len0, cap0, rfl⟩ := okWide_slice ht hval
  obtain ⟨n, hn⟩ := h
  exact (leaves_ok d hl hn).2 0 _ _ rfl rfl
end

/-! ## Abstract memory -/
theorem add_none' (b o n : Nat) : (⟨b, o, none⟩ : Addr).add n = ⟨b, o + n, none⟩ := by
  unfold Addr.add; split
  · rename_i h; subst h; rfl
  · rfl

/-- A slice in abstract memory: the block behind all others, or none. -/
def AbsSlice (k : Nat) (els : List Leaf) (rows : List (List Value)) (av : Value) (blk : Option Blk) : Prop :=
  (av = .slice none 0 0 ∧ rows = []) ∨ (av = .slice (some ⟨k, 0, none⟩) rows.length els.length ∧ (rows = [] ∨ blk = some ⟨false, rows.flatten⟩))

theorem hget_push {H : Heap} {b : Option Blk} : hget (H ++ [b]) H.length = b := by simp [hget]
theorem add_slice {W : World} {B : Map} {H : Heap} {els : List Leaf} {v : Value} (h : isL W (.sl els) v) (he : 0 < els.length) (hr : HR sig W.heap.size B H W) (hro : ∀ i b, hget H i = some b → b.rw = false) :
    ∃ av B' blk rows, VR sig B' av v ∧ Ext B B' ∧ HR sig W.heap.size B' (H ++ [blk]) W ∧ (∀ i b, hget (H ++ [blk]) i = some b → b.rw = false) ∧ AbsSlice H.length els rows av blk ∧ ∀ r ∈ rows, RowOf els r := by
  have grow : ∀ (blk : Option Blk) (p : Bnd), p.size = none → (∀ b, blk = some b → b.rw = false ∧ p.blk < W.heap.size ∧ ∀ j x, b.cells[j]? = some x → W.cell? ⟨p.blk, p.off + j, none⟩ = some x ∧ atom x = true) →
      let B' : Map := fun i => if i = H.length then some p else B i
      Ext B B' ∧ HR sig W.heap.size B' (H ++ [blk]) W ∧ (∀ i b, hget (H ++ [blk]) i = some b → b.rw = false) := by
    intro blk p hp hb
    have hext : Ext B (fun i => if i = H.length then some p else B i) := fun i q hq => by
      have := hr.dom i q hq
      simp only
      rw [if_neg (by omega)]; exact hq
    have hro' : ∀ i b, hget (H ++ [blk]) i = some b → b.rw = false := fun i b hi => by
      rcases Nat.lt_or_ge i H.length with h1 | h1
      · rw [hget_append_lt h1] at hi; exact hro i b hi
      · have : i = H.length := by have := hget_lt hi; simp at this; omega
        subst this
        rw [hget_push] at hi
        exact (hb b hi).1
    refine ⟨hext, ⟨fun i b hi hw => ?_, fun i b hi hw => ?_, fun i j b c q r hi hj hw => ?_, fun i q hq => ?_, hr.big⟩, hro'⟩
    · rw [hro' i b hi] at hw; simp at hw
    · rcases Nat.lt_or_ge i H.length with h1 | h1
      · rw [hget_append_lt h1] at hi
        obtain ⟨g, o, e1, e2, e3⟩ := hr.ro i b hi hw
        refine ⟨g, o, hext i _ e1, e2, fun j x hx => ?_⟩
        obtain ⟨x', e4, e5⟩ := e3 j x hx
        exact ⟨x', e4, e5.mono hext⟩
      · have : i = H.length := by have := hget_lt hi; simp at this; omega
        subst this
        rw [hget_push] at hi
        obtain ⟨_, e2, e3⟩ := hb b hi
        obtain ⟨pb, po, ps⟩ := p
        simp only at hp; subst hp
        refine ⟨pb, po, by simp, e2, fun j x hx => ⟨x, (e3 j x hx).1, .atom x (e3 j x hx).2⟩⟩
    · rw [hro' i b hi] at hw; simp at hw
    · have hq : (if i = H.length then some p else B i) = some q := hq
      split at hq
      · rename_i hh; subst hh; simp
      · have := hr.dom i q hq; simp; omega
  rcases h with rfl | ⟨a, len, cap, rows, rfl, hlc, hrows⟩
  · obtain ⟨g1, g2, g3⟩ := grow none ⟨0, 0, none⟩ rfl (fun b hb => by simp at hb)
    exact ⟨.slice none 0 0, _, none, [], .atom _ rfl, g1, g2, g3, .inl ⟨rfl, rfl⟩, fun r hr => by simp at hr⟩
  · by_cases hl0 : len = 0
    · subst hl0
      have hnil : rows = [] := List.eq_nil_of_length_eq_zero hrows.len
      subst hnil
      obtain ⟨g1, g2, g3⟩ := grow none ⟨0, 0, none⟩ rfl (fun b hb => by simp at hb)
      refine ⟨.slice (some ⟨H.length, 0, none⟩) 0 els.length, _, none, [], .empty H.length 0 els.length cap ⟨0, 0, none⟩ (some a) (by simp) rfl, g1, g2, g3, .inr ⟨rfl, .inl rfl⟩, fun r hr => by simp at hr⟩
    · have hall : ∀ r ∈ rows, r.length = els.length := fun r hr => (hrows.row r hr).1
      have hfl : 0 < rows.flatten.length := by
        cases rows with
        | nil => have := hrows.len; simp at this; omega
        | cons r rows => have := hall r List.mem_cons_self; simp; omega
      obtain ⟨x0, hx0⟩ : ∃ x, rows.flatten[0]? = some x := ⟨_, List.getElem?_eq_getElem hfl⟩
      have hc0 := hrows.cell 0 x0 hx0
      obtain ⟨g, o, sp⟩ := a
      have ha0 : (⟨g, o, sp⟩ : Addr).add 0 = ⟨g, o, sp⟩ := by simp [Addr.add]
      rw [ha0] at hc0
      have hsp : sp = none := by
        unfold World.cell? at hc0
        split at hc0
        · cases sp with
          | none => rfl
          | some q => simp at hc0
        · simp at hc0
      subst hsp
      have hg : g < W.heap.size := by
        unfold World.cell? at hc0
        split at hc0
        · rename_i hh; exact (Array.getElem?_eq_some_iff.1 hh).1
        · simp at hc0
      obtain ⟨g1, g2, g3⟩ := grow (some ⟨false, rows.flatten⟩) ⟨g, o, none⟩ rfl (fun b hb => by
        injection hb with hb; subst hb
        refine ⟨rfl, hg, fun j x hx => ?_⟩
        have h1 := hrows.cell j x hx
        rw [add_none'] at h1
        refine ⟨h1, ?_⟩
        obtain ⟨r, h2, h3⟩ := flatten_at he rows hall j x hx
        have hro := hrows.row r (List.mem_of_getElem? h2)
        have hj : j % els.length < els.length := Nat.mod_lt _ he
        exact (hro.2 _ _ x (List.getElem?_eq_getElem hj) h3).atom)
      refine ⟨.slice (some ⟨H.length, 0, none⟩) rows.length els.length, _, some ⟨false, rows.flatten⟩, rows, ?_, g1, g2, g3, .inr ⟨rfl, .inr rfl⟩, hrows.row⟩
      rw [hrows.len]
      exact VR.slice H.length 0 len els.length cap ⟨g, o, none⟩ (by simp) hlc (fun s hs => by simp at hs)

/-- Rows as a list of things. -/
theorem rows_list {α : Type} {cells : α → List Value} {ok : α → Prop} : ∀ {rows : List (List Value)}, (∀ r ∈ rows, ∃ x, r = cells x ∧ ok x) → ∃ l : List α, rows = l.map cells ∧ ∀ x ∈ l, ok x := by
  intro rows
  induction rows with
  | nil => intro _; exact ⟨[], rfl, by simp⟩
  | cons r rows ih =>
    intro h
    obtain ⟨x, rfl, hx⟩ := h r List.mem_cons_self
    obtain ⟨l, rfl, hl⟩ := ih fun r' h' => h r' (List.mem_cons_of_mem _ h')
    exact ⟨x :: l, rfl, fun y hy => by rcases List.mem_cons.1 hy with rfl | hy; exact hx; exact hl y hy⟩

theorem i64_wf {n : Int} (h : (Lit.int .i64 n).wf = true) : -9223372036854775808 ≤ n ∧ n < 9223372036854775808 := by
  simp only [Lit.wf, Bool.and_eq_true, decide_eq_true_eq] at h
  simp [IntKind.min, IntKind.max, IntKind.signed, IntKind.bits] at h
  exact ⟨by omega, by omega⟩
theorem u8_wf' {n : Int} (h : (Lit.int .u8 n).wf = true) : 0 ≤ n ∧ n < 256 := by
  simp only [Lit.wf, Bool.and_eq_true, decide_eq_true_eq] at h
  simp [IntKind.min, IntKind.max, IntKind.signed, IntKind.bits] at h
  exact ⟨by omega, by omega⟩
theorem u16_wf' {n : Int} (h : (Lit.int .u16 n).wf = true) : 0 ≤ n ∧ n < 65536 := by
  simp only [Lit.wf, Bool.and_eq_true, decide_eq_true_eq] at h
  simp [IntKind.min, IntKind.max, IntKind.signed, IntKind.bits] at h
  exact ⟨by omega, by omega⟩

end Go.Proofs.Ytejcabdejoameaa.AI

/- Lengths of numbers in bits, and the library's functions that reckon them. -/
set_option linter.unusedSimpArgs false
namespace Go.Proofs.Ytejcabdejoameaa.AI
open Go

/-- How many bits a number has. -/
def blen (n : Nat) : Nat := if n = 0 then 0 else n.log2 + 1

theorem blen_zero : blen 0 = 0 := rfl
theorem blen_le {n k : Nat} : blen n ≤ k ↔ n < 2 ^ k := by
  unfold blen
  split
  · rename_i h; subst h; simp [Nat.two_pow_pos]
  · rename_i h
    rw [← Nat.log2_lt h]; omega
theorem blen_eq {n m : Nat} (h : ∀ k, n < 2 ^ k ↔ m ≤ k) : blen n = m := by
  have h1 := blen_le.2 ((h m).2 (Nat.le_refl _))
  have h2 := (h (blen n)).1 (blen_le.1 (Nat.le_refl _))
  omega
theorem blen_shift {n k : Nat} (h : 2 ^ k ≤ n) : blen n = k + blen (n / 2 ^ k) := by
  apply blen_eq
  intro j
  by_cases hj : k ≤ j
  · obtain ⟨i, rfl⟩ : ∃ i, j = k + i := ⟨j - k, by omega⟩
    have : n < 2 ^ (k + i) ↔ n / 2 ^ k < 2 ^ i := by
      rw [Nat.div_lt_iff_lt_mul (Nat.two_pow_pos k), Nat.pow_add, Nat.mul_comm]
    rw [this, ← blen_le]; omega
  · have h1 : 2 ^ j ≤ 2 ^ k := Nat.pow_le_pow_right (by omega) (by omega)
    constructor
    · intro h2; omega
    · intro h2; omega

theorem lenTab (x : Nat) (h : x < 256) : Lit0[x]? = some (UInt8.ofNat (blen x)) := by
  revert x; decide +kernel
theorem lenTab_nat (x : Nat) (h : x < 256) : (UInt8.ofNat (blen x)).toNat = blen x := by
  have h1 : blen x ≤ 8 := blen_le.2 h
  rw [UInt8.toNat_ofNat']; omega

theorem fdiv_nat (n m : Nat) : Int.fdiv (n : Int) (m : Int) = ((n / m : Nat) : Int) := by
  rw [Int.fdiv_eq_ediv_of_nonneg _ (by omega)]; rfl
theorem wrap_i64 {n : Int} (h1 : -9223372036854775808 ≤ n) (h2 : n < 9223372036854775808) : IntKind.i64.wrap n = n := by
  simp [IntKind.wrap, IntKind.bits, IntKind.signed]; omega
theorem wrap_u64 {n : Int} (h1 : 0 ≤ n) (h2 : n < 18446744073709551616) : IntKind.u64.wrap n = n := by
  simp [IntKind.wrap, IntKind.bits, IntKind.signed]; omega
theorem wrap_u64_eq (n : Int) : IntKind.u64.wrap n = n % 18446744073709551616 := by
  simp [IntKind.wrap, IntKind.bits, IntKind.signed]
theorem wrap_u8 (n : Int) : IntKind.u8.wrap n = n % 256 := by
  simp [IntKind.wrap, IntKind.bits, IntKind.signed]

theorem shr_nat (k : IntKind) (n : Nat) (s : Nat) (hs : s ≤ k.bits) : (n : Int).fdiv (2 ^ min ((s : Int)).toNat k.bits) = ((n / 2 ^ s : Nat) : Int) := by
  rw [show min ((s : Int)).toNat k.bits = s by simp; omega, ← fdiv_nat]; simp

end Go.Proofs.Ytejcabdejoameaa.AI

/- What the small functions of the writer and the reader come to. -/
set_option linter.unusedSimpArgs false
namespace Go.Proofs.Ytejcabdejoameaa.AI
open Go

theorem shr64 (a s : Nat) (hs : s ≤ 64) : binV .shr (.int .u64 a) (.int .u64 s) = some (.int .u64 ((a / 2 ^ s : Nat) : Int)) := by
  rw [binV_shr _ _ _ _ (by omega), shr_nat .u64 a s hs]
theorem shr64_32 (a : Nat) : binV .shr (.int .u64 a) (.int .u64 32) = some (.int .u64 ((a / 2 ^ 32 : Nat) : Int)) := shr64 a 32 (by decide)
theorem shr64_16 (a : Nat) : binV .shr (.int .u64 a) (.int .u64 16) = some (.int .u64 ((a / 2 ^ 16 : Nat) : Int)) := shr64 a 16 (by decide)
theorem shr64_8 (a : Nat) : binV .shr (.int .u64 a) (.int .u64 8) = some (.int .u64 ((a / 2 ^ 8 : Nat) : Int)) := shr64 a 8 (by decide)

theorem wrap_small (n : Nat) (h : n < 256) : IntKind.u8.wrap (n : Int) = n := by rw [wrap_u8]; omega
theorem wrap_len (n : Nat) (h : n < 1000) : IntKind.i64.wrap (n : Int) = n := wrap_i64 (by omega) (by omega)
theorem wrap_sum (c n : Nat) (h : c + n < 1000) : IntKind.i64.wrap ((c : Int) + (n : Int)) = ((c + n : Nat) : Int) := by rw [wrap_i64 (by omega) (by omega)]; rfl

theorem wrap_lit (c : Nat) (h : c < 1000) : IntKind.i64.wrap (c : Int) = c := wrap_len c h
theorem w0 (n : Nat) (h : n < 1000) : IntKind.i64.wrap ((0 : Int) + (n : Int)) = ((n : Nat) : Int) := by rw [wrap_i64 (by omega) (by omega)]; omega
theorem wc (c n : Nat) (h : c + n < 1000) : IntKind.i64.wrap ((c : Int) + (n : Int)) = ((c + n : Nat) : Int) := wrap_sum c n h

theorem len64 (n : Nat) (h : n < 18446744073709551616) : AC tbl 61 [.int .u64 n] [] = some (.int .i64 (blen n), []) := by
  apply AC_eq
  apply AC_wp (F := F61) rfl (by simp [F61]) (.inr rfl)
  have g1 : IntKind.i64.wrap (32 + 16) = 48 := by decide
  have g2 : IntKind.i64.wrap (32 + 8) = 40 := by decide
  have g3 : IntKind.i64.wrap (48 + 8) = 56 := by decide
  have g4 : IntKind.i64.wrap (0 + 16) = 16 := by decide
  have g5 : IntKind.i64.wrap (16 + 8) = 24 := by decide
  have g6 : IntKind.i64.wrap (0 + 8) = 8 := by decide
  by_cases h0 : (4294967296 : Int) ≤ (n : Nat)
  · have b0 : blen (n) = 32 + blen (n / 2 ^ 32) := blen_shift (by omega)
    by_cases h1 : (65536 : Int) ≤ (n / 2 ^ 32 : Nat)
    · have b1 : blen (n / 2 ^ 32) = 16 + blen (n / 2 ^ 32 / 2 ^ 16) := blen_shift (by omega)
      by_cases h2 : (256 : Int) ≤ (n / 2 ^ 32 / 2 ^ 16 : Nat)
      · have b2 : blen (n / 2 ^ 32 / 2 ^ 16) = 8 + blen (n / 2 ^ 32 / 2 ^ 16 / 2 ^ 8) := blen_shift (by omega)
        have hm : n / 2 ^ 32 / 2 ^ 16 / 2 ^ 8 < 256 := by omega
        have hb : blen (n / 2 ^ 32 / 2 ^ 16 / 2 ^ 8) ≤ 8 := blen_le.2 hm
        have hs : IntKind.i64.wrap ((56 : Int) + ((blen (n / 2 ^ 32 / 2 ^ 16 / 2 ^ 8) : Nat) : Int)) = (blen n : Int) := by rw [wrap_i64 (by omega) (by omega)]; omega
        simp only [F61, ↓yaa, ↓yab, ↓yac, ↓yad, ↓yae, ↓yaf, ↓yag, ↓yah, ↓yai, ↓yaj, ↓yak, ↓yal, ↓yam, ↓yan, ↓yao, ↓yap, ↓yaq, ↓yar, ↓yas, ↓yat, ↓yau, ↓yav, ↓yaw, ↓yax, yay, yaz, yba, ybb, ybc, ybd, ybe, ybf, ybg, ybh, ybi, ybj, ybk, ybl, ybm, ybn, ybo, ybp, ybq, ybr, ybs, ybt, ybu, ybv, ares, tup, ybw, ybx, yby, argsE, dval, aop, ev, evs, evo, evp, fillL, addrOf, intOf?, ybz, yca, ycb, ycc, ycd, yce, ycf, zah, zag, reduceIte, Nat.reduceEqDiff, ycg, ych, yci, ycj, yck, ycl, ycm, ycn, yco, ycp, ycq, ycr, zap, zao, reduceCtorEq, zbb, zbc, zba, zaz, Nat.reduceAdd, Nat.reduceMul, zaq, zar, eqPtr, zae, zaf, zab, zaa, zac, zad , h0, h1, h2, shr64_32, shr64_16, shr64_8, wrap_small _ hm, Int.toNat_natCast, lenTab _ hm, Int.natCast_nonneg, lenTab_nat _ hm, wrap_len (blen (n / 2 ^ 32 / 2 ^ 16 / 2 ^ 8)) (by omega), g1, g2, g3, g4, g5, g6, hs, and_self]
      · have hm : n / 2 ^ 32 / 2 ^ 16 < 256 := by omega
        have hb : blen (n / 2 ^ 32 / 2 ^ 16) ≤ 8 := blen_le.2 hm
        have hs : IntKind.i64.wrap ((48 : Int) + ((blen (n / 2 ^ 32 / 2 ^ 16) : Nat) : Int)) = (blen n : Int) := by rw [wrap_i64 (by omega) (by omega)]; omega
        simp only [F61, ↓yaa, ↓yab, ↓yac, ↓yad, ↓yae, ↓yaf, ↓yag, ↓yah, ↓yai, ↓yaj, ↓yak, ↓yal, ↓yam, ↓yan, ↓yao, ↓yap, ↓yaq, ↓yar, ↓yas, ↓yat, ↓yau, ↓yav, ↓yaw, ↓yax, yay, yaz, yba, ybb, ybc, ybd, ybe, ybf, ybg, ybh, ybi, ybj, ybk, ybl, ybm, ybn, ybo, ybp, ybq, ybr, ybs, ybt, ybu, ybv, ares, tup, ybw, ybx, yby, argsE, dval, aop, ev, evs, evo, evp, fillL, addrOf, intOf?, ybz, yca, ycb, ycc, ycd, yce, ycf, zah, zag, reduceIte, Nat.reduceEqDiff, ycg, ych, yci, ycj, yck, ycl, ycm, ycn, yco, ycp, ycq, ycr, zap, zao, reduceCtorEq, zbb, zbc, zba, zaz, Nat.reduceAdd, Nat.reduceMul, zaq, zar, eqPtr, zae, zaf, zab, zaa, zac, zad , h0, h1, h2, shr64_32, shr64_16, shr64_8, wrap_small _ hm, Int.toNat_natCast, lenTab _ hm, Int.natCast_nonneg, lenTab_nat _ hm, wrap_len (blen (n / 2 ^ 32 / 2 ^ 16)) (by omega), g1, g2, g3, g4, g5, g6, hs, and_self]
    · by_cases h2 : (256 : Int) ≤ (n / 2 ^ 32 : Nat)
      · have b2 : blen (n / 2 ^ 32) = 8 + blen (n / 2 ^ 32 / 2 ^ 8) := blen_shift (by omega)
        have hm : n / 2 ^ 32 / 2 ^ 8 < 256 := by omega
        have hb : blen (n / 2 ^ 32 / 2 ^ 8) ≤ 8 := blen_le.2 hm
        have hs : IntKind.i64.wrap ((40 : Int) + ((blen (n / 2 ^ 32 / 2 ^ 8) : Nat) : Int)) = (blen n : Int) := by rw [wrap_i64 (by omega) (by omega)]; omega
        simp only [F61, ↓yaa, ↓yab, ↓yac, ↓yad, ↓yae, ↓yaf, ↓yag, ↓yah, ↓yai, ↓yaj, ↓yak, ↓yal, ↓yam, ↓yan, ↓yao, ↓yap, ↓yaq, ↓yar, ↓yas, ↓yat, ↓yau, ↓yav, ↓yaw, ↓yax, yay, yaz, yba, ybb, ybc, ybd, ybe, ybf, ybg, ybh, ybi, ybj, ybk, ybl, ybm, ybn, ybo, ybp, ybq, ybr, ybs, ybt, ybu, ybv, ares, tup, ybw, ybx, yby, argsE, dval, aop, ev, evs, evo, evp, fillL, addrOf, intOf?, ybz, yca, ycb, ycc, ycd, yce, ycf, zah, zag, reduceIte, Nat.reduceEqDiff, ycg, ych, yci, ycj, yck, ycl, ycm, ycn, yco, ycp, ycq, ycr, zap, zao, reduceCtorEq, zbb, zbc, zba, zaz, Nat.reduceAdd, Nat.reduceMul, zaq, zar, eqPtr, zae, zaf, zab, zaa, zac, zad , h0, h1, h2, shr64_32, shr64_16, shr64_8, wrap_small _ hm, Int.toNat_natCast, lenTab _ hm, Int.natCast_nonneg, lenTab_nat _ hm, wrap_len (blen (n / 2 ^ 32 / 2 ^ 8)) (by omega), g1, g2, g3, g4, g5, g6, hs, and_self]
      · have hm : n / 2 ^ 32 < 256 := by omega
        have hb : blen (n / 2 ^ 32) ≤ 8 := blen_le.2 hm
        have hs : IntKind.i64.wrap ((32 : Int) + ((blen (n / 2 ^ 32) : Nat) : Int)) = (blen n : Int) := by rw [wrap_i64 (by omega) (by omega)]; omega
        simp only [F61, ↓yaa, ↓yab, ↓yac, ↓yad, ↓yae, ↓yaf, ↓yag, ↓yah, ↓yai, ↓yaj, ↓yak, ↓yal, ↓yam, ↓yan, ↓yao, ↓yap, ↓yaq, ↓yar, ↓yas, ↓yat, ↓yau, ↓yav, ↓yaw, ↓yax, yay, yaz, yba, ybb, ybc, ybd, ybe, ybf, ybg, ybh, ybi, ybj, ybk, ybl, ybm, ybn, ybo, ybp, ybq, ybr, ybs, ybt, ybu, ybv, ares, tup, ybw, ybx, yby, argsE, dval, aop, ev, evs, evo, evp, fillL, addrOf, intOf?, ybz, yca, ycb, ycc, ycd, yce, ycf, zah, zag, reduceIte, Nat.reduceEqDiff, ycg, ych, yci, ycj, yck, ycl, ycm, ycn, yco, ycp, ycq, ycr, zap, zao, reduceCtorEq, zbb, zbc, zba, zaz, Nat.reduceAdd, Nat.reduceMul, zaq, zar, eqPtr, zae, zaf, zab, zaa, zac, zad , h0, h1, h2, shr64_32, shr64_16, shr64_8, wrap_small _ hm, Int.toNat_natCast, lenTab _ hm, Int.natCast_nonneg, lenTab_nat _ hm, wrap_len (blen (n / 2 ^ 32)) (by omega), g1, g2, g3, g4, g5, g6, hs, and_self]
  · by_cases h1 : (65536 : Int) ≤ (n : Nat)
    · have b1 : blen (n) = 16 + blen (n / 2 ^ 16) := blen_shift (by omega)
      by_cases h2 : (256 : Int) ≤ (n / 2 ^ 16 : Nat)
      · have b2 : blen (n / 2 ^ 16) = 8 + blen (n / 2 ^ 16 / 2 ^ 8) := blen_shift (by omega)
        have hm : n / 2 ^ 16 / 2 ^ 8 < 256 := by omega
        have hb : blen (n / 2 ^ 16 / 2 ^ 8) ≤ 8 := blen_le.2 hm
        have hs : IntKind.i64.wrap ((24 : Int) + ((blen (n / 2 ^ 16 / 2 ^ 8) : Nat) : Int)) = (blen n : Int) := by rw [wrap_i64 (by omega) (by omega)]; omega
        simp only [F61, ↓yaa, ↓yab, ↓yac, ↓yad, ↓yae, ↓yaf, ↓yag, ↓yah, ↓yai, ↓yaj, ↓yak, ↓yal, ↓yam, ↓yan, ↓yao, ↓yap, ↓yaq, ↓yar, ↓yas, ↓yat, ↓yau, ↓yav, ↓yaw, ↓yax, yay, yaz, yba, ybb, ybc, ybd, ybe, ybf, ybg, ybh, ybi, ybj, ybk, ybl, ybm, ybn, ybo, ybp, ybq, ybr, ybs, ybt, ybu, ybv, ares, tup, ybw, ybx, yby, argsE, dval, aop, ev, evs, evo, evp, fillL, addrOf, intOf?, ybz, yca, ycb, ycc, ycd, yce, ycf, zah, zag, reduceIte, Nat.reduceEqDiff, ycg, ych, yci, ycj, yck, ycl, ycm, ycn, yco, ycp, ycq, ycr, zap, zao, reduceCtorEq, zbb, zbc, zba, zaz, Nat.reduceAdd, Nat.reduceMul, zaq, zar, eqPtr, zae, zaf, zab, zaa, zac, zad , h0, h1, h2, shr64_32, shr64_16, shr64_8, wrap_small _ hm, Int.toNat_natCast, lenTab _ hm, Int.natCast_nonneg, lenTab_nat _ hm, wrap_len (blen (n / 2 ^ 16 / 2 ^ 8)) (by omega), g1, g2, g3, g4, g5, g6, hs, and_self]
      · have hm : n / 2 ^ 16 < 256 := by omega
        have hb : blen (n / 2 ^ 16) ≤ 8 := blen_le.2 hm
        have hs : IntKind.i64.wrap ((16 : Int) + ((blen (n / 2 ^ 16) : Nat) : Int)) = (blen n : Int) := by rw [wrap_i64 (by omega) (by omega)]; omega
        simp only [F61, ↓yaa, ↓yab, ↓yac, ↓yad, ↓yae, ↓yaf, ↓yag, ↓yah, ↓yai, ↓yaj, ↓yak, ↓yal, ↓yam, ↓yan, ↓yao, ↓yap, ↓yaq, ↓yar, ↓yas, ↓yat, ↓yau, ↓yav, ↓yaw, ↓yax, yay, yaz, yba, ybb, ybc, ybd, ybe, ybf, ybg, ybh, ybi, ybj, ybk, ybl, ybm, ybn, ybo, ybp, ybq, ybr, ybs, ybt, ybu, ybv, ares, tup, ybw, ybx, yby, argsE, dval, aop, ev, evs, evo, evp, fillL, addrOf, intOf?, ybz, yca, ycb, ycc, ycd, yce, ycf, zah, zag, reduceIte, Nat.reduceEqDiff, ycg, ych, yci, ycj, yck, ycl, ycm, ycn, yco, ycp, ycq, ycr, zap, zao, reduceCtorEq, zbb, zbc, zba, zaz, Nat.reduceAdd, Nat.reduceMul, zaq, zar, eqPtr, zae, zaf, zab, zaa, zac, zad , h0, h1, h2, shr64_32, shr64_16, shr64_8, wrap_small _ hm, Int.toNat_natCast, lenTab _ hm, Int.natCast_nonneg, lenTab_nat _ hm, wrap_len (blen (n / 2 ^ 16)) (by omega), g1, g2, g3, g4, g5, g6, hs, and_self]
    · by_cases h2 : (256 : Int) ≤ (n : Nat)
      · have b2 : blen (n) = 8 + blen (n / 2 ^ 8) := blen_shift (by omega)
        have hm : n / 2 ^ 8 < 256 := by omega
        have hb : blen (n / 2 ^ 8) ≤ 8 := blen_le.2 hm
        have hs : IntKind.i64.wrap ((8 : Int) + ((blen (n / 2 ^ 8) : Nat) : Int)) = (blen n : Int) := by rw [wrap_i64 (by omega) (by omega)]; omega
        simp only [F61, ↓yaa, ↓yab, ↓yac, ↓yad, ↓yae, ↓yaf, ↓yag, ↓yah, ↓yai, ↓yaj, ↓yak, ↓yal, ↓yam, ↓yan, ↓yao, ↓yap, ↓yaq, ↓yar, ↓yas, ↓yat, ↓yau, ↓yav, ↓yaw, ↓yax, yay, yaz, yba, ybb, ybc, ybd, ybe, ybf, ybg, ybh, ybi, ybj, ybk, ybl, ybm, ybn, ybo, ybp, ybq, ybr, ybs, ybt, ybu, ybv, ares, tup, ybw, ybx, yby, argsE, dval, aop, ev, evs, evo, evp, fillL, addrOf, intOf?, ybz, yca, ycb, ycc, ycd, yce, ycf, zah, zag, reduceIte, Nat.reduceEqDiff, ycg, ych, yci, ycj, yck, ycl, ycm, ycn, yco, ycp, ycq, ycr, zap, zao, reduceCtorEq, zbb, zbc, zba, zaz, Nat.reduceAdd, Nat.reduceMul, zaq, zar, eqPtr, zae, zaf, zab, zaa, zac, zad , h0, h1, h2, shr64_32, shr64_16, shr64_8, wrap_small _ hm, Int.toNat_natCast, lenTab _ hm, Int.natCast_nonneg, lenTab_nat _ hm, wrap_len (blen (n / 2 ^ 8)) (by omega), g1, g2, g3, g4, g5, g6, hs, and_self]
      · have hm : n < 256 := by omega
        have hb : blen (n) ≤ 8 := blen_le.2 hm
        have hs : IntKind.i64.wrap ((0 : Int) + ((blen (n) : Nat) : Int)) = (blen n : Int) := by rw [wrap_i64 (by omega) (by omega)]; omega
        simp only [F61, ↓yaa, ↓yab, ↓yac, ↓yad, ↓yae, ↓yaf, ↓yag, ↓yah, ↓yai, ↓yaj, ↓yak, ↓yal, ↓yam, ↓yan, ↓yao, ↓yap, ↓yaq, ↓yar, ↓yas, ↓yat, ↓yau, ↓yav, ↓yaw, ↓yax, yay, yaz, yba, ybb, ybc, ybd, ybe, ybf, ybg, ybh, ybi, ybj, ybk, ybl, ybm, ybn, ybo, ybp, ybq, ybr, ybs, ybt, ybu, ybv, ares, tup, ybw, ybx, yby, argsE, dval, aop, ev, evs, evo, evp, fillL, addrOf, intOf?, ybz, yca, ycb, ycc, ycd, yce, ycf, zah, zag, reduceIte, Nat.reduceEqDiff, ycg, ych, yci, ycj, yck, ycl, ycm, ycn, yco, ycp, ycq, ycr, zap, zao, reduceCtorEq, zbb, zbc, zba, zaz, Nat.reduceAdd, Nat.reduceMul, zaq, zar, eqPtr, zae, zaf, zab, zaa, zac, zad , h0, h1, h2, shr64_32, shr64_16, shr64_8, wrap_small _ hm, Int.toNat_natCast, lenTab _ hm, Int.natCast_nonneg, lenTab_nat _ hm, wrap_len (blen (n)) (by omega), g1, g2, g3, g4, g5, g6, hs, and_self]

end Go.Proofs.Ytejcabdejoameaa.AI

/- Widths. -/
set_option linter.unusedSimpArgs false
namespace Go.Proofs.Ytejcabdejoameaa.AI
open Go

theorem len64_any (n : Nat) (h : n < 18446744073709551616) (H : Heap) : AC tbl 61 [.int .u64 n] H = some (.int .i64 (blen n), H) :=
  AC_iso (F := F61) rfl (by simp [F61]) rfl rfl rfl (len64 n h) H
theorem len (n : Nat) (h : n < 18446744073709551616) : AC tbl 49 [.int .u64 n] [] = some (.int .i64 (blen n), []) := by
  apply AC_eq
  apply AC_wp (F := F49) rfl (by simp [F49]) (.inr rfl)
  simp only [F49, ↓yaa, ↓yab, ↓yac, ↓yad, ↓yae, ↓yaf, ↓yag, ↓yah, ↓yai, ↓yaj, ↓yak, ↓yal, ↓yam, ↓yan, ↓yao, ↓yap, ↓yaq, ↓yar, ↓yas, ↓yat, ↓yau, ↓yav, ↓yaw, ↓yax, yay, yaz, yba, ybb, ybc, ybd, ybe, ybf, ybg, ybh, ybi, ybj, ybk, ybl, ybm, ybn, ybo, ybp, ybq, ybr, ybs, ybt, ybu, ybv, ares, tup, ybw, ybx, yby, argsE, dval, aop, ev, evs, evo, evp, fillL, addrOf, intOf?, ybz, yca, ycb, ycc, ycd, yce, ycf, zah, zag, reduceIte, Nat.reduceEqDiff, ycg, ych, yci, ycj, yck, ycl, ycm, ycn, yco, ycp, ycq, ycr, zap, zao, reduceCtorEq, zbb, zbc, zba, zaz, Nat.reduceAdd, Nat.reduceMul, zaq, zar, eqPtr, zae, zaf, zab, zaa, zac, zad , len64 n h, and_self]
theorem len_any (n : Nat) (h : n < 18446744073709551616) (H : Heap) : AC tbl 49 [.int .u64 n] H = some (.int .i64 (blen n), H) :=
  AC_iso (F := F49) rfl (by simp [F49]) rfl rfl rfl (len n h) H

/-- The width of a number. -/
def wd (n : Int) : Nat := if n < 0 then 0 else max 1 (blen n.toNat)
theorem wd_of {n : Nat} : wd n = max 1 (blen n) := by simp [wd]; intro h; omega

theorem width0 (n : Int) (h1 : n < 9223372036854775808) : AC tbl 24 [.int .i64 n] [] = some (.int .i64 (wd n), []) := by
  apply AC_eq
  apply AC_wp (F := F24) rfl (by simp [F24]) (.inr rfl)
  by_cases h : n < 0
  · simp only [F24, ↓yaa, ↓yab, ↓yac, ↓yad, ↓yae, ↓yaf, ↓yag, ↓yah, ↓yai, ↓yaj, ↓yak, ↓yal, ↓yam, ↓yan, ↓yao, ↓yap, ↓yaq, ↓yar, ↓yas, ↓yat, ↓yau, ↓yav, ↓yaw, ↓yax, yay, yaz, yba, ybb, ybc, ybd, ybe, ybf, ybg, ybh, ybi, ybj, ybk, ybl, ybm, ybn, ybo, ybp, ybq, ybr, ybs, ybt, ybu, ybv, ares, tup, ybw, ybx, yby, argsE, dval, aop, ev, evs, evo, evp, fillL, addrOf, intOf?, ybz, yca, ycb, ycc, ycd, yce, ycf, zah, zag, reduceIte, Nat.reduceEqDiff, ycg, ych, yci, ycj, yck, ycl, ycm, ycn, yco, ycp, ycq, ycr, zap, zao, reduceCtorEq, zbb, zbc, zba, zaz, Nat.reduceAdd, Nat.reduceMul, zaq, zar, eqPtr, zae, zaf, zab, zaa, zac, zad , h, wd, and_self]; simp
  · obtain ⟨m, rfl⟩ : ∃ m : Nat, n = m := ⟨n.toNat, by omega⟩
    have hl := len m (by omega)
    simp only [F24, ↓yaa, ↓yab, ↓yac, ↓yad, ↓yae, ↓yaf, ↓yag, ↓yah, ↓yai, ↓yaj, ↓yak, ↓yal, ↓yam, ↓yan, ↓yao, ↓yap, ↓yaq, ↓yar, ↓yas, ↓yat, ↓yau, ↓yav, ↓yaw, ↓yax, yay, yaz, yba, ybb, ybc, ybd, ybe, ybf, ybg, ybh, ybi, ybj, ybk, ybl, ybm, ybn, ybo, ybp, ybq, ybr, ybs, ybt, ybu, ybv, ares, tup, ybw, ybx, yby, argsE, dval, aop, ev, evs, evo, evp, fillL, addrOf, intOf?, ybz, yca, ycb, ycc, ycd, yce, ycf, zah, zag, reduceIte, Nat.reduceEqDiff, ycg, ych, yci, ycj, yck, ycl, ycm, ycn, yco, ycp, ycq, ycr, zap, zao, reduceCtorEq, zbb, zbc, zba, zaz, Nat.reduceAdd, Nat.reduceMul, zaq, zar, eqPtr, zae, zaf, zab, zaa, zac, zad , h, wrap_u64 (Int.natCast_nonneg m) (by omega : (m : Int) < 18446744073709551616), hl, wd_of]
    refine ⟨?_, trivial⟩
    by_cases h3 : ((blen m : Nat) : Int) > 1
    · rw [if_pos h3]; congr 2; omega
    · rw [if_neg h3]; congr 1; omega
theorem width (n : Int) (h1 : n < 9223372036854775808) (H : Heap) : AC tbl 24 [.int .i64 n] H = some (.int .i64 (wd n), H) :=
  AC_iso (F := F24) rfl (by simp [F24]) rfl rfl rfl (width0 n h1) H

def lim (n : Int) : Bool := decide (1 ≤ n) && decide (n ≤ 4095)
theorem limit0 (n : Int) : AC tbl 55 [.int .i64 n] [] = some (.bool (lim n), []) := by
  apply AC_eq
  apply AC_wp (F := F55) rfl (by simp [F55]) (.inr rfl)
  by_cases h : 1 ≤ n <;> simp only [F55, ↓yaa, ↓yab, ↓yac, ↓yad, ↓yae, ↓yaf, ↓yag, ↓yah, ↓yai, ↓yaj, ↓yak, ↓yal, ↓yam, ↓yan, ↓yao, ↓yap, ↓yaq, ↓yar, ↓yas, ↓yat, ↓yau, ↓yav, ↓yaw, ↓yax, yay, yaz, yba, ybb, ybc, ybd, ybe, ybf, ybg, ybh, ybi, ybj, ybk, ybl, ybm, ybn, ybo, ybp, ybq, ybr, ybs, ybt, ybu, ybv, ares, tup, ybw, ybx, yby, argsE, dval, aop, ev, evs, evo, evp, fillL, addrOf, intOf?, ybz, yca, ycb, ycc, ycd, yce, ycf, zah, zag, reduceIte, Nat.reduceEqDiff, ycg, ych, yci, ycj, yck, ycl, ycm, ycn, yco, ycp, ycq, ycr, zap, zao, reduceCtorEq, zbb, zbc, zba, zaz, Nat.reduceAdd, Nat.reduceMul, zaq, zar, eqPtr, zae, zaf, zab, zaa, zac, zad , h, lim, zaw, Bool.false_and, and_self]
theorem limit (n : Int) (H : Heap) : AC tbl 55 [.int .i64 n] H = some (.bool (lim n), H) :=
  AC_iso (F := F55) rfl (by simp [F55]) rfl rfl rfl (limit0 n) H

theorem blen_half {n : Nat} (h : 2 ≤ n) : blen n = 1 + blen (n / 2) := by
  have := blen_shift (n := n) (k := 1) (by simpa using h); simpa using this
theorem refWidth0 (n : Int) (h1 : n < 9223372036854775808) : AC tbl 54 [.int .i64 n] [] = some (.int .i64 (wd n), []) := by
  apply AC_eq
  apply AC_wp (F := F54) rfl (by simp [F54]) (.inr rfl)
  by_cases h : n < 0
  · simp only [F54, ↓yaa, ↓yab, ↓yac, ↓yad, ↓yae, ↓yaf, ↓yag, ↓yah, ↓yai, ↓yaj, ↓yak, ↓yal, ↓yam, ↓yan, ↓yao, ↓yap, ↓yaq, ↓yar, ↓yas, ↓yat, ↓yau, ↓yav, ↓yaw, ↓yax, yay, yaz, yba, ybb, ybc, ybd, ybe, ybf, ybg, ybh, ybi, ybj, ybk, ybl, ybm, ybn, ybo, ybp, ybq, ybr, ybs, ybt, ybu, ybv, ares, tup, ybw, ybx, yby, argsE, dval, aop, ev, evs, evo, evp, fillL, addrOf, intOf?, ybz, yca, ycb, ycc, ycd, yce, ycf, zah, zag, reduceIte, Nat.reduceEqDiff, ycg, ych, yci, ycj, yck, ycl, ycm, ycn, yco, ycp, ycq, ycr, zap, zao, reduceCtorEq, zbb, zbc, zba, zaz, Nat.reduceAdd, Nat.reduceMul, zaq, zar, eqPtr, zae, zaf, zab, zaa, zac, zad , h, wd, and_self]; simp
  · obtain ⟨m, rfl⟩ : ∃ m : Nat, n = m := ⟨n.toNat, by omega⟩
    have q0 : ¬ (2 : Int) = 0 := by omega
    simp only [F54, ↓yaa, ↓yab, ↓yac, ↓yad, ↓yae, ↓yaf, ↓yag, ↓yai, ↓yao, ybk, ybl, ybm, ybn, argsE, dval, aop, ev, ybz, yca, ycb, ycc, ycd, yce, ycf, zah, zag, reduceIte, Nat.reduceEqDiff, ycg, ycq, h, zbc]
    apply AW_loop_inv (fun k e H => ∃ (a c : Nat), a = k ∧ H = [] ∧ e = [(0, .int .i64 a), (3, .int .i64 c)] ∧ c + max 1 (blen a) = 1 + wd m ∧ a < 9223372036854775808 ∧ c < 1000) _ m
    · exact ⟨m, 1, rfl, rfl, rfl, by rw [wd_of], by omega, by omega⟩
    · rintro k e H ⟨a, c, rfl, rfl, rfl, h2, h3, h4⟩
      by_cases h5 : (2 : Int) ≤ a
      · have hb := blen_half (n := a) (by omega)
        have hq : IntKind.i64.wrap ((a : Int).tdiv 2) = ((a / 2 : Nat) : Int) := by
          rw [show ((a : Int)).tdiv 2 = ((a / 2 : Nat) : Int) from rfl, wrap_i64 (by omega) (by omega)]
        have hw : wd m ≤ 64 := by
          rw [wd_of]; have := (@blen_le m 64).2 (by omega); omega
        have hc : IntKind.i64.wrap ((c : Int) + 1) = ((c + 1 : Nat) : Int) := by rw [wrap_i64 (by omega) (by omega)]; rfl
        simp only [↓yaa, ↓yab, ↓yac, ↓yad, ↓yae, ↓yaf, ↓yag, ↓yah, ↓yai, ↓yaj, ↓yak, ↓yal, ↓yam, ↓yan, ↓yao, ↓yap, ↓yaq, ↓yar, ↓yas, ↓yat, ↓yau, ↓yav, ↓yaw, ↓yax, yay, yaz, yba, ybb, ybc, ybd, ybe, ybf, ybg, ybh, ybi, ybj, ybk, ybl, ybm, ybn, ybo, ybp, ybq, ybr, ybs, ybt, ybu, ybv, ares, tup, ybw, ybx, yby, argsE, dval, aop, ev, evs, evo, evp, fillL, addrOf, intOf?, ybz, yca, ycb, ycc, ycd, yce, ycf, zah, zag, reduceIte, Nat.reduceEqDiff, ycg, ych, yci, ycj, yck, ycl, ycm, ycn, yco, ycp, ycq, ycr, zap, zao, reduceCtorEq, zbb, zbc, zba, zaz, Nat.reduceAdd, Nat.reduceMul, zaq, zar, eqPtr, zae, zaf, zab, zaa, zac, zad , binV_quo _ _ _ q0, h5, hq, hc]
        have h6 : (blen (a / 2)) ≥ 1 := by
          have := @blen_le (a / 2) 0
          omega
        exact ⟨a / 2, by omega, a / 2, c + 1, rfl, rfl, rfl, by omega, by omega, by omega⟩
      · have hb : blen a ≤ 1 := blen_le.2 (by omega)
        simp only [↓yaa, ↓yab, ↓yac, ↓yad, ↓yae, ↓yaf, ↓yag, ↓yah, ↓yai, ↓yaj, ↓yak, ↓yal, ↓yam, ↓yan, ↓yao, ↓yap, ↓yaq, ↓yar, ↓yas, ↓yat, ↓yau, ↓yav, ↓yaw, ↓yax, yay, yaz, yba, ybb, ybc, ybd, ybe, ybf, ybg, ybh, ybi, ybj, ybk, ybl, ybm, ybn, ybo, ybp, ybq, ybr, ybs, ybt, ybu, ybv, ares, tup, ybw, ybx, yby, argsE, dval, aop, ev, evs, evo, evp, fillL, addrOf, intOf?, ybz, yca, ycb, ycc, ycd, yce, ycf, zah, zag, reduceIte, Nat.reduceEqDiff, ycg, ych, yci, ycj, yck, ycl, ycm, ycn, yco, ycp, ycq, ycr, zap, zao, reduceCtorEq, zbb, zbc, zba, zaz, Nat.reduceAdd, Nat.reduceMul, zaq, zar, eqPtr, zae, zaf, zab, zaa, zac, zad , h5]
        refine ⟨?_, trivial⟩
        congr 1; omega
theorem refWidth (n : Int) (h1 : n < 9223372036854775808) (H : Heap) : AC tbl 54 [.int .i64 n] H = some (.int .i64 (wd n), H) :=
  AC_iso (F := F54) rfl (by simp [F54]) rfl rfl rfl (refWidth0 n h1) H

end Go.Proofs.Ytejcabdejoameaa.AI

/- Strings of bits, and the bytes that hold them. -/
set_option linter.unusedSimpArgs false
namespace Go.Proofs.Ytejcabdejoameaa.AI
open Go

/-- A number's bits, the highest first. -/
def bitsOf : Nat → Nat → List Bool
  | 0, _ => []
  | w + 1, n => n.testBit w :: bitsOf w n
theorem bitsOf_length (w n : Nat) : (bitsOf w n).length = w := by
  induction w with
  | zero => rfl
  | succ w ih => simp [bitsOf, ih]

/-- The bytes hold the bits; behind these all is 0. -/
structure Bits (d : List Nat) (bs : List Bool) : Prop where
  small : ∀ x ∈ d, x < 256
  bit : ∀ j x, d[j]? = some x → ∀ k, k < 8 → x.testBit (7 - k) = bs.getD (8 * j + k) false

theorem Bits.nil : Bits [] [] := ⟨fun _ h => by simp at h, fun j x h => by simp at h⟩
theorem Bits.zero {d : List Nat} {bs : List Bool} (h : Bits d bs) (hl : bs.length ≤ 8 * d.length) : Bits (d ++ [0]) bs := by
  refine ⟨fun x hx => ?_, fun j x hx k hk => ?_⟩
  · rcases List.mem_append.1 hx with hx | hx
    · exact h.small x hx
    · simp at hx; omega
  · rw [List.getElem?_append] at hx
    split at hx
    · exact h.bit j x hx k hk
    · have : j = d.length ∧ x = 0 := by
        rcases Nat.lt_or_ge (j - d.length) 1 with h1 | h1
        · have : j - d.length = 0 := by omega
          rw [this] at hx; simp at hx; exact ⟨by omega, hx.symm⟩
        · rw [List.getElem?_eq_none (by simpa using h1)] at hx; simp at hx
      obtain ⟨rfl, rfl⟩ := this
      rw [List.getD_eq_getElem?_getD, List.getElem?_eq_none (by omega)]
      simp
theorem Bits.put {d : List Nat} {bs : List Bool} (h : Bits d bs) (b : Bool) {j x : Nat} (hj : j = bs.length / 8) (hx : d[j]? = some x) :
    Bits (d.set j (x ||| (b.toNat <<< (7 - bs.length % 8)))) (bs ++ [b]) := by
  have hlt : j < d.length := (List.getElem?_eq_some_iff.1 hx).1
  have hxs : x < 256 := h.small x (List.mem_of_getElem? hx)
  have hb : b.toNat <<< (7 - bs.length % 8) < 256 := by
    rw [Nat.shiftLeft_eq]
    have h1 : 2 ^ (7 - bs.length % 8) ≤ 2 ^ 7 := Nat.pow_le_pow_right (by omega) (by omega)
    have h2 : b.toNat ≤ 1 := by cases b <;> simp
    calc b.toNat * 2 ^ (7 - bs.length % 8) ≤ 1 * 2 ^ 7 := Nat.mul_le_mul h2 h1
      _ < 256 := by decide
  refine ⟨fun y hy => ?_, fun i y hy k hk => ?_⟩
  · rcases List.mem_or_eq_of_mem_set hy with hy | rfl
    · exact h.small y hy
    · exact Nat.or_lt_two_pow (n := 8) hxs hb
  · rw [List.getElem?_set] at hy
    split at hy
    · rename_i hji
      subst hji
      simp only [Option.some.injEq] at hy
      subst hy
      rw [Nat.testBit_or, h.bit j x hx k hk, Nat.testBit_shiftLeft]
      have hbt : ∀ i, b.toNat.testBit i = (decide (i = 0) && b) := by
        intro i; cases b
        · simp
        · cases i <;> simp [Nat.testBit_succ]
      rw [hbt]
      simp only [List.getD_eq_getElem?_getD, List.getElem?_append]
      by_cases h1 : 8 * j + k < bs.length
      · rw [if_pos h1]
        have : decide (7 - bs.length % 8 ≤ 7 - k) = true ∧ ¬ (7 - k - (7 - bs.length % 8) = 0) := by
          constructor
          · simp; omega
          · omega
        simp [this.2]
      · rw [if_neg h1, List.getElem?_eq_none (by omega : bs.length ≤ 8 * j + k)]
        by_cases h2 : 8 * j + k = bs.length
        · have e1 : 8 * j + k - bs.length = 0 := by omega
          have e2 : 7 - k - (7 - bs.length % 8) = 0 := by omega
          have e3 : 7 - bs.length % 8 ≤ 7 - k := by omega
          simp [e1, e2, e3]
        · have e3 : ¬ (7 - bs.length % 8 ≤ 7 - k) := by omega
          have e1 : 8 * j + k - bs.length = (8 * j + k - bs.length - 1) + 1 := by omega
          rw [e1]
          simp [e3]
    · have hne := h.bit i y hy k hk
      rw [hne]
      simp only [List.getD_eq_getElem?_getD, List.getElem?_append]
      split
      · rfl
      · rename_i h1 h2
        rw [List.getElem?_eq_none (by omega : bs.length ≤ 8 * i + k)]
        have : 8 * i + k - bs.length = (8 * i + k - bs.length - 1) + 1 := by omega
        rw [this]
        simp

theorem Bits.same {d d' : List Nat} {bs : List Bool} (h : Bits d bs) (h' : Bits d' bs) (hl : d.length = d'.length) : d = d' := by
  apply List.ext_getElem hl
  intro j h1 h2
  apply Nat.eq_of_testBit_eq
  intro i
  by_cases hi : i < 8
  · have a := h.bit j _ (List.getElem?_eq_getElem h1) (7 - i) (by omega)
    have b := h'.bit j _ (List.getElem?_eq_getElem h2) (7 - i) (by omega)
    rw [show 7 - (7 - i) = i by omega] at a b
    rw [a, b]
  · have a : d[j] < 2 ^ i := Nat.lt_of_lt_of_le (h.small _ (List.getElem_mem h1)) (by
      calc 256 = 2 ^ 8 := by decide
        _ ≤ 2 ^ i := Nat.pow_le_pow_right (by omega) (by omega))
    have b : d'[j] < 2 ^ i := Nat.lt_of_lt_of_le (h'.small _ (List.getElem_mem h2)) (by
      calc 256 = 2 ^ 8 := by decide
        _ ≤ 2 ^ i := Nat.pow_le_pow_right (by omega) (by omega))
    rw [Nat.testBit_lt_two_pow a, Nat.testBit_lt_two_pow b]

/-! Operations on bytes. -/
theorem and1 (a : Nat) (h : a < 18446744073709551616) : binV .and (.int .u64 a) (.int .u64 1) = some (.int .u64 ((a % 2 : Nat) : Int)) := by
  rw [binV_and, wrap_u64_eq]
  congr 2
  have : (BitVec.ofInt IntKind.u64.bits (a : Int) &&& BitVec.ofInt IntKind.u64.bits 1).toNat = a % 2 := by
    rw [BitVec.toNat_and]
    simp only [BitVec.toNat_ofInt, IntKind.bits]
    have : ((a : Int) % ((2 ^ 64 : Nat) : Int)).toNat = a := by
      rw [show ((2 ^ 64 : Nat) : Int) = 18446744073709551616 by decide]; omega
    rw [this, show ((1 : Int) % ((2 ^ 64 : Nat) : Int)).toNat = 1 by decide, Nat.and_one_is_mod]
  rw [this]; omega
theorem or8 (a c : Nat) (ha : a < 256) (hc : c < 256) : binV .or (.int .u8 a) (.int .u8 c) = some (.int .u8 ((a ||| c : Nat) : Int)) := by
  rw [binV_or, wrap_u8]
  congr 2
  have : (BitVec.ofInt IntKind.u8.bits (a : Int) ||| BitVec.ofInt IntKind.u8.bits (c : Int)).toNat = a ||| c := by
    rw [BitVec.toNat_or]
    simp only [BitVec.toNat_ofInt, IntKind.bits]
    have e1 : ((a : Int) % ((2 ^ 8 : Nat) : Int)).toNat = a := by
      rw [show ((2 ^ 8 : Nat) : Int) = 256 by decide]; omega
    have e2 : ((c : Int) % ((2 ^ 8 : Nat) : Int)).toNat = c := by
      rw [show ((2 ^ 8 : Nat) : Int) = 256 by decide]; omega
    rw [e1, e2]
  rw [this]
  have := Nat.or_lt_two_pow (n := 8) (x := a) (y := c) ha hc
  omega
theorem shl8 (b : Bool) (s : Nat) (hs : s ≤ 7) : binV .shl (.int .u8 (b.toNat : Nat)) (.int .i64 (s : Nat)) = some (.int .u8 ((b.toNat <<< s : Nat) : Int)) := by
  rw [binV_shl _ _ _ _ (by omega), wrap_u8]
  congr 2
  have h0 : min ((s : Int)).toNat IntKind.u8.bits = s := by simp [IntKind.bits]; omega
  rw [h0, Nat.shiftLeft_eq]
  have h1 : 2 ^ s ≤ 2 ^ 7 := Nat.pow_le_pow_right (by omega) hs
  have h2 : b.toNat ≤ 1 := by cases b <;> simp
  have h3 : b.toNat * 2 ^ s ≤ 1 * 2 ^ 7 := Nat.mul_le_mul h2 h1
  have : (((b.toNat * 2 ^ s : Nat)) : Int) = (b.toNat : Int) * 2 ^ s := by push_cast; rfl
  rw [← this]; omega
theorem testBit_mod (n i : Nat) : n / 2 ^ i % 2 = (n.testBit i).toNat := by
  rw [Nat.testBit_eq_decide_div_mod_eq]
  rcases Nat.mod_two_eq_zero_or_one (n / 2 ^ i) with h | h <;> simp [h]

end Go.Proofs.Ytejcabdejoameaa.AI

/- The writer's memory, and a field's bits laid into it. -/
set_option linter.unusedSimpArgs false
namespace Go.Proofs.Ytejcabdejoameaa.AI
open Go

theorem AW_seq_mid {tbl : Nat → Option AFn} {a b : ACode} {e : Env} {H : Heap} {Q : AExit → Env → Heap → Prop} (M : Env → Heap → Prop) (h1 : AW tbl a e H (Then M Q)) (h2 : ∀ e H, M e H → AW tbl b e H Q) : AW tbl (.seq a b) e H Q := by
  rw [AW_seq]
  refine h1.mono fun x e H hx => ?_
  cases x with
  | normal => exact h2 e H hx
  | ret => exact hx
  | exit i => exact hx

/-- Memory but for some blocks is as it was; new blocks may have come. -/
def Frm (O : List Nat) (H H' : Heap) : Prop := H.length ≤ H'.length ∧ ∀ i, i < H.length → i ∉ O → hget H' i = hget H i
theorem Frm.refl (O : List Nat) (H : Heap) : Frm O H H := ⟨Nat.le_refl _, fun _ _ _ => rfl⟩
theorem Frm.mono {O O' : List Nat} {H H' : Heap} (h : Frm O H H') (hs : ∀ i ∈ O, i ∈ O') : Frm O' H H' := ⟨h.1, fun i hi hn => h.2 i hi fun hm => hn (hs i hm)⟩
/-- Two steps: what the second writes was the first's, or is new. -/
theorem Frm.trans {O O' : List Nat} {H H1 H2 : Heap} (h : Frm O H H1) (k : Frm O' H1 H2) (hs : ∀ i ∈ O', i ∈ O ∨ H.length ≤ i) : Frm O H H2 := by
  refine ⟨Nat.le_trans h.1 k.1, fun i hi hn => ?_⟩
  rw [k.2 i (Nat.lt_of_lt_of_le hi h.1) (fun hm => ?_), h.2 i hi hn]
  rcases hs i hm with h1 | h1
  · exact hn h1
  · omega
theorem Frm.set {O : List Nat} {H H' : Heap} (h : Frm O H H') {i : Nat} (x : Option Blk) (hi : i ∈ O ∨ H.length ≤ i) : Frm O H (H'.set i x) := by
  refine ⟨by simpa using h.1, fun j hj hn => ?_⟩
  rw [yeo (fun e => by subst e; rcases hi with hi | hi; exact hn hi; omega)]
  exact h.2 j hj hn
theorem Frm.push {O : List Nat} {H H' : Heap} (h : Frm O H H') (x : Option Blk) : Frm O H (H' ++ [x]) := by
  refine ⟨by simp; have := h.1; omega, fun j hj hn => ?_⟩
  rw [hget_append_lt (by have := h.1; omega)]
  exact h.2 j hj hn

theorem hget_app {H : Heap} {x : Option Blk} {i : Nat} : hget (H ++ [x]) i = if i < H.length then hget H i else if i = H.length then x else none := by
  split
  · exact hget_append_lt ‹_›
  · split
    · rename_i h; subst h; simp [hget]
    · unfold hget; rw [List.getElem?_eq_none (by simp; omega)]; rfl

theorem ycs (k : IntKind) (n : Int) : (Value.int k n).cells.size = 1 := rfl
theorem yct (a : Option Addr) (n c : Nat) : (Value.slice a n c).cells.size = 1 := rfl
theorem ycu (s : ByteArray) : (Value.string s).cells.size = 1 := rfl
theorem ycv (b : Bool) : (Value.bool b).cells.size = 1 := rfl
theorem ycw (k : IntKind) (n : Int) : (Value.int k n).cells.toList = [.int k n] := rfl
theorem ycx (a : Option Addr) (n c : Nat) : (Value.slice a n c).cells.toList = [.slice a n c] := rfl
theorem ycy (s : ByteArray) : (Value.string s).cells.toList = [.string s] := rfl
theorem ycz (b : Bool) : (Value.bool b).cells.toList = [.bool b] := rfl

theorem take1 (x : Value) : List.take 1 [x] = [x] := rfl
theorem yem {H : Heap} {x : Option Blk} {i : Nat} (h : i < H.length) : hget (H ++ [x]) i = hget H i := hget_append_lt h

def u8s (d : List Nat) : List Value := d.map fun (x : Nat) => Value.int .u8 (x : Int)
theorem u8s_length (d : List Nat) : (u8s d).length = d.length := by simp [u8s]
theorem u8s_get (d : List Nat) (i : Nat) : (u8s d)[i]? = (d[i]?).map fun (x : Nat) => Value.int .u8 (x : Int) := by simp [u8s]
theorem u8s_set (d : List Nat) (i x : Nat) : (u8s d).set i (.int .u8 (x : Int)) = u8s (d.set i x) := by simp [u8s, List.map_set]
theorem u8s_append (a b : List Nat) : u8s a ++ u8s b = u8s (a ++ b) := by simp [u8s]

/-- The slice of a writer's bytes. -/
def sliceOf (o : Option Nat) (d : List Nat) : Value := match o with
  | none => .slice none 0 0
  | some q => .slice (some ⟨q, 0, none⟩) d.length 1

/-- A writer's memory: its own block and its bytes' block. -/
structure WRaw (H : Heap) (p : Nat) (o : Option Nat) (d : List Nat) (n : Nat) (err : Int) : Prop where
  blk : hget H p = some ⟨true, [sliceOf o d, .int .i64 (n : Int), .int .i64 err]⟩
  nil : o = none → d = []
  dat : ∀ q, o = some q → q ≠ p ∧ hget H q = some ⟨true, u8s d⟩

structure WSt (H : Heap) (p : Nat) (o : Option Nat) (bs : List Bool) (err : Int) : Prop where
  ex : ∃ d, WRaw H p o d bs.length err ∧ Bits d bs ∧ d.length = (bs.length + 7) / 8

theorem WRaw.frame {H H' : Heap} {p : Nat} {o : Option Nat} {d : List Nat} {n : Nat} {err : Int} (h : WRaw H p o d n err) {O : List Nat} (f : Frm O H H') (hp : p ∉ O) (ho : ∀ q, o = some q → q ∉ O) : WRaw H' p o d n err := by
  refine ⟨?_, h.nil, fun q hq => ⟨(h.dat q hq).1, ?_⟩⟩
  · rw [f.2 p (hget_lt h.blk) hp]; exact h.blk
  · rw [f.2 q (hget_lt (h.dat q hq).2) (ho q hq)]; exact (h.dat q hq).2
theorem WSt.frame {H H' : Heap} {p : Nat} {o : Option Nat} {bs : List Bool} {err : Int} (h : WSt H p o bs err) {O : List Nat} (f : Frm O H H') (hp : p ∉ O) (ho : ∀ q, o = some q → q ∉ O) : WSt H' p o bs err := by
  obtain ⟨d, h1, h2⟩ := h.ex
  exact ⟨d, h1.frame f hp ho, h2⟩

theorem rem8 (n : Nat) : binV .rem (.int .i64 (n : Int)) (.int .i64 8) = some (.int .i64 ((n % 8 : Nat) : Int)) := by
  rw [binV_rem _ _ _ (by omega)]; rfl
theorem quo8 (n : Nat) (h : n < 9223372036854775808) : binV .quo (.int .i64 (n : Int)) (.int .i64 8) = some (.int .i64 ((n / 8 : Nat) : Int)) := by
  rw [binV_quo _ _ _ (by omega), show ((n : Int)).tdiv 8 = ((n / 8 : Nat) : Int) from rfl, wrap_i64 (by omega) (by omega)]
theorem sub7 (n : Nat) (h : n ≤ 7) : IntKind.i64.wrap (7 - (n : Int)) = ((7 - n : Nat) : Int) := by
  rw [wrap_i64 (by omega) (by omega)]; omega
theorem shrN (a s : Nat) (hs : s ≤ 64) : binV .shr (.int .u64 a) (.int .i64 s) = some (.int .u64 ((a / 2 ^ s : Nat) : Int)) := by
  rw [binV_shr _ _ _ _ (by omega), shr_nat .u64 a s hs]
theorem wrap_bit (b : Bool) : IntKind.u8.wrap ((b.toNat : Nat) : Int) = ((b.toNat : Nat) : Int) := by cases b <;> rfl

theorem lt_bytes {d : List Nat} {n : Nat} (h : d.length = n + 1) : ∃ x, d[n]? = some x := ⟨d[n]'(by omega), List.getElem?_eq_getElem (by omega)⟩

/-- One bit more. -/
theorem put_one {H : Heap} {p : Nat} {o : Option Nat} {bs : List Bool} {err : Int} {n k : Nat} (hn : n < 18446744073709551616) (hk : k < 64) (hlen : bs.length < 600000) (h : WSt H p o bs err) (Q : AExit → Env → Heap → Prop) {e : Env} (he0 : lk e 0 = some (.pointer (some ⟨p, 0, none⟩))) (he2 : lk e 2 = some (.int .u64 n)) (he6 : lk e 6 = some (.int .i64 k))
    (hq : ∀ H' o', WSt H' p o' (bs ++ [n.testBit k]) err → Frm (p :: o.toList) H H' → (∀ q, o' = some q → o = some q ∨ H.length ≤ q) → Q .normal [(0, .pointer (some ⟨p, 0, none⟩)), (2, .int .u64 n), (6, .int .i64 k)] H')
    {body : ACode} (hbody : F56.body = .seq (.reg [⟨(some 7), none, .mov (.t 1)⟩,
  ⟨(some 8), none, .bin .sub (.t 7) (.c (.int .i64 1))⟩,
  ⟨(some 6), none, .mov (.t 8)⟩] [0, 2, 6]) (.block 0 (.loop (.seq (.seq (.reg [⟨(some 9), none, .mov (.t 6)⟩,
    ⟨(some 10), none, .bin .geq (.t 9) (.c (.int .i64 0))⟩] [0, 2, 6, 10])
   (.cond (.t 10)
    .skip
    (.exit 0)))
   (.seq (.block 1 body)
   (.reg [⟨(some 11), none, .mov (.t 6)⟩,
    ⟨(some 12), none, .bin .sub (.t 11) (.c (.int .i64 1))⟩,
    ⟨(some 6), none, .mov (.t 12)⟩] [0, 2, 6])))))) :
    AW tbl body e H Q := by
  simp only [F56, ACode.seq.injEq, ACode.block.injEq, ACode.loop.injEq, true_and, and_true] at hbody
  subst hbody
  obtain ⟨d, hw, hb, hd⟩ := h.ex
  apply AW_seq_mid (fun e H2 => (lk e 0 = some (.pointer (some ⟨p, 0, none⟩)) ∧ lk e 2 = some (.int .u64 n) ∧ lk e 6 = some (.int .i64 k)) ∧ ∃ o2 d2, WRaw H2 p o2 d2 bs.length err ∧ Bits d2 bs ∧ d2.length = bs.length / 8 + 1 ∧ Frm (p :: o.toList) H H2 ∧ (∀ q, o2 = some q → o = some q ∨ H.length ≤ q))
  · have hp := hw.blk
    have hpl := hget_lt hp
    by_cases hr : ((bs.length % 8 : Nat) : Int) = 0
    · have hd8 : d.length = bs.length / 8 := by omega
      cases o with
      | none =>
        obtain rfl := hw.nil rfl
        have hpl1 : p < H.length + 1 := by omega
        simp only [↓yaa, ↓yab, ↓yac, ↓yad, ↓yae, ↓yaf, ↓yag, ↓yah, ↓yai, ↓yaj, ↓yak, ↓yal, ↓yam, ↓yan, ↓yao, ↓yap, ↓yaq, ↓yar, ↓yas, ↓yat, ↓yau, ↓yav, ↓yaw, ↓yax, yay, yaz, yba, ybb, ybc, ybd, ybe, ybf, ybg, ybh, ybi, ybj, ybk, ybl, ybm, ybn, ybo, ybp, ybq, ybr, ybs, ybt, ybu, ybv, ares, tup, ybw, ybx, yby, argsE, dval, aop, ev, evs, evo, evp, fillL, addrOf, intOf?, ybz, yca, ycb, ycc, ycd, yce, ycf, zah, zag, reduceIte, Nat.reduceEqDiff, ycg, ych, yci, ycj, yck, ycl, ycm, ycn, yco, ycp, ycq, ycr, zap, zao, reduceCtorEq, zbb, zbc, zba, zaz, Nat.reduceAdd, Nat.reduceMul, zaq, zar, eqPtr, zae, zaf, zab, zaa, zac, zad , hload, hstore, zal, zam, Nat.reduceAdd, Nat.reduceLeDiff, zbb, zas, zat, one, zau, zaw, zav, splice, zaj, zak, zab, zaa, ycs, yct, ycu, ycv, ycw, ycx, ycy, ycz, zan, zai, zax, zay, and_self, true_and, and_true, lenV, yda, Nat.le_refl, if_true , he0, he2, he6, hp, rem8, hr, sliceOf, ydu, List.drop_zero, take1, yem, hpl, hpl1]
        refine ⟨some (H.length + 1), [0], ⟨?_, fun h => by simp at h, fun q hq => ?_⟩, Bits.zero hb (by have hz := hd; rw [zam] at hz ⊢; omega), ?_, ?_, fun q hq => ?_⟩
        · rw [yen (by simp; omega)]; rfl
        · injection hq with hq
          subst hq
          refine ⟨by omega, ?_⟩
          rw [yeo (by omega), hget_app]
          simp; rfl
        · have hz := hd; rw [zam] at hz; simp; omega
        · exact (((Frm.refl _ _).push _).push _).set _ (by simp)
        · injection hq with hq; right; omega
      | some q =>
        obtain ⟨hqp, hq2⟩ := hw.dat q rfl
        have hql := hget_lt hq2
        have hpl1 : p < H.length + 1 := by omega
        have hql1 : q < H.length + 1 := by omega
        have hcap : d.length * 1 = (u8s d).length ∧ (d.length + 1) * 1 ≤ 1000000000 := by rw [u8s_length]; omega
        simp only [↓yaa, ↓yab, ↓yac, ↓yad, ↓yae, ↓yaf, ↓yag, ↓yah, ↓yai, ↓yaj, ↓yak, ↓yal, ↓yam, ↓yan, ↓yao, ↓yap, ↓yaq, ↓yar, ↓yas, ↓yat, ↓yau, ↓yav, ↓yaw, ↓yax, yay, yaz, yba, ybb, ybc, ybd, ybe, ybf, ybg, ybh, ybi, ybj, ybk, ybl, ybm, ybn, ybo, ybp, ybq, ybr, ybs, ybt, ybu, ybv, ares, tup, ybw, ybx, yby, argsE, dval, aop, ev, evs, evo, evp, fillL, addrOf, intOf?, ybz, yca, ycb, ycc, ycd, yce, ycf, zah, zag, reduceIte, Nat.reduceEqDiff, ycg, ych, yci, ycj, yck, ycl, ycm, ycn, yco, ycp, ycq, ycr, zap, zao, reduceCtorEq, zbb, zbc, zba, zaz, Nat.reduceAdd, Nat.reduceMul, zaq, zar, eqPtr, zae, zaf, zab, zaa, zac, zad , hload, hstore, zal, zam, Nat.reduceAdd, Nat.reduceLeDiff, zbb, zas, zat, one, zau, zaw, zav, splice, zaj, zak, zab, zaa, ycs, yct, ycu, ycv, ycw, ycx, ycy, ycz, zan, zai, zax, zay, and_self, true_and, and_true, lenV, yda, Nat.le_refl, if_true , he0, he2, he6, hp, rem8, hr, sliceOf, ydu, List.drop_zero, take1, yem, hpl, hpl1, hql, hq2, hcap, yeo hqp]
        refine ⟨some (H.length + 1), d ++ [0], ⟨?_, fun h => by simp at h, fun q hq => ?_⟩, Bits.zero hb (by omega), ?_, ?_, fun q hq => ?_⟩
        · rw [yen (by simp; omega)]; simp [sliceOf]
        · injection hq with hq
          subst hq
          refine ⟨by omega, ?_⟩
          rw [yeo (by omega), hget_app]
          simp [u8s]
        · simp; omega
        · exact ((((Frm.refl _ _).push _).set _ (by simp)).push _).set _ (by simp)
        · injection hq with hq; right; omega
    · simp only [↓yaa, ↓yab, ↓yac, ↓yad, ↓yae, ↓yaf, ↓yag, ↓yah, ↓yai, ↓yaj, ↓yak, ↓yal, ↓yam, ↓yan, ↓yao, ↓yap, ↓yaq, ↓yar, ↓yas, ↓yat, ↓yau, ↓yav, ↓yaw, ↓yax, yay, yaz, yba, ybb, ybc, ybd, ybe, ybf, ybg, ybh, ybi, ybj, ybk, ybl, ybm, ybn, ybo, ybp, ybq, ybr, ybs, ybt, ybu, ybv, ares, tup, ybw, ybx, yby, argsE, dval, aop, ev, evs, evo, evp, fillL, addrOf, intOf?, ybz, yca, ycb, ycc, ycd, yce, ycf, zah, zag, reduceIte, Nat.reduceEqDiff, ycg, ych, yci, ycj, yck, ycl, ycm, ycn, yco, ycp, ycq, ycr, zap, zao, reduceCtorEq, zbb, zbc, zba, zaz, Nat.reduceAdd, Nat.reduceMul, zaq, zar, eqPtr, zae, zaf, zab, zaa, zac, zad , hload, hstore, zal, zam, Nat.reduceAdd, Nat.reduceLeDiff, zbb, zas, zat, one, zau, zaw, zav, splice, zaj, zak, zab, zaa, ycs, yct, ycu, ycv, ycw, ycx, ycy, ycz, zan, zai, zax, zay, and_self, true_and, and_true, lenV, yda, Nat.le_refl, if_true , he0, he2, he6, hp, rem8, hr]
      exact ⟨o, d, hw, hb, by omega, Frm.refl _ _, fun q hq => .inl hq⟩
  · rintro e H2 ⟨⟨e0, e2, e6⟩, o2, d2, hw2, hb2, hd2, hf, hfr⟩
    have hp := hw2.blk
    have hpl := hget_lt hp
    obtain ⟨x, hx⟩ := lt_bytes hd2
    cases o2 with
    | none => rw [hw2.nil rfl] at hd2; simp at hd2
    | some q =>
      obtain ⟨hqp, hq2⟩ := hw2.dat q rfl
      have hql := hget_lt hq2
      have hj : bs.length / 8 + 1 ≤ d2.length := by omega
      have hidx : (0 : Int) ≤ ((bs.length / 8 : Nat) : Int) ∧ ((bs.length / 8 : Nat) : Int) < (d2.length : Int) := by omega
      have hxs : x < 256 := hb2.small x (List.mem_of_getElem? hx)
      have hn2 : n / 2 ^ k < 18446744073709551616 := Nat.lt_of_le_of_lt (Nat.div_le_self _ _) hn
      have hs7 : 7 - bs.length % 8 ≤ 7 := by omega
      have hb8 : (n.testBit k).toNat <<< (7 - bs.length % 8) < 256 := by
        rw [Nat.shiftLeft_eq]
        have h1 : 2 ^ (7 - bs.length % 8) ≤ 2 ^ 7 := Nat.pow_le_pow_right (by omega) (by omega)
        have h2 : (n.testBit k).toNat ≤ 1 := by cases n.testBit k <;> simp
        calc (n.testBit k).toNat * 2 ^ (7 - bs.length % 8) ≤ 1 * 2 ^ 7 := Nat.mul_le_mul h2 h1
          _ < 256 := by decide
      have hw1 : IntKind.i64.wrap ((bs.length : Int) + 1) = ((bs.length + 1 : Nat) : Int) := by rw [wrap_i64 (by omega) (by omega)]; rfl
      have hg : (u8s d2)[bs.length / 8]? = some (Value.int .u8 (x : Int)) := by rw [u8s_get, hx]; rfl
      simp only [↓yaa, ↓yab, ↓yac, ↓yad, ↓yae, ↓yaf, ↓yag, ↓yah, ↓yai, ↓yaj, ↓yak, ↓yal, ↓yam, ↓yan, ↓yao, ↓yap, ↓yaq, ↓yar, ↓yas, ↓yat, ↓yau, ↓yav, ↓yaw, ↓yax, yay, yaz, yba, ybb, ybc, ybd, ybe, ybf, ybg, ybh, ybi, ybj, ybk, ybl, ybm, ybn, ybo, ybp, ybq, ybr, ybs, ybt, ybu, ybv, ares, tup, ybw, ybx, yby, argsE, dval, aop, ev, evs, evo, evp, fillL, addrOf, intOf?, ybz, yca, ycb, ycc, ycd, yce, ycf, zah, zag, reduceIte, Nat.reduceEqDiff, ycg, ych, yci, ycj, yck, ycl, ycm, ycn, yco, ycp, ycq, ycr, zap, zao, reduceCtorEq, zbb, zbc, zba, zaz, Nat.reduceAdd, Nat.reduceMul, zaq, zar, eqPtr, zae, zaf, zab, zaa, zac, zad , hload, hstore, zal, zam, Nat.reduceAdd, Nat.reduceLeDiff, zbb, zas, zat, one, zau, zaw, zav, splice, zaj, zak, zab, zaa, ycs, yct, ycu, ycv, ycw, ycx, ycy, ycz, zan, zai, zax, zay, and_self, true_and, and_true, lenV, yda, Nat.le_refl, if_true , e0, e2, e6, hp, rem8, sliceOf, quo8 _ (by omega : bs.length < 9223372036854775808), hq2, hidx, Int.toNat_natCast, Nat.mul_one, zaz, hg,
        shrN n k (by omega), and1 _ hn2, testBit_mod, wrap_bit, sub7 _ (by omega : bs.length % 8 ≤ 7), shl8 _ _ hs7, or8 _ _ hxs hb8, u8s_length, hj, u8s_set, yeo hqp, hw1]
      refine hq _ (some q) ⟨d2.set (bs.length / 8) (x ||| (n.testBit k).toNat <<< (7 - bs.length % 8)), ⟨?_, fun h => by simp at h, fun q' hq' => ?_⟩, hb2.put _ rfl hx, ?_⟩ ?_ (fun q' hq' => hfr q' hq')
      · rw [yen (by simpa using hpl)]
        simp [sliceOf]
      · injection hq' with hq'
        subst hq'
        refine ⟨hqp, ?_⟩
        rw [yeo (Ne.symm hqp), yen hql]
      · simp; omega
      · refine ((hf.set _ ?_).set _ (by simp))
        rcases hfr q rfl with h1 | h1
        · left; simp [h1]
        · right; exact h1

/-- A field's bits. -/
theorem put_spec {H : Heap} {p : Nat} {o : Option Nat} {bs : List Bool} {err : Int} {n w : Nat} (hn : n < 18446744073709551616) (hw : w ≤ 64) (hlen : bs.length + w < 600000) (h : WSt H p o bs err) (K : Value → Heap → Prop)
    (hk : ∀ H' o', WSt H' p o' (bs ++ bitsOf w n) err → Frm (p :: o.toList) H H' → (∀ q, o' = some q → o = some q ∨ H.length ≤ q) → K (.tuple #[]) H') :
    Op1 (AC tbl 56 [.pointer (some ⟨p, 0, none⟩), .int .i64 (w : Int), .int .u64 (n : Int)] H) K := by
  apply AC_wp (F := F56) rfl (by simp [F56]) (.inl rfl)
  have hw0 : IntKind.i64.wrap ((w : Int) - 1) = (w : Int) - 1 := wrap_i64 (by omega) (by omega)
  show AW tbl F56.body _ H (Ends [] false _ K)
  unfold F56
  rw [yaa]
  simp only [↓yag, ↓yai, ↓yao, ybl, ybm, ybn, argsE, dval, aop, ev, ybz, yca, ycb, ycc, ycd, yce, ycf, zah, zag, reduceIte, Nat.reduceEqDiff, ycn, hw0, zaz, Nat.reduceAdd, ybk, ↓yae]
  apply AW_loop_inv (fun j e H1 => e = [(0, .pointer (some ⟨p, 0, none⟩)), (2, .int .u64 n), (6, .int .i64 ((j : Int) - 1))] ∧ j ≤ w ∧ ∃ bs1 o1, WSt H1 p o1 bs1 err ∧ bs1 ++ bitsOf j n = bs ++ bitsOf w n ∧ Frm (p :: o.toList) H H1 ∧ (∀ q, o1 = some q → o = some q ∨ H.length ≤ q)) _ w
  · exact ⟨rfl, Nat.le_refl _, bs, o, h, rfl, Frm.refl _ _, fun q hq => .inl hq⟩
  · rintro j e H1 ⟨rfl, hjw, bs1, o1, h1, h2, h3, h4⟩
    have hl : bs1.length + j = bs.length + w := by
      have := congrArg List.length h2
      simpa [bitsOf_length] using this
    cases j with
    | zero =>
      have g0 : ¬ (0 : Int) ≤ ((0 : Nat) : Int) - 1 := by omega
      simp only [↓yaa, ↓yab, ↓yac, ↓yad, ↓yae, ↓yaf, ↓yag, ↓yah, ↓yai, ↓yaj, ↓yak, ↓yal, ↓yam, ↓yan, ↓yao, ↓yap, ↓yaq, ↓yar, ↓yas, ↓yat, ↓yau, ↓yav, ↓yaw, ↓yax, yay, yaz, yba, ybb, ybc, ybd, ybe, ybf, ybg, ybh, ybi, ybj, ybk, ybl, ybm, ybn, ybo, ybp, ybq, ybr, ybs, ybt, ybu, ybv, ares, tup, ybw, ybx, yby, argsE, dval, aop, ev, evs, evo, evp, fillL, addrOf, intOf?, ybz, yca, ycb, ycc, ycd, yce, ycf, zah, zag, reduceIte, Nat.reduceEqDiff, ycg, ych, yci, ycj, yck, ycl, ycm, ycn, yco, ycp, ycq, ycr, zap, zao, reduceCtorEq, zbb, zbc, zba, zaz, Nat.reduceAdd, Nat.reduceMul, zaq, zar, eqPtr, zae, zaf, zab, zaa, zac, zad , g0]
      refine hk _ o1 ?_ h3 h4
      rw [← h2]; simpa [bitsOf] using h1
    | succ j =>
      have g0 : (0 : Int) ≤ ((j + 1 : Nat) : Int) - 1 := by omega
      rw [yaa, yaa]
      simp only [↓yag, ↓yai, ↓yao, ↓yaf, ↓yac, ycr, ybl, ybm, ybn, dval, aop, ev, ybz, yca, ycb, ycc, ycd, yce, ycf, zah, zag, reduceIte, Nat.reduceEqDiff, ycj, ybk, g0, zbb]
      rw [show ((j + 1 : Nat) : Int) - 1 = (j : Int) by omega]
      rw [yaa, yae]
      refine put_one (p := p) (o := o1) (bs := bs1) (err := err) (n := n) (k := j) hn (by omega) (by omega) h1 _ rfl rfl rfl ?_ rfl
      intro H2 o2 k1 k2 k3
      simp only [ybq, ybn, ybk, ↓yag, ↓yai, ↓yao, ybl, ybm, dval, aop, ev, ybz, yca, ycb, ycc, ycd, yce, ycf, zah, zag, reduceIte, Nat.reduceEqDiff, ycn]
      rw [wrap_i64 (by omega) (by omega)]
      refine ⟨j, by omega, rfl, by omega, bs1 ++ [n.testBit j], o2, k1, ?_, h3.trans k2 ?_, fun q hq => ?_⟩
      · rw [← h2]; simp [bitsOf]
      · intro i hi
        rcases List.mem_cons.1 hi with rfl | hi
        · left; simp
        · rcases h4 i (by simpa [Option.mem_toList] using hi) with h5 | h5
          · left; simp [h5]
          · right; exact h5
      · rcases k3 q hq with h5 | h5
        · exact h4 q h5
        · right; have := h3.1; omega

end Go.Proofs.Ytejcabdejoameaa.AI

/- The reader's memory, and bits read from it. -/
set_option linter.unusedSimpArgs false
namespace Go.Proofs.Ytejcabdejoameaa.AI
open Go

structure RS where
  s : ByteArray
  at_ : Nat
  err : Int
def RS.cells (r : RS) : List Value := [.string r.s, .int .i64 (r.at_ : Int), .int .i64 r.err]
def RSt (H : Heap) (p : Nat) (r : RS) : Prop := hget H p = some ⟨true, r.cells⟩
def setR (H : Heap) (p : Nat) (r : RS) : Heap := H.set p (some ⟨true, r.cells⟩)
theorem RSt.lt {H : Heap} {p : Nat} {r : RS} (h : RSt H p r) : p < H.length := hget_lt h
theorem setR_length (H : Heap) (p : Nat) (r : RS) : (setR H p r).length = H.length := by simp [setR]
theorem setR_st {H : Heap} {p : Nat} (h : p < H.length) (r : RS) : RSt (setR H p r) p r := yen h
theorem setR_setR (H : Heap) (p : Nat) (r r' : RS) : setR (setR H p r) p r' = setR H p r' := by simp [setR, List.set_set]
theorem setR_same {H : Heap} {p : Nat} {r : RS} (h : RSt H p r) : setR H p r = H := by
  unfold setR
  unfold RSt hget at h
  cases hp : H[p]? with
  | none => rw [hp] at h; simp at h
  | some x =>
    rw [hp] at h
    simp at h
    subst h
    obtain ⟨hl, he⟩ := List.getElem?_eq_some_iff.1 hp
    rw [← he]; simp
theorem setR_frm (H : Heap) (p : Nat) (r : RS) : Frm [p] H (setR H p r) := (Frm.refl _ _).set _ (by simp)
theorem hget_setR_ne {H : Heap} {p i : Nat} {r : RS} (h : i ≠ p) : hget (setR H p r) i = hget H i := yeo (Ne.symm h)

/-- A string's bit. -/
def sbit (s : ByteArray) (i : Nat) : Bool := (((s[i / 8]?).map UInt8.toNat).getD 0).testBit (7 - i % 8)
/-- The number that some bits make, the first the highest. -/
def valOf (s : ByteArray) (a : Nat) : Nat → Nat
  | 0 => 0
  | w + 1 => 2 * valOf s a w + (sbit s (a + w)).toNat
theorem valOf_lt (s : ByteArray) (a w : Nat) : valOf s a w < 2 ^ w := by
  induction w with
  | zero => simp [valOf]
  | succ w ih =>
    have : (sbit s (a + w)).toNat ≤ 1 := by cases sbit s (a + w) <;> simp
    rw [valOf, Nat.pow_succ]; omega

theorem shl64_1 (n : Nat) (h : 2 * n < 18446744073709551616) : binV .shl (.int .u64 (n : Int)) (.int .u64 1) = some (.int .u64 ((2 * n : Nat) : Int)) := by
  rw [binV_shl _ _ _ _ (by omega), wrap_u64 (by have : (2 : Int) ^ min (Int.toNat 1) IntKind.u64.bits = 2 := by rfl
                                                rw [this]; omega) (by have : (2 : Int) ^ min (Int.toNat 1) IntKind.u64.bits = 2 := by rfl
                                                                      rw [this]; omega)]
  have : (2 : Int) ^ min (Int.toNat 1) IntKind.u64.bits = 2 := by rfl
  rw [this]; congr 2; omega
theorem shr8 (a s : Nat) (hs : s ≤ 7) : binV .shr (.int .u8 (a : Int)) (.int .i64 (s : Int)) = some (.int .u8 ((a / 2 ^ s : Nat) : Int)) := by
  rw [binV_shr _ _ _ _ (by omega), shr_nat .u8 a s (by simp [IntKind.bits]; omega)]
theorem and8_1 (a : Nat) (h : a < 256) : binV .and (.int .u8 (a : Int)) (.int .u8 1) = some (.int .u8 ((a % 2 : Nat) : Int)) := by
  rw [binV_and, wrap_u8]
  congr 2
  have : (BitVec.ofInt IntKind.u8.bits (a : Int) &&& BitVec.ofInt IntKind.u8.bits 1).toNat = a % 2 := by
    rw [BitVec.toNat_and]
    simp only [BitVec.toNat_ofInt, IntKind.bits]
    have : ((a : Int) % ((2 ^ 8 : Nat) : Int)).toNat = a := by
      rw [show ((2 ^ 8 : Nat) : Int) = 256 by decide]; omega
    rw [this, show ((1 : Int) % ((2 ^ 8 : Nat) : Int)).toNat = 1 by decide, Nat.and_one_is_mod]
  rw [this]; omega
theorem or64 (n : Nat) (b : Bool) (h : 2 * n < 18446744073709551615) : binV .or (.int .u64 ((2 * n : Nat) : Int)) (.int .u64 (b.toNat : Int)) = some (.int .u64 ((2 * n + b.toNat : Nat) : Int)) := by
  have hb : b.toNat ≤ 1 := by cases b <;> simp
  rw [binV_or, wrap_u64_eq]
  congr 2
  have : (BitVec.ofInt IntKind.u64.bits ((2 * n : Nat) : Int) ||| BitVec.ofInt IntKind.u64.bits (b.toNat : Int)).toNat = 2 * n + b.toNat := by
    rw [BitVec.toNat_or]
    simp only [BitVec.toNat_ofInt, IntKind.bits]
    have e1 : (((2 * n : Nat) : Int) % ((2 ^ 64 : Nat) : Int)).toNat = 2 * n := by
      rw [show ((2 ^ 64 : Nat) : Int) = 18446744073709551616 by decide]; omega
    have e2 : ((b.toNat : Int) % ((2 ^ 64 : Nat) : Int)).toNat = b.toNat := by
      rw [show ((2 ^ 64 : Nat) : Int) = 18446744073709551616 by decide]; omega
    rw [e1, e2]
    have := Nat.two_pow_add_eq_or_of_lt (i := 1) (b := b.toNat) (by omega) n
    simpa using this.symm
  rw [this]; omega
theorem wrap_bit64 (b : Bool) : IntKind.u64.wrap ((b.toNat : Nat) : Int) = ((b.toNat : Nat) : Int) := by cases b <;> rfl
theorem str_get (t : ByteArray) (i : Nat) (h : i < t.size) : ∃ b : UInt8, t[i]? = some b := ⟨t[i], getElem?_pos t i h⟩

/-- Some bits are read. -/
theorem get_spec {H : Heap} {p : Nat} {r : RS} {w : Nat} (h : RSt H p r) (hw : w ≤ 63) (ha : r.at_ + w ≤ 8 * r.s.size) (hs : r.s.size ≤ 1000000) :
    AC tbl 48 [.pointer (some ⟨p, 0, none⟩), .int .i64 (w : Int)] H = some (.int .u64 (valOf r.s r.at_ w : Nat), setR H p { r with at_ := r.at_ + w }) := by
  apply AC_eq
  apply AC_wp (F := F48) rfl (by simp [F48]) (.inl rfl)
  have hpl := h.lt
  simp only [F48, ↓yaa, ↓yab, ↓yac, ↓yad, ↓yae, ↓yaf, ↓yag, ↓yah, ↓yai, ↓yaj, ↓yak, ↓yal, ↓yam, ↓yan, ↓yao, ↓yap, ↓yaq, ↓yar, ↓yas, ↓yat, ↓yau, ↓yav, ↓yaw, ↓yax, yay, yaz, yba, ybb, ybc, ybd, ybe, ybf, ybg, ybh, ybi, ybj, ybk, ybl, ybm, ybn, ybo, ybp, ybq, ybr, ybs, ybt, ybu, ybv, ares, tup, ybw, ybx, yby, argsE, dval, aop, ev, evs, evo, evp, fillL, addrOf, intOf?, ybz, yca, ycb, ycc, ycd, yce, ycf, zah, zag, reduceIte, Nat.reduceEqDiff, ycg, ych, yci, ycj, yck, ycl, ycm, ycn, yco, ycp, ycq, ycr, zap, zao, reduceCtorEq, zbb, zbc, zba, zaz, Nat.reduceAdd, Nat.reduceMul, zaq, zar, eqPtr, zae, zaf, zab, zaa, zac, zad ]
  apply AW_loop_inv (fun j e H1 => j ≤ w ∧ e = [(0, .pointer (some ⟨p, 0, none⟩)), (5, .int .u64 (valOf r.s r.at_ (w - j) : Nat)), (6, .int .i64 (w : Int)), (7, .int .i64 ((w - j : Nat) : Int))] ∧ H1 = setR H p { r with at_ := r.at_ + (w - j) }) _ w
  · refine ⟨Nat.le_refl _, by rw [Nat.sub_self]; rfl, ?_⟩
    rw [Nat.sub_self]; exact (setR_same h).symm
  · rintro j e H1 ⟨hj, rfl, rfl⟩
    cases j with
    | zero =>
      have g0 : ¬ (w : Int) < (w : Int) := by omega
      simp only [↓yaa, ↓yab, ↓yac, ↓yad, ↓yae, ↓yaf, ↓yag, ↓yah, ↓yai, ↓yaj, ↓yak, ↓yal, ↓yam, ↓yan, ↓yao, ↓yap, ↓yaq, ↓yar, ↓yas, ↓yat, ↓yau, ↓yav, ↓yaw, ↓yax, yay, yaz, yba, ybb, ybc, ybd, ybe, ybf, ybg, ybh, ybi, ybj, ybk, ybl, ybm, ybn, ybo, ybp, ybq, ybr, ybs, ybt, ybu, ybv, ares, tup, ybw, ybx, yby, argsE, dval, aop, ev, evs, evo, evp, fillL, addrOf, intOf?, ybz, yca, ycb, ycc, ycd, yce, ycf, zah, zag, reduceIte, Nat.reduceEqDiff, ycg, ych, yci, ycj, yck, ycl, ycm, ycn, yco, ycp, ycq, ycr, zap, zao, reduceCtorEq, zbb, zbc, zba, zaz, Nat.reduceAdd, Nat.reduceMul, zaq, zar, eqPtr, zae, zaf, zab, zaa, zac, zad , g0, Nat.sub_zero, and_self]
    | succ j =>
      have g0 : ((w - (j + 1) : Nat) : Int) < (w : Int) := by omega
      have hst : hget (setR H p { r with at_ := r.at_ + (w - (j + 1)) }) p = some ⟨true, [.string r.s, .int .i64 ((r.at_ + (w - (j + 1)) : Nat) : Int), .int .i64 r.err]⟩ := setR_st hpl _
      have hv := valOf_lt r.s r.at_ (w - (j + 1))
      have hv2 : 2 ^ (w - (j + 1)) ≤ 2 ^ 62 := Nat.pow_le_pow_right (by omega) (by omega)
      have hv3 : 2 * valOf r.s r.at_ (w - (j + 1)) < 9223372036854775808 := by
        have : (2 : Nat) ^ 62 = 4611686018427387904 := by decide
        omega
      obtain ⟨b, hb⟩ := str_get r.s ((r.at_ + (w - (j + 1))) / 8) (by omega)
      have hb8 : b.toNat < 256 := b.toNat_lt
      have hbit : b.toNat / 2 ^ (7 - (r.at_ + (w - (j + 1))) % 8) % 2 = (sbit r.s (r.at_ + (w - (j + 1)))).toNat := by
        rw [testBit_mod]; unfold sbit; rw [hb]; rfl
      have hdiv : b.toNat / 2 ^ (7 - (r.at_ + (w - (j + 1))) % 8) < 256 := Nat.lt_of_le_of_lt (Nat.div_le_self _ _) hb8
      have g1 : (0 : Int) ≤ (((r.at_ + (w - (j + 1))) / 8 : Nat) : Int) := by omega
      have g2 : IntKind.i64.wrap (((r.at_ + (w - (j + 1)) : Nat) : Int) + 1) = ((r.at_ + (w - j) : Nat) : Int) := by rw [wrap_i64 (by omega) (by omega)]; omega
      have g3 : IntKind.i64.wrap (((w - (j + 1) : Nat) : Int) + 1) = ((w - j : Nat) : Int) := by rw [wrap_i64 (by omega) (by omega)]; omega
      simp only [↓yaa, ↓yab, ↓yac, ↓yad, ↓yae, ↓yaf, ↓yag, ↓yah, ↓yai, ↓yaj, ↓yak, ↓yal, ↓yam, ↓yan, ↓yao, ↓yap, ↓yaq, ↓yar, ↓yas, ↓yat, ↓yau, ↓yav, ↓yaw, ↓yax, yay, yaz, yba, ybb, ybc, ybd, ybe, ybf, ybg, ybh, ybi, ybj, ybk, ybl, ybm, ybn, ybo, ybp, ybq, ybr, ybs, ybt, ybu, ybv, ares, tup, ybw, ybx, yby, argsE, dval, aop, ev, evs, evo, evp, fillL, addrOf, intOf?, ybz, yca, ycb, ycc, ycd, yce, ycf, zah, zag, reduceIte, Nat.reduceEqDiff, ycg, ych, yci, ycj, yck, ycl, ycm, ycn, yco, ycp, ycq, ycr, zap, zao, reduceCtorEq, zbb, zbc, zba, zaz, Nat.reduceAdd, Nat.reduceMul, zaq, zar, eqPtr, zae, zaf, zab, zaa, zac, zad , hload, hstore, zal, zam, Nat.reduceAdd, Nat.reduceLeDiff, zbb, zas, zat, one, zau, zaw, zav, splice, zaj, zak, zab, zaa, ycs, yct, ycu, ycv, ycw, ycx, ycy, ycz, zan, zai, zax, zay, and_self, true_and, and_true, lenV, yda, Nat.le_refl, if_true , g0, hst, shl64_1 _ (by omega : 2 * valOf r.s r.at_ (w - (j + 1)) < 18446744073709551616), quo8 _ (by omega : r.at_ + (w - (j + 1)) < 9223372036854775808), rem8, g1, Int.toNat_natCast, hb,
        sub7 _ (by omega : (r.at_ + (w - (j + 1))) % 8 ≤ 7), shr8 _ _ (by omega : 7 - (r.at_ + (w - (j + 1))) % 8 ≤ 7), and8_1 _ hdiv, hbit, wrap_bit64, or64 _ _ (by omega : 2 * valOf r.s r.at_ (w - (j + 1)) < 18446744073709551615), g2, g3]
      refine ⟨j, by omega, by omega, ?_, ?_⟩
      · rw [show w - j = (w - (j + 1)) + 1 by omega, valOf]
      · show List.set (setR H p _) p _ = _
        exact setR_setR H p _ { r with at_ := r.at_ + (w - j) }

end Go.Proofs.Ytejcabdejoameaa.AI

/- The writer's methods. -/
set_option linter.unusedSimpArgs false
namespace Go.Proofs.Ytejcabdejoameaa.AI
open Go

/-- What a writer has: its bits and its error. -/
structure WS where
  bs : List Bool
  err : Int

/-- A number as one of 64 bits. -/
def u64 (n : Int) : Nat := (n % 18446744073709551616).toNat
theorem u64_lt (n : Int) : u64 n < 18446744073709551616 := by unfold u64; omega
theorem wrap_u64_nat (n : Int) : IntKind.u64.wrap n = ((u64 n : Nat) : Int) := by rw [wrap_u64_eq]; unfold u64; omega

def WS.field (s : WS) (right fits : Bool) (w n : Int) : WS :=
  if s.err ≠ 0 then s else if right = false then ⟨s.bs, 1⟩ else if fits = false then ⟨s.bs, 2⟩ else if 524288 < (s.bs.length : Int) + w then ⟨s.bs, 8⟩ else ⟨s.bs ++ bitsOf w.toNat (u64 n), s.err⟩

/-- Behind a writer's method. -/
def Wrote (H : Heap) (p : Nat) (o : Option Nat) (s : WS) (K : Value → Heap → Prop) : Prop :=
  ∀ H' o', WSt H' p o' s.bs s.err → Frm (p :: o.toList) H H' → (∀ q, o' = some q → o = some q ∨ H.length ≤ q) → K (.tuple #[]) H'

theorem WRaw.setErr {H : Heap} {p : Nat} {o : Option Nat} {d : List Nat} {n : Nat} {err : Int} (h : WRaw H p o d n err) (err' : Int) :
    WRaw (H.set p (some ⟨true, [sliceOf o d, .int .i64 (n : Int), .int .i64 err']⟩)) p o d n err' := by
  refine ⟨yen (hget_lt h.blk), h.nil, fun q hq => ⟨(h.dat q hq).1, ?_⟩⟩
  rw [yeo (Ne.symm (h.dat q hq).1)]; exact (h.dat q hq).2

theorem field_spec {H : Heap} {p : Nat} {o : Option Nat} {s : WS} {right fits : Bool} {w n : Int} (h : WSt H p o s.bs s.err) (hlen : s.bs.length ≤ 524288) (hw : right = true → 0 ≤ w ∧ w ≤ 64) {K : Value → Heap → Prop}
    (hk : Wrote H p o (s.field right fits w n) K) : Op1 (AC tbl 50 [.pointer (some ⟨p, 0, none⟩), .bool right, .bool fits, .int .i64 w, .int .i64 n] H) K := by
  apply AC_wp (F := F50) rfl (by simp [F50]) (.inl rfl)
  obtain ⟨d, hr, hb, hd⟩ := h.ex
  have hp := hr.blk
  have hpl := hget_lt hp
  have setE : ∀ err', s.field right fits w n = ⟨s.bs, err'⟩ → K (.tuple #[]) (H.set p (some ⟨true, [sliceOf o d, .int .i64 (s.bs.length : Int), .int .i64 err']⟩)) := fun err' he => by
    refine hk _ o ?_ ((Frm.refl _ _).set _ (by simp)) (fun q hq => .inl hq)
    rw [he]
    exact ⟨d, hr.setErr err', hb, hd⟩
  by_cases h1 : s.err = 0
  · have c1 : decide (s.err ≠ 0) = false := by simp [h1]
    cases right with
    | false =>
      simp only [F50, ↓yaa, ↓yab, ↓yac, ↓yad, ↓yae, ↓yaf, ↓yag, ↓yah, ↓yai, ↓yaj, ↓yak, ↓yal, ↓yam, ↓yan, ↓yao, ↓yap, ↓yaq, ↓yar, ↓yas, ↓yat, ↓yau, ↓yav, ↓yaw, ↓yax, yay, yaz, yba, ybb, ybc, ybd, ybe, ybf, ybg, ybh, ybi, ybj, ybk, ybl, ybm, ybn, ybo, ybp, ybq, ybr, ybs, ybt, ybu, ybv, ares, tup, ybw, ybx, yby, argsE, dval, aop, ev, evs, evo, evp, fillL, addrOf, intOf?, ybz, yca, ycb, ycc, ycd, yce, ycf, zah, zag, reduceIte, Nat.reduceEqDiff, ycg, ych, yci, ycj, yck, ycl, ycm, ycn, yco, ycp, ycq, ycr, zap, zao, reduceCtorEq, zbb, zbc, zba, zaz, Nat.reduceAdd, Nat.reduceMul, zaq, zar, eqPtr, zae, zaf, zab, zaa, zac, zad , hload, hstore, zal, zam, Nat.reduceAdd, Nat.reduceLeDiff, zbb, zas, zat, one, zau, zaw, zav, splice, zaj, zak, zab, zaa, ycs, yct, ycu, ycv, ycw, ycx, ycy, ycz, zan, zai, zax, zay, and_self, true_and, and_true, lenV, yda, Nat.le_refl, if_true , hp, c1]
      exact setE 1 (by simp [WS.field, h1])
    | true =>
      cases fits with
      | false =>
        simp only [F50, ↓yaa, ↓yab, ↓yac, ↓yad, ↓yae, ↓yaf, ↓yag, ↓yah, ↓yai, ↓yaj, ↓yak, ↓yal, ↓yam, ↓yan, ↓yao, ↓yap, ↓yaq, ↓yar, ↓yas, ↓yat, ↓yau, ↓yav, ↓yaw, ↓yax, yay, yaz, yba, ybb, ybc, ybd, ybe, ybf, ybg, ybh, ybi, ybj, ybk, ybl, ybm, ybn, ybo, ybp, ybq, ybr, ybs, ybt, ybu, ybv, ares, tup, ybw, ybx, yby, argsE, dval, aop, ev, evs, evo, evp, fillL, addrOf, intOf?, ybz, yca, ycb, ycc, ycd, yce, ycf, zah, zag, reduceIte, Nat.reduceEqDiff, ycg, ych, yci, ycj, yck, ycl, ycm, ycn, yco, ycp, ycq, ycr, zap, zao, reduceCtorEq, zbb, zbc, zba, zaz, Nat.reduceAdd, Nat.reduceMul, zaq, zar, eqPtr, zae, zaf, zab, zaa, zac, zad , hload, hstore, zal, zam, Nat.reduceAdd, Nat.reduceLeDiff, zbb, zas, zat, one, zau, zaw, zav, splice, zaj, zak, zab, zaa, ycs, yct, ycu, ycv, ycw, ycx, ycy, ycz, zan, zai, zax, zay, and_self, true_and, and_true, lenV, yda, Nat.le_refl, if_true , hp, c1]
        exact setE 2 (by simp [WS.field, h1])
      | true =>
        obtain ⟨hw0, hw1⟩ := hw rfl
        have hwr : IntKind.i64.wrap ((s.bs.length : Int) + w) = (s.bs.length : Int) + w := wrap_i64 (by omega) (by omega)
        by_cases h2 : 524288 < (s.bs.length : Int) + w
        · simp only [F50, ↓yaa, ↓yab, ↓yac, ↓yad, ↓yae, ↓yaf, ↓yag, ↓yah, ↓yai, ↓yaj, ↓yak, ↓yal, ↓yam, ↓yan, ↓yao, ↓yap, ↓yaq, ↓yar, ↓yas, ↓yat, ↓yau, ↓yav, ↓yaw, ↓yax, yay, yaz, yba, ybb, ybc, ybd, ybe, ybf, ybg, ybh, ybi, ybj, ybk, ybl, ybm, ybn, ybo, ybp, ybq, ybr, ybs, ybt, ybu, ybv, ares, tup, ybw, ybx, yby, argsE, dval, aop, ev, evs, evo, evp, fillL, addrOf, intOf?, ybz, yca, ycb, ycc, ycd, yce, ycf, zah, zag, reduceIte, Nat.reduceEqDiff, ycg, ych, yci, ycj, yck, ycl, ycm, ycn, yco, ycp, ycq, ycr, zap, zao, reduceCtorEq, zbb, zbc, zba, zaz, Nat.reduceAdd, Nat.reduceMul, zaq, zar, eqPtr, zae, zaf, zab, zaa, zac, zad , hload, hstore, zal, zam, Nat.reduceAdd, Nat.reduceLeDiff, zbb, zas, zat, one, zau, zaw, zav, splice, zaj, zak, zab, zaa, ycs, yct, ycu, ycv, ycw, ycx, ycy, ycz, zan, zai, zax, zay, and_self, true_and, and_true, lenV, yda, Nat.le_refl, if_true , hp, c1, hwr, h2]
          exact setE 8 (by simp [WS.field, h1, h2])
        · obtain ⟨m, rfl⟩ : ∃ m : Nat, w = m := ⟨w.toNat, by omega⟩
          simp only [F50, ↓yaa, ↓yab, ↓yac, ↓yad, ↓yae, ↓yaf, ↓yag, ↓yah, ↓yai, ↓yaj, ↓yak, ↓yal, ↓yam, ↓yan, ↓yao, ↓yap, ↓yaq, ↓yar, ↓yas, ↓yat, ↓yau, ↓yav, ↓yaw, ↓yax, yay, yaz, yba, ybb, ybc, ybd, ybe, ybf, ybg, ybh, ybi, ybj, ybk, ybl, ybm, ybn, ybo, ybp, ybq, ybr, ybs, ybt, ybu, ybv, ares, tup, ybw, ybx, yby, argsE, dval, aop, ev, evs, evo, evp, fillL, addrOf, intOf?, ybz, yca, ycb, ycc, ycd, yce, ycf, zah, zag, reduceIte, Nat.reduceEqDiff, ycg, ych, yci, ycj, yck, ycl, ycm, ycn, yco, ycp, ycq, ycr, zap, zao, reduceCtorEq, zbb, zbc, zba, zaz, Nat.reduceAdd, Nat.reduceMul, zaq, zar, eqPtr, zae, zaf, zab, zaa, zac, zad , hload, hstore, zal, zam, Nat.reduceAdd, Nat.reduceLeDiff, zbb, zas, zat, one, zau, zaw, zav, splice, zaj, zak, zab, zaa, ycs, yct, ycu, ycv, ycw, ycx, ycy, ycz, zan, zai, zax, zay, and_self, true_and, and_true, lenV, yda, Nat.le_refl, if_true , hp, c1, hwr, h2, wrap_u64_nat]
          refine put_spec (u64_lt n) (by omega) (by omega) h _ fun H' o' k1 k2 k3 => ?_
          simp only [↓yaa, ↓yab, ↓yac, ↓yad, ↓yae, ↓yaf, ↓yag, ↓yah, ↓yai, ↓yaj, ↓yak, ↓yal, ↓yam, ↓yan, ↓yao, ↓yap, ↓yaq, ↓yar, ↓yas, ↓yat, ↓yau, ↓yav, ↓yaw, ↓yax, yay, yaz, yba, ybb, ybc, ybd, ybe, ybf, ybg, ybh, ybi, ybj, ybk, ybl, ybm, ybn, ybo, ybp, ybq, ybr, ybs, ybt, ybu, ybv, ares, tup, ybw, ybx, yby, argsE, dval, aop, ev, evs, evo, evp, fillL, addrOf, intOf?, ybz, yca, ycb, ycc, ycd, yce, ycf, zah, zag, reduceIte, Nat.reduceEqDiff, ycg, ych, yci, ycj, yck, ycl, ycm, ycn, yco, ycp, ycq, ycr, zap, zao, reduceCtorEq, zbb, zbc, zba, zaz, Nat.reduceAdd, Nat.reduceMul, zaq, zar, eqPtr, zae, zaf, zab, zaa, zac, zad ]
          refine hk H' o' ?_ k2 k3
          simp only [WS.field, h1, h2]
          simpa [h1] using k1
  · have c1 : decide (s.err ≠ 0) = true := by simp [h1]
    simp only [F50, ↓yaa, ↓yab, ↓yac, ↓yad, ↓yae, ↓yaf, ↓yag, ↓yah, ↓yai, ↓yaj, ↓yak, ↓yal, ↓yam, ↓yan, ↓yao, ↓yap, ↓yaq, ↓yar, ↓yas, ↓yat, ↓yau, ↓yav, ↓yaw, ↓yax, yay, yaz, yba, ybb, ybc, ybd, ybe, ybf, ybg, ybh, ybi, ybj, ybk, ybl, ybm, ybn, ybo, ybp, ybq, ybr, ybs, ybt, ybu, ybv, ares, tup, ybw, ybx, yby, argsE, dval, aop, ev, evs, evo, evp, fillL, addrOf, intOf?, ybz, yca, ycb, ycc, ycd, yce, ycf, zah, zag, reduceIte, Nat.reduceEqDiff, ycg, ych, yci, ycj, yck, ycl, ycm, ycn, yco, ycp, ycq, ycr, zap, zao, reduceCtorEq, zbb, zbc, zba, zaz, Nat.reduceAdd, Nat.reduceMul, zaq, zar, eqPtr, zae, zaf, zab, zaa, zac, zad , hload, hstore, zal, zam, Nat.reduceAdd, Nat.reduceLeDiff, zbb, zas, zat, one, zau, zaw, zav, splice, zaj, zak, zab, zaa, ycs, yct, ycu, ycv, ycw, ycx, ycy, ycz, zan, zai, zax, zay, and_self, true_and, and_true, lenV, yda, Nat.le_refl, if_true , hp, c1]
    refine hk H o ?_ (Frm.refl _ _) (fun q hq => .inl hq)
    simpa [WS.field, h1] using h

end Go.Proofs.Ytejcabdejoameaa.AI

/- The writer's methods, further. -/
set_option linter.unusedSimpArgs false
namespace Go.Proofs.Ytejcabdejoameaa.AI
open Go

/-- A whole number of Go's int. -/
def Is64 (n : Int) : Prop := -9223372036854775808 ≤ n ∧ n < 9223372036854775808

def WS.unsigned (s : WS) (w n : Int) : WS := s.field (decide (1 ≤ w ∧ w ≤ 63)) (decide ((1 ≤ w ∧ w ≤ 63) ∧ 0 ≤ n ∧ n < 2 ^ w.toNat)) w n
def WS.signed (s : WS) (w n : Int) : WS := s.field (decide (2 ≤ w ∧ w ≤ 63)) (decide ((2 ≤ w ∧ w ≤ 63) ∧ -2 ^ (w.toNat - 1) ≤ n ∧ n < 2 ^ (w.toNat - 1))) w n
def WS.flag (s : WS) (b : Bool) : WS := s.field true true 1 (if b then 1 else 0)

theorem blen_int {n : Int} {w : Int} (h0 : 0 ≤ n) (hw : 0 ≤ w) : ((blen n.toNat : Nat) : Int) ≤ w ↔ n < 2 ^ w.toNat := by
  have h1 : ((blen n.toNat : Nat) : Int) ≤ w ↔ blen n.toNat ≤ w.toNat := by omega
  rw [h1, blen_le]
  have : (2 : Int) ^ w.toNat = ((2 ^ w.toNat : Nat) : Int) := by push_cast; rfl
  rw [this]; omega

theorem unsigned_spec {H : Heap} {p : Nat} {o : Option Nat} {s : WS} {w n : Int} (h : WSt H p o s.bs s.err) (hlen : s.bs.length ≤ 524288) (hn : Is64 n) {K : Value → Heap → Prop}
    (hk : Wrote H p o (s.unsigned w n) K) : Op1 (AC tbl 25 [.pointer (some ⟨p, 0, none⟩), .int .i64 w, .int .i64 n] H) K := by
  obtain ⟨hn0, hn1⟩ := hn
  apply AC_wp (F := F25) rfl (by simp [F25]) (.inl rfl)
  have fin' : ∀ (r f : Bool), r = decide (1 ≤ w ∧ w ≤ 63) → f = decide ((1 ≤ w ∧ w ≤ 63) ∧ 0 ≤ n ∧ n < 2 ^ w.toNat) →
      Op1 (AC tbl 50 [.pointer (some ⟨p, 0, none⟩), .bool r, .bool f, .int .i64 w, .int .i64 n] H) (fun _ H1 => K (.tuple #[]) H1) := by
    rintro r f rfl rfl
    exact field_spec h hlen (fun hr => by simp at hr; omega) hk
  by_cases h1 : 1 ≤ w
  · by_cases h2 : w ≤ 63
    · by_cases h3 : 0 ≤ n
      · obtain ⟨m, rfl⟩ : ∃ m : Nat, n = m := ⟨n.toNat, by omega⟩
        simp only [F25, ↓yaa, ↓yab, ↓yac, ↓yad, ↓yae, ↓yaf, ↓yag, ↓yah, ↓yai, ↓yaj, ↓yak, ↓yal, ↓yam, ↓yan, ↓yao, ↓yap, ↓yaq, ↓yar, ↓yas, ↓yat, ↓yau, ↓yav, ↓yaw, ↓yax, yay, yaz, yba, ybb, ybc, ybd, ybe, ybf, ybg, ybh, ybi, ybj, ybk, ybl, ybm, ybn, ybo, ybp, ybq, ybr, ybs, ybt, ybu, ybv, ares, tup, ybw, ybx, yby, argsE, dval, aop, ev, evs, evo, evp, fillL, addrOf, intOf?, ybz, yca, ycb, ycc, ycd, yce, ycf, zah, zag, reduceIte, Nat.reduceEqDiff, ycg, ych, yci, ycj, yck, ycl, ycm, ycn, yco, ycp, ycq, ycr, zap, zao, reduceCtorEq, zbb, zbc, zba, zaz, Nat.reduceAdd, Nat.reduceMul, zaq, zar, eqPtr, zae, zaf, zab, zaa, zac, zad , h1, h2, h3, wrap_u64 h3 (by omega : (m : Int) < 18446744073709551616), len_any m (by omega)]
        refine Op1_mono (fin' _ _ (by simp [h1, h2]) ?_) fun v H1 hv => by simpa only [↓yaa, ↓yab, ↓yac, ↓yad, ↓yae, ↓yaf, ↓yag, ↓yah, ↓yai, ↓yaj, ↓yak, ↓yal, ↓yam, ↓yan, ↓yao, ↓yap, ↓yaq, ↓yar, ↓yas, ↓yat, ↓yau, ↓yav, ↓yaw, ↓yax, yay, yaz, yba, ybb, ybc, ybd, ybe, ybf, ybg, ybh, ybi, ybj, ybk, ybl, ybm, ybn, ybo, ybp, ybq, ybr, ybs, ybt, ybu, ybv, ares, tup, ybw, ybx, yby, argsE, dval, aop, ev, evs, evo, evp, fillL, addrOf, intOf?, ybz, yca, ycb, ycc, ycd, yce, ycf, zah, zag, reduceIte, Nat.reduceEqDiff, ycg, ych, yci, ycj, yck, ycl, ycm, ycn, yco, ycp, ycq, ycr, zap, zao, reduceCtorEq, zbb, zbc, zba, zaz, Nat.reduceAdd, Nat.reduceMul, zaq, zar, eqPtr, zae, zaf, zab, zaa, zac, zad ] using hv
        have := blen_int (n := m) (w := w) h3 (by omega)
        simp only [Int.toNat_natCast] at this
        simp [h1, h2, this]
      · simp only [F25, ↓yaa, ↓yab, ↓yac, ↓yad, ↓yae, ↓yaf, ↓yag, ↓yah, ↓yai, ↓yaj, ↓yak, ↓yal, ↓yam, ↓yan, ↓yao, ↓yap, ↓yaq, ↓yar, ↓yas, ↓yat, ↓yau, ↓yav, ↓yaw, ↓yax, yay, yaz, yba, ybb, ybc, ybd, ybe, ybf, ybg, ybh, ybi, ybj, ybk, ybl, ybm, ybn, ybo, ybp, ybq, ybr, ybs, ybt, ybu, ybv, ares, tup, ybw, ybx, yby, argsE, dval, aop, ev, evs, evo, evp, fillL, addrOf, intOf?, ybz, yca, ycb, ycc, ycd, yce, ycf, zah, zag, reduceIte, Nat.reduceEqDiff, ycg, ych, yci, ycj, yck, ycl, ycm, ycn, yco, ycp, ycq, ycr, zap, zao, reduceCtorEq, zbb, zbc, zba, zaz, Nat.reduceAdd, Nat.reduceMul, zaq, zar, eqPtr, zae, zaf, zab, zaa, zac, zad , h1, h2, h3]
        exact Op1_mono (fin' _ _ (by simp [h1, h2]) (by simp [h3])) fun v H1 hv => by simpa only [↓yaa, ↓yab, ↓yac, ↓yad, ↓yae, ↓yaf, ↓yag, ↓yah, ↓yai, ↓yaj, ↓yak, ↓yal, ↓yam, ↓yan, ↓yao, ↓yap, ↓yaq, ↓yar, ↓yas, ↓yat, ↓yau, ↓yav, ↓yaw, ↓yax, yay, yaz, yba, ybb, ybc, ybd, ybe, ybf, ybg, ybh, ybi, ybj, ybk, ybl, ybm, ybn, ybo, ybp, ybq, ybr, ybs, ybt, ybu, ybv, ares, tup, ybw, ybx, yby, argsE, dval, aop, ev, evs, evo, evp, fillL, addrOf, intOf?, ybz, yca, ycb, ycc, ycd, yce, ycf, zah, zag, reduceIte, Nat.reduceEqDiff, ycg, ych, yci, ycj, yck, ycl, ycm, ycn, yco, ycp, ycq, ycr, zap, zao, reduceCtorEq, zbb, zbc, zba, zaz, Nat.reduceAdd, Nat.reduceMul, zaq, zar, eqPtr, zae, zaf, zab, zaa, zac, zad ] using hv
    · simp only [F25, ↓yaa, ↓yab, ↓yac, ↓yad, ↓yae, ↓yaf, ↓yag, ↓yah, ↓yai, ↓yaj, ↓yak, ↓yal, ↓yam, ↓yan, ↓yao, ↓yap, ↓yaq, ↓yar, ↓yas, ↓yat, ↓yau, ↓yav, ↓yaw, ↓yax, yay, yaz, yba, ybb, ybc, ybd, ybe, ybf, ybg, ybh, ybi, ybj, ybk, ybl, ybm, ybn, ybo, ybp, ybq, ybr, ybs, ybt, ybu, ybv, ares, tup, ybw, ybx, yby, argsE, dval, aop, ev, evs, evo, evp, fillL, addrOf, intOf?, ybz, yca, ycb, ycc, ycd, yce, ycf, zah, zag, reduceIte, Nat.reduceEqDiff, ycg, ych, yci, ycj, yck, ycl, ycm, ycn, yco, ycp, ycq, ycr, zap, zao, reduceCtorEq, zbb, zbc, zba, zaz, Nat.reduceAdd, Nat.reduceMul, zaq, zar, eqPtr, zae, zaf, zab, zaa, zac, zad , h1, h2]
      exact Op1_mono (fin' _ _ (by simp [h1, h2]) (by simp [h2])) fun v H1 hv => by simpa only [↓yaa, ↓yab, ↓yac, ↓yad, ↓yae, ↓yaf, ↓yag, ↓yah, ↓yai, ↓yaj, ↓yak, ↓yal, ↓yam, ↓yan, ↓yao, ↓yap, ↓yaq, ↓yar, ↓yas, ↓yat, ↓yau, ↓yav, ↓yaw, ↓yax, yay, yaz, yba, ybb, ybc, ybd, ybe, ybf, ybg, ybh, ybi, ybj, ybk, ybl, ybm, ybn, ybo, ybp, ybq, ybr, ybs, ybt, ybu, ybv, ares, tup, ybw, ybx, yby, argsE, dval, aop, ev, evs, evo, evp, fillL, addrOf, intOf?, ybz, yca, ycb, ycc, ycd, yce, ycf, zah, zag, reduceIte, Nat.reduceEqDiff, ycg, ych, yci, ycj, yck, ycl, ycm, ycn, yco, ycp, ycq, ycr, zap, zao, reduceCtorEq, zbb, zbc, zba, zaz, Nat.reduceAdd, Nat.reduceMul, zaq, zar, eqPtr, zae, zaf, zab, zaa, zac, zad ] using hv
  · simp only [F25, ↓yaa, ↓yab, ↓yac, ↓yad, ↓yae, ↓yaf, ↓yag, ↓yah, ↓yai, ↓yaj, ↓yak, ↓yal, ↓yam, ↓yan, ↓yao, ↓yap, ↓yaq, ↓yar, ↓yas, ↓yat, ↓yau, ↓yav, ↓yaw, ↓yax, yay, yaz, yba, ybb, ybc, ybd, ybe, ybf, ybg, ybh, ybi, ybj, ybk, ybl, ybm, ybn, ybo, ybp, ybq, ybr, ybs, ybt, ybu, ybv, ares, tup, ybw, ybx, yby, argsE, dval, aop, ev, evs, evo, evp, fillL, addrOf, intOf?, ybz, yca, ycb, ycc, ycd, yce, ycf, zah, zag, reduceIte, Nat.reduceEqDiff, ycg, ych, yci, ycj, yck, ycl, ycm, ycn, yco, ycp, ycq, ycr, zap, zao, reduceCtorEq, zbb, zbc, zba, zaz, Nat.reduceAdd, Nat.reduceMul, zaq, zar, eqPtr, zae, zaf, zab, zaa, zac, zad , h1]
    exact Op1_mono (fin' _ _ (by simp [h1]) (by simp [h1])) fun v H1 hv => by simpa only [↓yaa, ↓yab, ↓yac, ↓yad, ↓yae, ↓yaf, ↓yag, ↓yah, ↓yai, ↓yaj, ↓yak, ↓yal, ↓yam, ↓yan, ↓yao, ↓yap, ↓yaq, ↓yar, ↓yas, ↓yat, ↓yau, ↓yav, ↓yaw, ↓yax, yay, yaz, yba, ybb, ybc, ybd, ybe, ybf, ybg, ybh, ybi, ybj, ybk, ybl, ybm, ybn, ybo, ybp, ybq, ybr, ybs, ybt, ybu, ybv, ares, tup, ybw, ybx, yby, argsE, dval, aop, ev, evs, evo, evp, fillL, addrOf, intOf?, ybz, yca, ycb, ycc, ycd, yce, ycf, zah, zag, reduceIte, Nat.reduceEqDiff, ycg, ych, yci, ycj, yck, ycl, ycm, ycn, yco, ycp, ycq, ycr, zap, zao, reduceCtorEq, zbb, zbc, zba, zaz, Nat.reduceAdd, Nat.reduceMul, zaq, zar, eqPtr, zae, zaf, zab, zaa, zac, zad ] using hv

theorem pow_small {k : Nat} (h : k ≤ 62) : (2 : Int) ^ k ≤ 4611686018427387904 := by
  have : (2 : Nat) ^ k ≤ 2 ^ 62 := Nat.pow_le_pow_right (by omega) h
  have h2 : (2 : Int) ^ k = ((2 ^ k : Nat) : Int) := by push_cast; rfl
  rw [h2]; omega
theorem pow_pos' (k : Nat) : (1 : Int) ≤ 2 ^ k := by
  have : 1 ≤ (2 : Nat) ^ k := Nat.one_le_two_pow
  have h2 : (2 : Int) ^ k = ((2 ^ k : Nat) : Int) := by push_cast; rfl
  rw [h2]; omega
theorem shl_int (c : Int) (k : Nat) (hc : c = 1 ∨ c = -1) (h : k ≤ 62) : binV .shl (.int .i64 c) (.int .i64 (k : Int)) = some (.int .i64 (c * 2 ^ k)) := by
  have h1 := pow_small h
  have h2 := pow_pos' k
  rw [binV_shl _ _ _ _ (by omega), show min ((k : Int)).toNat IntKind.i64.bits = k by simp [IntKind.bits]; omega]
  rw [wrap_i64 (by rcases hc with rfl | rfl <;> omega) (by rcases hc with rfl | rfl <;> omega)]

theorem flag_spec {H : Heap} {p : Nat} {o : Option Nat} {s : WS} {b : Bool} (h : WSt H p o s.bs s.err) (hlen : s.bs.length ≤ 524288) {K : Value → Heap → Prop}
    (hk : Wrote H p o (s.flag b) K) : Op1 (AC tbl 39 [.pointer (some ⟨p, 0, none⟩), .bool b] H) K := by
  apply AC_wp (F := F39) rfl (by simp [F39]) (.inl rfl)
  cases b
  · simp only [F39, ↓yaa, ↓yab, ↓yac, ↓yad, ↓yae, ↓yaf, ↓yag, ↓yah, ↓yai, ↓yaj, ↓yak, ↓yal, ↓yam, ↓yan, ↓yao, ↓yap, ↓yaq, ↓yar, ↓yas, ↓yat, ↓yau, ↓yav, ↓yaw, ↓yax, yay, yaz, yba, ybb, ybc, ybd, ybe, ybf, ybg, ybh, ybi, ybj, ybk, ybl, ybm, ybn, ybo, ybp, ybq, ybr, ybs, ybt, ybu, ybv, ares, tup, ybw, ybx, yby, argsE, dval, aop, ev, evs, evo, evp, fillL, addrOf, intOf?, ybz, yca, ycb, ycc, ycd, yce, ycf, zah, zag, reduceIte, Nat.reduceEqDiff, ycg, ych, yci, ycj, yck, ycl, ycm, ycn, yco, ycp, ycq, ycr, zap, zao, reduceCtorEq, zbb, zbc, zba, zaz, Nat.reduceAdd, Nat.reduceMul, zaq, zar, eqPtr, zae, zaf, zab, zaa, zac, zad ]
    exact Op1_mono (field_spec (K := fun _ H1 => K (.tuple #[]) H1) h hlen (fun _ => by omega) hk) fun v H1 hv => by simpa only [↓yaa, ↓yab, ↓yac, ↓yad, ↓yae, ↓yaf, ↓yag, ↓yah, ↓yai, ↓yaj, ↓yak, ↓yal, ↓yam, ↓yan, ↓yao, ↓yap, ↓yaq, ↓yar, ↓yas, ↓yat, ↓yau, ↓yav, ↓yaw, ↓yax, yay, yaz, yba, ybb, ybc, ybd, ybe, ybf, ybg, ybh, ybi, ybj, ybk, ybl, ybm, ybn, ybo, ybp, ybq, ybr, ybs, ybt, ybu, ybv, ares, tup, ybw, ybx, yby, argsE, dval, aop, ev, evs, evo, evp, fillL, addrOf, intOf?, ybz, yca, ycb, ycc, ycd, yce, ycf, zah, zag, reduceIte, Nat.reduceEqDiff, ycg, ych, yci, ycj, yck, ycl, ycm, ycn, yco, ycp, ycq, ycr, zap, zao, reduceCtorEq, zbb, zbc, zba, zaz, Nat.reduceAdd, Nat.reduceMul, zaq, zar, eqPtr, zae, zaf, zab, zaa, zac, zad ] using hv
  · simp only [F39, ↓yaa, ↓yab, ↓yac, ↓yad, ↓yae, ↓yaf, ↓yag, ↓yah, ↓yai, ↓yaj, ↓yak, ↓yal, ↓yam, ↓yan, ↓yao, ↓yap, ↓yaq, ↓yar, ↓yas, ↓yat, ↓yau, ↓yav, ↓yaw, ↓yax, yay, yaz, yba, ybb, ybc, ybd, ybe, ybf, ybg, ybh, ybi, ybj, ybk, ybl, ybm, ybn, ybo, ybp, ybq, ybr, ybs, ybt, ybu, ybv, ares, tup, ybw, ybx, yby, argsE, dval, aop, ev, evs, evo, evp, fillL, addrOf, intOf?, ybz, yca, ycb, ycc, ycd, yce, ycf, zah, zag, reduceIte, Nat.reduceEqDiff, ycg, ych, yci, ycj, yck, ycl, ycm, ycn, yco, ycp, ycq, ycr, zap, zao, reduceCtorEq, zbb, zbc, zba, zaz, Nat.reduceAdd, Nat.reduceMul, zaq, zar, eqPtr, zae, zaf, zab, zaa, zac, zad ]
    exact Op1_mono (field_spec (K := fun _ H1 => K (.tuple #[]) H1) h hlen (fun _ => by omega) hk) fun v H1 hv => by simpa only [↓yaa, ↓yab, ↓yac, ↓yad, ↓yae, ↓yaf, ↓yag, ↓yah, ↓yai, ↓yaj, ↓yak, ↓yal, ↓yam, ↓yan, ↓yao, ↓yap, ↓yaq, ↓yar, ↓yas, ↓yat, ↓yau, ↓yav, ↓yaw, ↓yax, yay, yaz, yba, ybb, ybc, ybd, ybe, ybf, ybg, ybh, ybi, ybj, ybk, ybl, ybm, ybn, ybo, ybp, ybq, ybr, ybs, ybt, ybu, ybv, ares, tup, ybw, ybx, yby, argsE, dval, aop, ev, evs, evo, evp, fillL, addrOf, intOf?, ybz, yca, ycb, ycc, ycd, yce, ycf, zah, zag, reduceIte, Nat.reduceEqDiff, ycg, ych, yci, ycj, yck, ycl, ycm, ycn, yco, ycp, ycq, ycr, zap, zao, reduceCtorEq, zbb, zbc, zba, zaz, Nat.reduceAdd, Nat.reduceMul, zaq, zar, eqPtr, zae, zaf, zab, zaa, zac, zad ] using hv

/-- A new writer. -/
theorem newWriter_eq (H : Heap) : AC tbl 13 [] H = some (.pointer (some ⟨H.length, 0, none⟩), H ++ [some ⟨true, [.slice none 0 0, .int .i64 0, .int .i64 0]⟩]) := by
  apply AC_eq
  apply AC_wp (F := F13) rfl (by simp [F13]) (.inl rfl)
  simp only [F13, ↓yaa, ↓yab, ↓yac, ↓yad, ↓yae, ↓yaf, ↓yag, ↓yah, ↓yai, ↓yaj, ↓yak, ↓yal, ↓yam, ↓yan, ↓yao, ↓yap, ↓yaq, ↓yar, ↓yas, ↓yat, ↓yau, ↓yav, ↓yaw, ↓yax, yay, yaz, yba, ybb, ybc, ybd, ybe, ybf, ybg, ybh, ybi, ybj, ybk, ybl, ybm, ybn, ybo, ybp, ybq, ybr, ybs, ybt, ybu, ybv, ares, tup, ybw, ybx, yby, argsE, dval, aop, ev, evs, evo, evp, fillL, addrOf, intOf?, ybz, yca, ycb, ycc, ycd, yce, ycf, zah, zag, reduceIte, Nat.reduceEqDiff, ycg, ych, yci, ycj, yck, ycl, ycm, ycn, yco, ycp, ycq, ycr, zap, zao, reduceCtorEq, zbb, zbc, zba, zaz, Nat.reduceAdd, Nat.reduceMul, zaq, zar, eqPtr, zae, zaf, zab, zaa, zac, zad , hload, hstore, zal, zam, Nat.reduceAdd, Nat.reduceLeDiff, zbb, zas, zat, one, zau, zaw, zav, splice, zaj, zak, zab, zaa, ycs, yct, ycu, ycv, ycw, ycx, ycy, ycz, zan, zai, zax, zay, and_self, true_and, and_true, lenV, yda, Nat.le_refl, if_true ]
  rfl
theorem newWriter_st (H : Heap) : WSt (H ++ [some ⟨true, [.slice none 0 0, .int .i64 0, .int .i64 0]⟩]) H.length none [] 0 :=
  ⟨[], ⟨ydu, fun _ => rfl, fun q hq => by simp at hq⟩, Bits.nil, rfl⟩

theorem bytes_u8s (d : List Nat) (h : ∀ x ∈ d, x < 256) : bytesOf? (u8s d) = some (d.map UInt8.ofNat) := by
  induction d with
  | nil => rfl
  | cons x d ih =>
    have := ih fun y hy => h y (List.mem_cons_of_mem _ hy)
    simp only [u8s, List.map_cons, bytesOf?] at this ⊢
    rw [this]; simp

/-- A writer's bytes, as a string. -/
def strOf (d : List Nat) : ByteArray := ⟨(d.map UInt8.ofNat).toArray⟩
/-- The string that a writer's bits make. -/
def IsStr (bs : List Bool) (s : ByteArray) : Prop := ∃ d, Bits d bs ∧ d.length = (bs.length + 7) / 8 ∧ s = strOf d
theorem IsStr.same {bs : List Bool} {s s' : ByteArray} (h : IsStr bs s) (h' : IsStr bs s') : s = s' := by
  obtain ⟨d, h1, h2, rfl⟩ := h
  obtain ⟨d', h1', h2', rfl⟩ := h'
  rw [h1.same h1' (by omega)]

theorem bytes_spec {H : Heap} {p : Nat} {o : Option Nat} {bs : List Bool} {err : Int} (h : WSt H p o bs err) : ∃ s, IsStr bs s ∧
    AC tbl 17 [.pointer (some ⟨p, 0, none⟩)] H = some (.tuple #[.string (if err = 0 then s else ⟨#[]⟩), .int .i64 err], H) := by
  obtain ⟨d, hr, hb, hd⟩ := h.ex
  refine ⟨strOf d, ⟨d, hb, hd, rfl⟩, ?_⟩
  apply AC_eq
  apply AC_wp (F := F17) rfl (by simp [F17]) (.inl rfl)
  have hp := hr.blk
  by_cases h1 : err = 0
  · subst h1
    cases o with
    | none =>
      obtain rfl := hr.nil rfl
      simp only [F17, ↓yaa, ↓yab, ↓yac, ↓yad, ↓yae, ↓yaf, ↓yag, ↓yah, ↓yai, ↓yaj, ↓yak, ↓yal, ↓yam, ↓yan, ↓yao, ↓yap, ↓yaq, ↓yar, ↓yas, ↓yat, ↓yau, ↓yav, ↓yaw, ↓yax, yay, yaz, yba, ybb, ybc, ybd, ybe, ybf, ybg, ybh, ybi, ybj, ybk, ybl, ybm, ybn, ybo, ybp, ybq, ybr, ybs, ybt, ybu, ybv, ares, tup, ybw, ybx, yby, argsE, dval, aop, ev, evs, evo, evp, fillL, addrOf, intOf?, ybz, yca, ycb, ycc, ycd, yce, ycf, zah, zag, reduceIte, Nat.reduceEqDiff, ycg, ych, yci, ycj, yck, ycl, ycm, ycn, yco, ycp, ycq, ycr, zap, zao, reduceCtorEq, zbb, zbc, zba, zaz, Nat.reduceAdd, Nat.reduceMul, zaq, zar, eqPtr, zae, zaf, zab, zaa, zac, zad , hload, hstore, zal, zam, Nat.reduceAdd, Nat.reduceLeDiff, zbb, zas, zat, one, zau, zaw, zav, splice, zaj, zak, zab, zaa, ycs, yct, ycu, ycv, ycw, ycx, ycy, ycz, zan, zai, zax, zay, and_self, true_and, and_true, lenV, yda, Nat.le_refl, if_true , hp, sliceOf, ne_eq, not_true_eq_false, bytesOf?]
      rfl
    | some q =>
      obtain ⟨hqp, hq2⟩ := hr.dat q rfl
      by_cases hd0 : d.length = 0
      · have : d = [] := List.eq_nil_of_length_eq_zero hd0
        subst this
        simp only [F17, ↓yaa, ↓yab, ↓yac, ↓yad, ↓yae, ↓yaf, ↓yag, ↓yah, ↓yai, ↓yaj, ↓yak, ↓yal, ↓yam, ↓yan, ↓yao, ↓yap, ↓yaq, ↓yar, ↓yas, ↓yat, ↓yau, ↓yav, ↓yaw, ↓yax, yay, yaz, yba, ybb, ybc, ybd, ybe, ybf, ybg, ybh, ybi, ybj, ybk, ybl, ybm, ybn, ybo, ybp, ybq, ybr, ybs, ybt, ybu, ybv, ares, tup, ybw, ybx, yby, argsE, dval, aop, ev, evs, evo, evp, fillL, addrOf, intOf?, ybz, yca, ycb, ycc, ycd, yce, ycf, zah, zag, reduceIte, Nat.reduceEqDiff, ycg, ych, yci, ycj, yck, ycl, ycm, ycn, yco, ycp, ycq, ycr, zap, zao, reduceCtorEq, zbb, zbc, zba, zaz, Nat.reduceAdd, Nat.reduceMul, zaq, zar, eqPtr, zae, zaf, zab, zaa, zac, zad , hload, hstore, zal, zam, Nat.reduceAdd, Nat.reduceLeDiff, zbb, zas, zat, one, zau, zaw, zav, splice, zaj, zak, zab, zaa, ycs, yct, ycu, ycv, ycw, ycx, ycy, ycz, zan, zai, zax, zay, and_self, true_and, and_true, lenV, yda, Nat.le_refl, if_true , hp, sliceOf, ne_eq, not_true_eq_false, bytesOf?]
        rfl
      · simp only [F17, ↓yaa, ↓yab, ↓yac, ↓yad, ↓yae, ↓yaf, ↓yag, ↓yah, ↓yai, ↓yaj, ↓yak, ↓yal, ↓yam, ↓yan, ↓yao, ↓yap, ↓yaq, ↓yar, ↓yas, ↓yat, ↓yau, ↓yav, ↓yaw, ↓yax, yay, yaz, yba, ybb, ybc, ybd, ybe, ybf, ybg, ybh, ybi, ybj, ybk, ybl, ybm, ybn, ybo, ybp, ybq, ybr, ybs, ybt, ybu, ybv, ares, tup, ybw, ybx, yby, argsE, dval, aop, ev, evs, evo, evp, fillL, addrOf, intOf?, ybz, yca, ycb, ycc, ycd, yce, ycf, zah, zag, reduceIte, Nat.reduceEqDiff, ycg, ych, yci, ycj, yck, ycl, ycm, ycn, yco, ycp, ycq, ycr, zap, zao, reduceCtorEq, zbb, zbc, zba, zaz, Nat.reduceAdd, Nat.reduceMul, zaq, zar, eqPtr, zae, zaf, zab, zaa, zac, zad , hload, hstore, zal, zam, Nat.reduceAdd, Nat.reduceLeDiff, zbb, zas, zat, one, zau, zaw, zav, splice, zaj, zak, zab, zaa, ycs, yct, ycu, ycv, ycw, ycx, ycy, ycz, zan, zai, zax, zay, and_self, true_and, and_true, lenV, yda, Nat.le_refl, if_true , hp, sliceOf, ne_eq, not_true_eq_false, hq2, hd0, u8s_length, Nat.mul_one, List.drop_zero]
        rw [show List.take d.length (u8s d) = u8s d by rw [← u8s_length d]; exact List.take_length]
        rw [bytes_u8s d hb.small]
        simp only [↓yaa, ↓yab, ↓yac, ↓yad, ↓yae, ↓yaf, ↓yag, ↓yah, ↓yai, ↓yaj, ↓yak, ↓yal, ↓yam, ↓yan, ↓yao, ↓yap, ↓yaq, ↓yar, ↓yas, ↓yat, ↓yau, ↓yav, ↓yaw, ↓yax, yay, yaz, yba, ybb, ybc, ybd, ybe, ybf, ybg, ybh, ybi, ybj, ybk, ybl, ybm, ybn, ybo, ybp, ybq, ybr, ybs, ybt, ybu, ybv, ares, tup, ybw, ybx, yby, argsE, dval, aop, ev, evs, evo, evp, fillL, addrOf, intOf?, ybz, yca, ycb, ycc, ycd, yce, ycf, zah, zag, reduceIte, Nat.reduceEqDiff, ycg, ych, yci, ycj, yck, ycl, ycm, ycn, yco, ycp, ycq, ycr, zap, zao, reduceCtorEq, zbb, zbc, zba, zaz, Nat.reduceAdd, Nat.reduceMul, zaq, zar, eqPtr, zae, zaf, zab, zaa, zac, zad ]
        exact ⟨rfl, trivial⟩
  · have c1 : decide (err ≠ 0) = true := by simp [h1]
    simp only [F17, ↓yaa, ↓yab, ↓yac, ↓yad, ↓yae, ↓yaf, ↓yag, ↓yah, ↓yai, ↓yaj, ↓yak, ↓yal, ↓yam, ↓yan, ↓yao, ↓yap, ↓yaq, ↓yar, ↓yas, ↓yat, ↓yau, ↓yav, ↓yaw, ↓yax, yay, yaz, yba, ybb, ybc, ybd, ybe, ybf, ybg, ybh, ybi, ybj, ybk, ybl, ybm, ybn, ybo, ybp, ybq, ybr, ybs, ybt, ybu, ybv, ares, tup, ybw, ybx, yby, argsE, dval, aop, ev, evs, evo, evp, fillL, addrOf, intOf?, ybz, yca, ycb, ycc, ycd, yce, ycf, zah, zag, reduceIte, Nat.reduceEqDiff, ycg, ych, yci, ycj, yck, ycl, ycm, ycn, yco, ycp, ycq, ycr, zap, zao, reduceCtorEq, zbb, zbc, zba, zaz, Nat.reduceAdd, Nat.reduceMul, zaq, zar, eqPtr, zae, zaf, zab, zaa, zac, zad , hload, hstore, zal, zam, Nat.reduceAdd, Nat.reduceLeDiff, zbb, zas, zat, one, zau, zaw, zav, splice, zaj, zak, zab, zaa, ycs, yct, ycu, ycv, ycw, ycx, ycy, ycz, zan, zai, zax, zay, and_self, true_and, and_true, lenV, yda, Nat.le_refl, if_true , hp, c1, h1]

end Go.Proofs.Ytejcabdejoameaa.AI

/- The reader's methods. -/
set_option linter.unusedSimpArgs false
namespace Go.Proofs.Ytejcabdejoameaa.AI
open Go

def RS.fail (r : RS) (e : Int) : RS := if r.err = 0 then { r with err := e } else r
def RS.left (r : RS) : Int := if r.err = 0 then 8 * (r.s.size : Int) - r.at_ else 0
/-- What holds of each reader. -/
structure RS.Ok (r : RS) : Prop where
  at_le : r.at_ ≤ 8 * r.s.size
  size : r.s.size ≤ 65536
def RS.field (r : RS) (right : Bool) (w : Int) : Nat × RS :=
  if r.err ≠ 0 then (0, r) else if right = false then (0, { r with err := 1 }) else if r.left < w then (0, { r with err := 9 }) else (valOf r.s r.at_ w.toNat, { r with at_ := r.at_ + w.toNat })

theorem RS.fail_ok {r : RS} (h : r.Ok) (e : Int) : (r.fail e).Ok := by
  unfold RS.fail; split
  · exact ⟨h.at_le, h.size⟩
  · exact h
theorem RS.field_ok {r : RS} (h : r.Ok) {right : Bool} {w : Int} (hw : right = true → 0 ≤ w) : (r.field right w).2.Ok := by
  unfold RS.field
  split
  · exact h
  · split
    · exact ⟨h.at_le, h.size⟩
    · split
      · exact ⟨h.at_le, h.size⟩
      · rename_i h1 h2 h3
        have := hw (by simpa using h2)
        simp only [RS.left, if_pos (Classical.not_not.1 h1)] at h3
        exact ⟨by simp only; omega, h.size⟩

theorem cells_get {H : Heap} {p : Nat} {r : RS} (h : RSt H p r) : hget H p = some ⟨true, [.string r.s, .int .i64 (r.at_ : Int), .int .i64 r.err]⟩ := h

theorem fail_spec {H : Heap} {p : Nat} {r : RS} {e : Int} (h : RSt H p r) : AC tbl 57 [.pointer (some ⟨p, 0, none⟩), .int .i64 e] H = some (.tuple #[], setR H p (r.fail e)) := by
  apply AC_eq
  apply AC_wp (F := F57) rfl (by simp [F57]) (.inl rfl)
  have hp := cells_get h
  by_cases h1 : r.err = 0
  · simp only [F57, ↓yaa, ↓yab, ↓yac, ↓yad, ↓yae, ↓yaf, ↓yag, ↓yah, ↓yai, ↓yaj, ↓yak, ↓yal, ↓yam, ↓yan, ↓yao, ↓yap, ↓yaq, ↓yar, ↓yas, ↓yat, ↓yau, ↓yav, ↓yaw, ↓yax, yay, yaz, yba, ybb, ybc, ybd, ybe, ybf, ybg, ybh, ybi, ybj, ybk, ybl, ybm, ybn, ybo, ybp, ybq, ybr, ybs, ybt, ybu, ybv, ares, tup, ybw, ybx, yby, argsE, dval, aop, ev, evs, evo, evp, fillL, addrOf, intOf?, ybz, yca, ycb, ycc, ycd, yce, ycf, zah, zag, reduceIte, Nat.reduceEqDiff, ycg, ych, yci, ycj, yck, ycl, ycm, ycn, yco, ycp, ycq, ycr, zap, zao, reduceCtorEq, zbb, zbc, zba, zaz, Nat.reduceAdd, Nat.reduceMul, zaq, zar, eqPtr, zae, zaf, zab, zaa, zac, zad , hload, hstore, zal, zam, Nat.reduceAdd, Nat.reduceLeDiff, zbb, zas, zat, one, zau, zaw, zav, splice, zaj, zak, zab, zaa, ycs, yct, ycu, ycv, ycw, ycx, ycy, ycz, zan, zai, zax, zay, and_self, true_and, and_true, lenV, yda, Nat.le_refl, if_true , hp, h1]
    simp [RS.fail, h1, setR, RS.cells]
  · simp only [F57, ↓yaa, ↓yab, ↓yac, ↓yad, ↓yae, ↓yaf, ↓yag, ↓yah, ↓yai, ↓yaj, ↓yak, ↓yal, ↓yam, ↓yan, ↓yao, ↓yap, ↓yaq, ↓yar, ↓yas, ↓yat, ↓yau, ↓yav, ↓yaw, ↓yax, yay, yaz, yba, ybb, ybc, ybd, ybe, ybf, ybg, ybh, ybi, ybj, ybk, ybl, ybm, ybn, ybo, ybp, ybq, ybr, ybs, ybt, ybu, ybv, ares, tup, ybw, ybx, yby, argsE, dval, aop, ev, evs, evo, evp, fillL, addrOf, intOf?, ybz, yca, ycb, ycc, ycd, yce, ycf, zah, zag, reduceIte, Nat.reduceEqDiff, ycg, ych, yci, ycj, yck, ycl, ycm, ycn, yco, ycp, ycq, ycr, zap, zao, reduceCtorEq, zbb, zbc, zba, zaz, Nat.reduceAdd, Nat.reduceMul, zaq, zar, eqPtr, zae, zaf, zab, zaa, zac, zad , hload, hstore, zal, zam, Nat.reduceAdd, Nat.reduceLeDiff, zbb, zas, zat, one, zau, zaw, zav, splice, zaj, zak, zab, zaa, ycs, yct, ycu, ycv, ycw, ycx, ycy, ycz, zan, zai, zax, zay, and_self, true_and, and_true, lenV, yda, Nat.le_refl, if_true , hp, h1]
    simp only [RS.fail, h1, if_false]
    exact (setR_same h).symm
theorem left_spec {H : Heap} {p : Nat} {r : RS} (h : RSt H p r) (ho : r.Ok) : AC tbl 33 [.pointer (some ⟨p, 0, none⟩)] H = some (.int .i64 r.left, H) := by
  apply AC_eq
  apply AC_wp (F := F33) rfl (by simp [F33]) (.inl rfl)
  have hp := cells_get h
  have h1 := ho.at_le
  have h2 := ho.size
  have w1 : IntKind.i64.wrap (8 * (r.s.size : Int)) = 8 * (r.s.size : Int) := wrap_i64 (by omega) (by omega)
  have w2 : IntKind.i64.wrap (8 * (r.s.size : Int) - (r.at_ : Int)) = 8 * (r.s.size : Int) - (r.at_ : Int) := wrap_i64 (by omega) (by omega)
  by_cases h3 : r.err = 0
  · simp only [F33, ↓yaa, ↓yab, ↓yac, ↓yad, ↓yae, ↓yaf, ↓yag, ↓yah, ↓yai, ↓yaj, ↓yak, ↓yal, ↓yam, ↓yan, ↓yao, ↓yap, ↓yaq, ↓yar, ↓yas, ↓yat, ↓yau, ↓yav, ↓yaw, ↓yax, yay, yaz, yba, ybb, ybc, ybd, ybe, ybf, ybg, ybh, ybi, ybj, ybk, ybl, ybm, ybn, ybo, ybp, ybq, ybr, ybs, ybt, ybu, ybv, ares, tup, ybw, ybx, yby, argsE, dval, aop, ev, evs, evo, evp, fillL, addrOf, intOf?, ybz, yca, ycb, ycc, ycd, yce, ycf, zah, zag, reduceIte, Nat.reduceEqDiff, ycg, ych, yci, ycj, yck, ycl, ycm, ycn, yco, ycp, ycq, ycr, zap, zao, reduceCtorEq, zbb, zbc, zba, zaz, Nat.reduceAdd, Nat.reduceMul, zaq, zar, eqPtr, zae, zaf, zab, zaa, zac, zad , hload, hstore, zal, zam, Nat.reduceAdd, Nat.reduceLeDiff, zbb, zas, zat, one, zau, zaw, zav, splice, zaj, zak, zab, zaa, ycs, yct, ycu, ycv, ycw, ycx, ycy, ycz, zan, zai, zax, zay, and_self, true_and, and_true, lenV, yda, Nat.le_refl, if_true , hp, h3, ne_eq, not_true_eq_false, w1, w2, RS.left]
  · simp only [F33, ↓yaa, ↓yab, ↓yac, ↓yad, ↓yae, ↓yaf, ↓yag, ↓yah, ↓yai, ↓yaj, ↓yak, ↓yal, ↓yam, ↓yan, ↓yao, ↓yap, ↓yaq, ↓yar, ↓yas, ↓yat, ↓yau, ↓yav, ↓yaw, ↓yax, yay, yaz, yba, ybb, ybc, ybd, ybe, ybf, ybg, ybh, ybi, ybj, ybk, ybl, ybm, ybn, ybo, ybp, ybq, ybr, ybs, ybt, ybu, ybv, ares, tup, ybw, ybx, yby, argsE, dval, aop, ev, evs, evo, evp, fillL, addrOf, intOf?, ybz, yca, ycb, ycc, ycd, yce, ycf, zah, zag, reduceIte, Nat.reduceEqDiff, ycg, ych, yci, ycj, yck, ycl, ycm, ycn, yco, ycp, ycq, ycr, zap, zao, reduceCtorEq, zbb, zbc, zba, zaz, Nat.reduceAdd, Nat.reduceMul, zaq, zar, eqPtr, zae, zaf, zab, zaa, zac, zad , hload, hstore, zal, zam, Nat.reduceAdd, Nat.reduceLeDiff, zbb, zas, zat, one, zau, zaw, zav, splice, zaj, zak, zab, zaa, ycs, yct, ycu, ycv, ycw, ycx, ycy, ycz, zan, zai, zax, zay, and_self, true_and, and_true, lenV, yda, Nat.le_refl, if_true , hp, h3, ne_eq, not_false_eq_true, RS.left]
theorem rfield_spec {H : Heap} {p : Nat} {r : RS} {right : Bool} {w : Int} (h : RSt H p r) (ho : r.Ok) (hw : right = true → 0 ≤ w ∧ w ≤ 63) :
    AC tbl 51 [.pointer (some ⟨p, 0, none⟩), .bool right, .int .i64 w] H = some (.int .u64 ((r.field right w).1 : Nat), setR H p (r.field right w).2) := by
  apply AC_eq
  apply AC_wp (F := F51) rfl (by simp [F51]) (.inl rfl)
  have hp := cells_get h
  by_cases h1 : r.err = 0
  · cases right with
    | false =>
      simp only [F51, ↓yaa, ↓yab, ↓yac, ↓yad, ↓yae, ↓yaf, ↓yag, ↓yah, ↓yai, ↓yaj, ↓yak, ↓yal, ↓yam, ↓yan, ↓yao, ↓yap, ↓yaq, ↓yar, ↓yas, ↓yat, ↓yau, ↓yav, ↓yaw, ↓yax, yay, yaz, yba, ybb, ybc, ybd, ybe, ybf, ybg, ybh, ybi, ybj, ybk, ybl, ybm, ybn, ybo, ybp, ybq, ybr, ybs, ybt, ybu, ybv, ares, tup, ybw, ybx, yby, argsE, dval, aop, ev, evs, evo, evp, fillL, addrOf, intOf?, ybz, yca, ycb, ycc, ycd, yce, ycf, zah, zag, reduceIte, Nat.reduceEqDiff, ycg, ych, yci, ycj, yck, ycl, ycm, ycn, yco, ycp, ycq, ycr, zap, zao, reduceCtorEq, zbb, zbc, zba, zaz, Nat.reduceAdd, Nat.reduceMul, zaq, zar, eqPtr, zae, zaf, zab, zaa, zac, zad , hload, hstore, zal, zam, Nat.reduceAdd, Nat.reduceLeDiff, zbb, zas, zat, one, zau, zaw, zav, splice, zaj, zak, zab, zaa, ycs, yct, ycu, ycv, ycw, ycx, ycy, ycz, zan, zai, zax, zay, and_self, true_and, and_true, lenV, yda, Nat.le_refl, if_true , hp, h1, ne_eq, not_true_eq_false, fail_spec h]
      simp [RS.field, RS.fail, h1]
    | true =>
      obtain ⟨hw0, hw1⟩ := hw rfl
      by_cases h2 : r.left < w
      · simp only [F51, ↓yaa, ↓yab, ↓yac, ↓yad, ↓yae, ↓yaf, ↓yag, ↓yah, ↓yai, ↓yaj, ↓yak, ↓yal, ↓yam, ↓yan, ↓yao, ↓yap, ↓yaq, ↓yar, ↓yas, ↓yat, ↓yau, ↓yav, ↓yaw, ↓yax, yay, yaz, yba, ybb, ybc, ybd, ybe, ybf, ybg, ybh, ybi, ybj, ybk, ybl, ybm, ybn, ybo, ybp, ybq, ybr, ybs, ybt, ybu, ybv, ares, tup, ybw, ybx, yby, argsE, dval, aop, ev, evs, evo, evp, fillL, addrOf, intOf?, ybz, yca, ycb, ycc, ycd, yce, ycf, zah, zag, reduceIte, Nat.reduceEqDiff, ycg, ych, yci, ycj, yck, ycl, ycm, ycn, yco, ycp, ycq, ycr, zap, zao, reduceCtorEq, zbb, zbc, zba, zaz, Nat.reduceAdd, Nat.reduceMul, zaq, zar, eqPtr, zae, zaf, zab, zaa, zac, zad , hload, hstore, zal, zam, Nat.reduceAdd, Nat.reduceLeDiff, zbb, zas, zat, one, zau, zaw, zav, splice, zaj, zak, zab, zaa, ycs, yct, ycu, ycv, ycw, ycx, ycy, ycz, zan, zai, zax, zay, and_self, true_and, and_true, lenV, yda, Nat.le_refl, if_true , hp, h1, ne_eq, not_true_eq_false, left_spec h ho, h2, fail_spec h]
        simp [RS.field, RS.fail, h1, h2]
      · obtain ⟨m, rfl⟩ : ∃ m : Nat, w = m := ⟨w.toNat, by omega⟩
        have h3 : r.at_ + m ≤ 8 * r.s.size := by
          simp only [RS.left, if_pos h1] at h2; omega
        have hs := ho.size
        simp only [F51, ↓yaa, ↓yab, ↓yac, ↓yad, ↓yae, ↓yaf, ↓yag, ↓yah, ↓yai, ↓yaj, ↓yak, ↓yal, ↓yam, ↓yan, ↓yao, ↓yap, ↓yaq, ↓yar, ↓yas, ↓yat, ↓yau, ↓yav, ↓yaw, ↓yax, yay, yaz, yba, ybb, ybc, ybd, ybe, ybf, ybg, ybh, ybi, ybj, ybk, ybl, ybm, ybn, ybo, ybp, ybq, ybr, ybs, ybt, ybu, ybv, ares, tup, ybw, ybx, yby, argsE, dval, aop, ev, evs, evo, evp, fillL, addrOf, intOf?, ybz, yca, ycb, ycc, ycd, yce, ycf, zah, zag, reduceIte, Nat.reduceEqDiff, ycg, ych, yci, ycj, yck, ycl, ycm, ycn, yco, ycp, ycq, ycr, zap, zao, reduceCtorEq, zbb, zbc, zba, zaz, Nat.reduceAdd, Nat.reduceMul, zaq, zar, eqPtr, zae, zaf, zab, zaa, zac, zad , hload, hstore, zal, zam, Nat.reduceAdd, Nat.reduceLeDiff, zbb, zas, zat, one, zau, zaw, zav, splice, zaj, zak, zab, zaa, ycs, yct, ycu, ycv, ycw, ycx, ycy, ycz, zan, zai, zax, zay, and_self, true_and, and_true, lenV, yda, Nat.le_refl, if_true , hp, h1, ne_eq, not_true_eq_false, left_spec h ho, h2, get_spec h (by omega : m ≤ 63) h3 (by omega)]
        simp [RS.field, h1, h2]
  · simp only [F51, ↓yaa, ↓yab, ↓yac, ↓yad, ↓yae, ↓yaf, ↓yag, ↓yah, ↓yai, ↓yaj, ↓yak, ↓yal, ↓yam, ↓yan, ↓yao, ↓yap, ↓yaq, ↓yar, ↓yas, ↓yat, ↓yau, ↓yav, ↓yaw, ↓yax, yay, yaz, yba, ybb, ybc, ybd, ybe, ybf, ybg, ybh, ybi, ybj, ybk, ybl, ybm, ybn, ybo, ybp, ybq, ybr, ybs, ybt, ybu, ybv, ares, tup, ybw, ybx, yby, argsE, dval, aop, ev, evs, evo, evp, fillL, addrOf, intOf?, ybz, yca, ycb, ycc, ycd, yce, ycf, zah, zag, reduceIte, Nat.reduceEqDiff, ycg, ych, yci, ycj, yck, ycl, ycm, ycn, yco, ycp, ycq, ycr, zap, zao, reduceCtorEq, zbb, zbc, zba, zaz, Nat.reduceAdd, Nat.reduceMul, zaq, zar, eqPtr, zae, zaf, zab, zaa, zac, zad , hload, hstore, zal, zam, Nat.reduceAdd, Nat.reduceLeDiff, zbb, zas, zat, one, zau, zaw, zav, splice, zaj, zak, zab, zaa, ycs, yct, ycu, ycv, ycw, ycx, ycy, ycz, zan, zai, zax, zay, and_self, true_and, and_true, lenV, yda, Nat.le_refl, if_true , hp, h1, ne_eq, not_false_eq_true]
    simp only [RS.field, h1, ne_eq, not_false_eq_true, if_true]
    exact ⟨rfl, (setR_same h).symm⟩

/-- A new reader. -/
def newR (s : ByteArray) : RS := if 65536 < s.size then ⟨⟨#[]⟩, 0, 8⟩ else ⟨s, 0, 0⟩
theorem newR_ok (s : ByteArray) : (newR s).Ok := by
  unfold newR; split
  · exact ⟨Nat.zero_le _, by decide⟩
  · exact ⟨Nat.zero_le _, by simp only; omega⟩
theorem newReader_eq (H : Heap) (s : ByteArray) : AC tbl 21 [.string s] H = some (.pointer (some ⟨H.length, 0, none⟩), H ++ [some ⟨true, (newR s).cells⟩]) := by
  apply AC_eq
  apply AC_wp (F := F21) rfl (by simp [F21]) (.inl rfl)
  by_cases h : (65536 : Int) < (s.size : Int)
  · have h' : 65536 < s.size := by omega
    simp only [F21, ↓yaa, ↓yab, ↓yac, ↓yad, ↓yae, ↓yaf, ↓yag, ↓yah, ↓yai, ↓yaj, ↓yak, ↓yal, ↓yam, ↓yan, ↓yao, ↓yap, ↓yaq, ↓yar, ↓yas, ↓yat, ↓yau, ↓yav, ↓yaw, ↓yax, yay, yaz, yba, ybb, ybc, ybd, ybe, ybf, ybg, ybh, ybi, ybj, ybk, ybl, ybm, ybn, ybo, ybp, ybq, ybr, ybs, ybt, ybu, ybv, ares, tup, ybw, ybx, yby, argsE, dval, aop, ev, evs, evo, evp, fillL, addrOf, intOf?, ybz, yca, ycb, ycc, ycd, yce, ycf, zah, zag, reduceIte, Nat.reduceEqDiff, ycg, ych, yci, ycj, yck, ycl, ycm, ycn, yco, ycp, ycq, ycr, zap, zao, reduceCtorEq, zbb, zbc, zba, zaz, Nat.reduceAdd, Nat.reduceMul, zaq, zar, eqPtr, zae, zaf, zab, zaa, zac, zad , hload, hstore, zal, zam, Nat.reduceAdd, Nat.reduceLeDiff, zbb, zas, zat, one, zau, zaw, zav, splice, zaj, zak, zab, zaa, ycs, yct, ycu, ycv, ycw, ycx, ycy, ycz, zan, zai, zax, zay, and_self, true_and, and_true, lenV, yda, Nat.le_refl, if_true , h]
    simp [newR, h', RS.cells]; rfl
  · have h' : ¬ 65536 < s.size := by omega
    simp only [F21, ↓yaa, ↓yab, ↓yac, ↓yad, ↓yae, ↓yaf, ↓yag, ↓yah, ↓yai, ↓yaj, ↓yak, ↓yal, ↓yam, ↓yan, ↓yao, ↓yap, ↓yaq, ↓yar, ↓yas, ↓yat, ↓yau, ↓yav, ↓yaw, ↓yax, yay, yaz, yba, ybb, ybc, ybd, ybe, ybf, ybg, ybh, ybi, ybj, ybk, ybl, ybm, ybn, ybo, ybp, ybq, ybr, ybs, ybt, ybu, ybv, ares, tup, ybw, ybx, yby, argsE, dval, aop, ev, evs, evo, evp, fillL, addrOf, intOf?, ybz, yca, ycb, ycc, ycd, yce, ycf, zah, zag, reduceIte, Nat.reduceEqDiff, ycg, ych, yci, ycj, yck, ycl, ycm, ycn, yco, ycp, ycq, ycr, zap, zao, reduceCtorEq, zbb, zbc, zba, zaz, Nat.reduceAdd, Nat.reduceMul, zaq, zar, eqPtr, zae, zaf, zab, zaa, zac, zad , hload, hstore, zal, zam, Nat.reduceAdd, Nat.reduceLeDiff, zbb, zas, zat, one, zau, zaw, zav, splice, zaj, zak, zab, zaa, ycs, yct, ycu, ycv, ycw, ycx, ycy, ycz, zan, zai, zax, zay, and_self, true_and, and_true, lenV, yda, Nat.le_refl, if_true , h]
    simp [newR, h', RS.cells]; rfl

def RS.unsigned (r : RS) (w : Int) : Int × RS := let x := r.field (decide (1 ≤ w ∧ w ≤ 63)) w; ((x.1 : Int), x.2)
theorem valOf_small {s : ByteArray} {a w : Nat} (h : w ≤ 63) : valOf s a w < 9223372036854775808 := by
  have h1 := valOf_lt s a w
  have h2 : 2 ^ w ≤ 2 ^ 63 := Nat.pow_le_pow_right (by omega) h
  have : (2 : Nat) ^ 63 = 9223372036854775808 := by decide
  omega
theorem field_small {r : RS} {right : Bool} {w : Int} (hw : right = true → w ≤ 63) : (r.field right w).1 < 9223372036854775808 := by
  unfold RS.field
  split
  · simp
  · split
    · simp
    · split
      · simp
      · rename_i h1 h2 h3
        have := hw (by simpa using h2)
        exact valOf_small (by omega)
theorem runsigned_spec {H : Heap} {p : Nat} {r : RS} {w : Int} (h : RSt H p r) (ho : r.Ok) :
    AC tbl 40 [.pointer (some ⟨p, 0, none⟩), .int .i64 w] H = some (.int .i64 (r.unsigned w).1, setR H p (r.unsigned w).2) := by
  apply AC_eq
  apply AC_wp (F := F40) rfl (by simp [F40]) (.inl rfl)
  have hsm := @field_small r (decide (1 ≤ w ∧ w ≤ 63)) w (fun hr => by simp at hr; omega)
  have hsp := @rfield_spec H p r (decide (1 ≤ w ∧ w ≤ 63)) w h ho (fun hr => by simp at hr; omega)
  have hwr : IntKind.i64.wrap (((r.field (decide (1 ≤ w ∧ w ≤ 63)) w).1 : Nat) : Int) = (((r.field (decide (1 ≤ w ∧ w ≤ 63)) w).1 : Nat) : Int) := wrap_i64 (by omega) (by omega)
  by_cases h1 : 1 ≤ w
  · have e1 : decide (1 ≤ w ∧ w ≤ 63) = decide (w ≤ 63) := by simp [h1]
    rw [e1] at hsp hwr
    have e2 : r.unsigned w = (((r.field (decide (w ≤ 63)) w).1 : Int), (r.field (decide (w ≤ 63)) w).2) := by unfold RS.unsigned; rw [e1]
    rw [e2]
    simp only [F40, ↓yaa, ↓yab, ↓yac, ↓yad, ↓yae, ↓yaf, ↓yag, ↓yah, ↓yai, ↓yaj, ↓yak, ↓yal, ↓yam, ↓yan, ↓yao, ↓yap, ↓yaq, ↓yar, ↓yas, ↓yat, ↓yau, ↓yav, ↓yaw, ↓yax, yay, yaz, yba, ybb, ybc, ybd, ybe, ybf, ybg, ybh, ybi, ybj, ybk, ybl, ybm, ybn, ybo, ybp, ybq, ybr, ybs, ybt, ybu, ybv, ares, tup, ybw, ybx, yby, argsE, dval, aop, ev, evs, evo, evp, fillL, addrOf, intOf?, ybz, yca, ycb, ycc, ycd, yce, ycf, zah, zag, reduceIte, Nat.reduceEqDiff, ycg, ych, yci, ycj, yck, ycl, ycm, ycn, yco, ycp, ycq, ycr, zap, zao, reduceCtorEq, zbb, zbc, zba, zaz, Nat.reduceAdd, Nat.reduceMul, zaq, zar, eqPtr, zae, zaf, zab, zaa, zac, zad , hload, hstore, zal, zam, Nat.reduceAdd, Nat.reduceLeDiff, zbb, zas, zat, one, zau, zaw, zav, splice, zaj, zak, zab, zaa, ycs, yct, ycu, ycv, ycw, ycx, ycy, ycz, zan, zai, zax, zay, and_self, true_and, and_true, lenV, yda, Nat.le_refl, if_true , h1, hsp, hwr]
  · have e1 : decide (1 ≤ w ∧ w ≤ 63) = false := by simp [h1]
    rw [e1] at hsp hwr
    have e2 : r.unsigned w = (((r.field false w).1 : Int), (r.field false w).2) := by unfold RS.unsigned; rw [e1]
    rw [e2]
    simp only [F40, ↓yaa, ↓yab, ↓yac, ↓yad, ↓yae, ↓yaf, ↓yag, ↓yah, ↓yai, ↓yaj, ↓yak, ↓yal, ↓yam, ↓yan, ↓yao, ↓yap, ↓yaq, ↓yar, ↓yas, ↓yat, ↓yau, ↓yav, ↓yaw, ↓yax, yay, yaz, yba, ybb, ybc, ybd, ybe, ybf, ybg, ybh, ybi, ybj, ybk, ybl, ybm, ybn, ybo, ybp, ybq, ybr, ybs, ybt, ybu, ybv, ares, tup, ybw, ybx, yby, argsE, dval, aop, ev, evs, evo, evp, fillL, addrOf, intOf?, ybz, yca, ycb, ycc, ycd, yce, ycf, zah, zag, reduceIte, Nat.reduceEqDiff, ycg, ych, yci, ycj, yck, ycl, ycm, ycn, yco, ycp, ycq, ycr, zap, zao, reduceCtorEq, zbb, zbc, zba, zaz, Nat.reduceAdd, Nat.reduceMul, zaq, zar, eqPtr, zae, zaf, zab, zaa, zac, zad , hload, hstore, zal, zam, Nat.reduceAdd, Nat.reduceLeDiff, zbb, zas, zat, one, zau, zaw, zav, splice, zaj, zak, zab, zaa, ycs, yct, ycu, ycv, ycw, ycx, ycy, ycz, zan, zai, zax, zay, and_self, true_and, and_true, lenV, yda, Nat.le_refl, if_true , h1, hsp, hwr]
def RS.flag (r : RS) : Bool × RS := let x := r.field true 1; (decide (x.1 = 1), x.2)
theorem rflag_spec {H : Heap} {p : Nat} {r : RS} (h : RSt H p r) (ho : r.Ok) :
    AC tbl 41 [.pointer (some ⟨p, 0, none⟩)] H = some (.bool r.flag.1, setR H p r.flag.2) := by
  apply AC_eq
  apply AC_wp (F := F41) rfl (by simp [F41]) (.inl rfl)
  have hsp := @rfield_spec H p r true 1 h ho (fun _ => by omega)
  have e1 : decide ((((r.field true 1).1 : Nat) : Int) = 1) = decide ((r.field true 1).1 = 1) := by simp only [decide_eq_decide]; omega
  simp only [F41, ↓yaa, ↓yab, ↓yac, ↓yad, ↓yae, ↓yaf, ↓yag, ↓yah, ↓yai, ↓yaj, ↓yak, ↓yal, ↓yam, ↓yan, ↓yao, ↓yap, ↓yaq, ↓yar, ↓yas, ↓yat, ↓yau, ↓yav, ↓yaw, ↓yax, yay, yaz, yba, ybb, ybc, ybd, ybe, ybf, ybg, ybh, ybi, ybj, ybk, ybl, ybm, ybn, ybo, ybp, ybq, ybr, ybs, ybt, ybu, ybv, ares, tup, ybw, ybx, yby, argsE, dval, aop, ev, evs, evo, evp, fillL, addrOf, intOf?, ybz, yca, ycb, ycc, ycd, yce, ycf, zah, zag, reduceIte, Nat.reduceEqDiff, ycg, ych, yci, ycj, yck, ycl, ycm, ycn, yco, ycp, ycq, ycr, zap, zao, reduceCtorEq, zbb, zbc, zba, zaz, Nat.reduceAdd, Nat.reduceMul, zaq, zar, eqPtr, zae, zaf, zab, zaa, zac, zad , hload, hstore, zal, zam, Nat.reduceAdd, Nat.reduceLeDiff, zbb, zas, zat, one, zau, zaw, zav, splice, zaj, zak, zab, zaa, ycs, yct, ycu, ycv, ycw, ycx, ycy, ycz, zan, zai, zax, zay, and_self, true_and, and_true, lenV, yda, Nat.le_refl, if_true , hsp, RS.flag, e1]

end Go.Proofs.Ytejcabdejoameaa.AI

/- The reader's signed numbers and its end. -/
set_option linter.unusedSimpArgs false
namespace Go.Proofs.Ytejcabdejoameaa.AI
open Go

def RS.signed (r : RS) (w : Int) : Int × RS :=
  let x := r.field (decide (2 ≤ w ∧ w ≤ 63)) w
  (if x.2.err = 0 ∧ 2 ^ (w.toNat - 1) ≤ x.1 then (x.1 : Int) - 2 ^ w.toNat else (x.1 : Int), x.2)

theorem and64i (a : Nat) (h : a < 9223372036854775808) : binV .and (.int .i64 (a : Int)) (.int .i64 1) = some (.int .i64 ((a % 2 : Nat) : Int)) := by
  rw [binV_and]
  have : (BitVec.ofInt IntKind.i64.bits (a : Int) &&& BitVec.ofInt IntKind.i64.bits 1).toNat = a % 2 := by
    rw [BitVec.toNat_and]
    simp only [BitVec.toNat_ofInt, IntKind.bits]
    have : ((a : Int) % ((2 ^ 64 : Nat) : Int)).toNat = a := by
      rw [show ((2 ^ 64 : Nat) : Int) = 18446744073709551616 by decide]; omega
    rw [this, show ((1 : Int) % ((2 ^ 64 : Nat) : Int)).toNat = 1 by decide, Nat.and_one_is_mod]
  rw [this, wrap_i64 (by omega) (by omega)]
theorem shr64i (a s : Nat) (hs : s ≤ 64) : binV .shr (.int .i64 (a : Int)) (.int .i64 (s : Int)) = some (.int .i64 ((a / 2 ^ s : Nat) : Int)) := by
  rw [binV_shr _ _ _ _ (by omega), shr_nat .i64 a s hs]
theorem wrap_sub_wrap (a b : Int) : IntKind.i64.wrap (a - IntKind.i64.wrap b) = IntKind.i64.wrap (a - b) := by
  simp only [IntKind.wrap, IntKind.bits, IntKind.signed, zaw, ge_iff_le, decide_eq_true_eq]
  have e1 : (2 : Int) ^ 64 = 18446744073709551616 := by decide
  have e2 : (2 : Int) ^ (64 - 1) = 9223372036854775808 := by decide
  rw [e1, e2]
  split <;> split <;> split <;> omega
theorem top_bit {n m : Nat} (h : n < 2 ^ (m + 1)) : n / 2 ^ m % 2 = 1 ↔ 2 ^ m ≤ n := by
  have h0 := Nat.two_pow_pos m
  have h1 : n / 2 ^ m < 2 := by rw [Nat.div_lt_iff_lt_mul h0]; rw [Nat.pow_succ] at h; omega
  have h2 : 1 ≤ n / 2 ^ m ↔ 2 ^ m ≤ n := by rw [Nat.le_div_iff_mul_le h0]; omega
  rw [← h2]
  generalize n / 2 ^ m = q at *
  omega

theorem field_err0 {r : RS} {right : Bool} {w : Int} (h : (r.field right w).2.err = 0) : right = true ∧ r.err = 0 ∧ r.field right w = (valOf r.s r.at_ w.toNat, { r with at_ := r.at_ + w.toNat }) ∧ ¬ r.left < w := by
  unfold RS.field at h ⊢
  split at h
  · rename_i h1; exact absurd h h1
  · split at h
    · simp at h
    · split at h
      · simp at h
      · rename_i h1 h2 h3
        exact ⟨by simpa using h2, by simpa using h1, by rw [if_neg h1, if_neg h2, if_neg h3], h3⟩


end Go.Proofs.Ytejcabdejoameaa.AI

/- The writer's texts. -/
set_option linter.unusedSimpArgs false
namespace Go.Proofs.Ytejcabdejoameaa.AI
open Go

/-- A text's bits from byte i on. -/
def textBits (t : ByteArray) : List Bool := (t.data.toList.map fun b => bitsOf 8 b.toNat).flatten
def WS.text (s : WS) (most : Int) (t : ByteArray) : WS :=
  if s.err ≠ 0 then s else if lim most = false then ⟨s.bs, 1⟩
  else if most < (t.size : Int) ∨ 524288 < (s.bs.length : Int) + wd most + 8 * t.size then ⟨s.bs, 8⟩
  else ⟨s.bs ++ bitsOf (wd most) t.size ++ textBits t, s.err⟩

theorem size_list (t : ByteArray) : t.data.toList.length = t.size := by rw [Array.length_toList]; rfl
def textPre (t : ByteArray) (i : Nat) : List Bool := ((t.data.toList.take i).map fun b => bitsOf 8 b.toNat).flatten
theorem textPre_all (t : ByteArray) : textPre t t.size = textBits t := by
  unfold textPre textBits
  rw [← size_list, List.take_length]
theorem textPre_succ (t : ByteArray) (i : Nat) (b : UInt8) (h : t.data.toList[i]? = some b) : textPre t (i + 1) = textPre t i ++ bitsOf 8 b.toNat := by
  unfold textPre
  rw [List.take_add_one, h]
  simp
theorem textPre_length (t : ByteArray) (i : Nat) (h : i ≤ t.size) : (textPre t i).length = 8 * i := by
  induction i with
  | zero => simp [textPre]
  | succ i ih =>
    have hi : i < t.data.toList.length := by rw [size_list]; omega
    rw [textPre_succ t i _ (List.getElem?_eq_getElem hi), zai, ih (by omega), bitsOf_length]; omega
theorem byte_get (t : ByteArray) (i : Nat) (h : i < t.size) : ∃ b : UInt8, t[i]? = some b ∧ t.data.toList[i]? = some b := by
  have hi : i < t.data.toList.length := by rw [size_list]; exact h
  refine ⟨t.data.toList[i], ?_, List.getElem?_eq_getElem hi⟩
  rw [getElem?_pos t i h]; rfl

theorem wd_le {n : Int} (h : n < 9223372036854775808) : wd n ≤ 63 := by
  unfold wd; split
  · omega
  · have := (@blen_le n.toNat 63).2 (by omega); omega

theorem text_spec {H : Heap} {p : Nat} {o : Option Nat} {s : WS} {most : Int} {t : ByteArray} (h : WSt H p o s.bs s.err) (hlen : s.bs.length ≤ 524288) (hm : Is64 most) (ht : t.size ≤ 1000000000000000) {K : Value → Heap → Prop}
    (hk : Wrote H p o (s.text most t) K) : Op1 (AC tbl 38 [.pointer (some ⟨p, 0, none⟩), .int .i64 most, .string t] H) K := by
  apply AC_wp (F := F38) rfl (by simp [F38]) (.inl rfl)
  obtain ⟨d, hr, hb, hd⟩ := h.ex
  have hp := hr.blk
  have hpl := hget_lt hp
  have setE : ∀ err', s.text most t = ⟨s.bs, err'⟩ → K (.tuple #[]) (H.set p (some ⟨true, [sliceOf o d, .int .i64 (s.bs.length : Int), .int .i64 err']⟩)) := fun err' he => by
    refine hk _ o ?_ ((Frm.refl _ _).set _ (by simp)) (fun q hq => .inl hq)
    rw [he]
    exact ⟨d, hr.setErr err', hb, hd⟩
  have hwd := wd_le (n := most) hm.2
  by_cases h1 : s.err = 0
  · have c1 : decide (s.err ≠ 0) = false := by simp [h1]
    cases h2 : lim most with
    | false =>
      simp only [F38, ↓yaa, ↓yab, ↓yac, ↓yad, ↓yae, ↓yaf, ↓yag, ↓yah, ↓yai, ↓yaj, ↓yak, ↓yal, ↓yam, ↓yan, ↓yao, ↓yap, ↓yaq, ↓yar, ↓yas, ↓yat, ↓yau, ↓yav, ↓yaw, ↓yax, yay, yaz, yba, ybb, ybc, ybd, ybe, ybf, ybg, ybh, ybi, ybj, ybk, ybl, ybm, ybn, ybo, ybp, ybq, ybr, ybs, ybt, ybu, ybv, ares, tup, ybw, ybx, yby, argsE, dval, aop, ev, evs, evo, evp, fillL, addrOf, intOf?, ybz, yca, ycb, ycc, ycd, yce, ycf, zah, zag, reduceIte, Nat.reduceEqDiff, ycg, ych, yci, ycj, yck, ycl, ycm, ycn, yco, ycp, ycq, ycr, zap, zao, reduceCtorEq, zbb, zbc, zba, zaz, Nat.reduceAdd, Nat.reduceMul, zaq, zar, eqPtr, zae, zaf, zab, zaa, zac, zad , hload, hstore, zal, zam, Nat.reduceAdd, Nat.reduceLeDiff, zbb, zas, zat, one, zau, zaw, zav, splice, zaj, zak, zab, zaa, ycs, yct, ycu, ycv, ycw, ycx, ycy, ycz, zan, zai, zax, zay, and_self, true_and, and_true, lenV, yda, Nat.le_refl, if_true , hp, c1, limit, h2]
      exact setE 1 (by simp [WS.text, h1, h2])
    | true =>
      have hw1 : IntKind.i64.wrap (8 * (t.size : Int)) = 8 * (t.size : Int) := wrap_i64 (by omega) (by omega)
      have hw2 : IntKind.i64.wrap ((s.bs.length : Int) + (wd most : Int)) = (s.bs.length : Int) + (wd most : Int) := wrap_i64 (by omega) (by omega)
      have hw3 : IntKind.i64.wrap ((s.bs.length : Int) + (wd most : Int) + 8 * (t.size : Int)) = (s.bs.length : Int) + (wd most : Int) + 8 * (t.size : Int) := wrap_i64 (by omega) (by omega)
      by_cases h3 : most < (t.size : Int)
      · simp only [F38, ↓yaa, ↓yab, ↓yac, ↓yad, ↓yae, ↓yaf, ↓yag, ↓yah, ↓yai, ↓yaj, ↓yak, ↓yal, ↓yam, ↓yan, ↓yao, ↓yap, ↓yaq, ↓yar, ↓yas, ↓yat, ↓yau, ↓yav, ↓yaw, ↓yax, yay, yaz, yba, ybb, ybc, ybd, ybe, ybf, ybg, ybh, ybi, ybj, ybk, ybl, ybm, ybn, ybo, ybp, ybq, ybr, ybs, ybt, ybu, ybv, ares, tup, ybw, ybx, yby, argsE, dval, aop, ev, evs, evo, evp, fillL, addrOf, intOf?, ybz, yca, ycb, ycc, ycd, yce, ycf, zah, zag, reduceIte, Nat.reduceEqDiff, ycg, ych, yci, ycj, yck, ycl, ycm, ycn, yco, ycp, ycq, ycr, zap, zao, reduceCtorEq, zbb, zbc, zba, zaz, Nat.reduceAdd, Nat.reduceMul, zaq, zar, eqPtr, zae, zaf, zab, zaa, zac, zad , hload, hstore, zal, zam, Nat.reduceAdd, Nat.reduceLeDiff, zbb, zas, zat, one, zau, zaw, zav, splice, zaj, zak, zab, zaa, ycs, yct, ycu, ycv, ycw, ycx, ycy, ycz, zan, zai, zax, zay, and_self, true_and, and_true, lenV, yda, Nat.le_refl, if_true , hp, c1, limit, h2, h3]
        exact setE 8 (by simp [WS.text, h1, h2, h3])
      · by_cases h4 : 524288 < (s.bs.length : Int) + wd most + 8 * t.size
        · simp only [F38, ↓yaa, ↓yab, ↓yac, ↓yad, ↓yae, ↓yaf, ↓yag, ↓yah, ↓yai, ↓yaj, ↓yak, ↓yal, ↓yam, ↓yan, ↓yao, ↓yap, ↓yaq, ↓yar, ↓yas, ↓yat, ↓yau, ↓yav, ↓yaw, ↓yax, yay, yaz, yba, ybb, ybc, ybd, ybe, ybf, ybg, ybh, ybi, ybj, ybk, ybl, ybm, ybn, ybo, ybp, ybq, ybr, ybs, ybt, ybu, ybv, ares, tup, ybw, ybx, yby, argsE, dval, aop, ev, evs, evo, evp, fillL, addrOf, intOf?, ybz, yca, ycb, ycc, ycd, yce, ycf, zah, zag, reduceIte, Nat.reduceEqDiff, ycg, ych, yci, ycj, yck, ycl, ycm, ycn, yco, ycp, ycq, ycr, zap, zao, reduceCtorEq, zbb, zbc, zba, zaz, Nat.reduceAdd, Nat.reduceMul, zaq, zar, eqPtr, zae, zaf, zab, zaa, zac, zad , hload, hstore, zal, zam, Nat.reduceAdd, Nat.reduceLeDiff, zbb, zas, zat, one, zau, zaw, zav, splice, zaj, zak, zab, zaa, ycs, yct, ycu, ycv, ycw, ycx, ycy, ycz, zan, zai, zax, zay, and_self, true_and, and_true, lenV, yda, Nat.le_refl, if_true , hp, c1, limit, h2, h3, width most hm.2, hw1, hw2, hw3, h4]
          exact setE 8 (by simp [WS.text, h1, h2, h4])
        · simp only [F38, ↓yaa, ↓yab, ↓yac, ↓yad, ↓yae, ↓yaf, ↓yag, ↓yah, ↓yai, ↓yaj, ↓yak, ↓yal, ↓yam, ↓yan, ↓yao, ↓yap, ↓yaq, ↓yar, ↓yas, ↓yat, ↓yau, ↓yav, ↓yaw, ↓yax, yay, yaz, yba, ybb, ybc, ybd, ybe, ybf, ybg, ybh, ybi, ybj, ybk, ybl, ybm, ybn, ybo, ybp, ybq, ybr, ybs, ybt, ybu, ybv, ares, tup, ybw, ybx, yby, argsE, dval, aop, ev, evs, evo, evp, fillL, addrOf, intOf?, ybz, yca, ycb, ycc, ycd, yce, ycf, zah, zag, reduceIte, Nat.reduceEqDiff, ycg, ych, yci, ycj, yck, ycl, ycm, ycn, yco, ycp, ycq, ycr, zap, zao, reduceCtorEq, zbb, zbc, zba, zaz, Nat.reduceAdd, Nat.reduceMul, zaq, zar, eqPtr, zae, zaf, zab, zaa, zac, zad , hload, hstore, zal, zam, Nat.reduceAdd, Nat.reduceLeDiff, zbb, zas, zat, one, zau, zaw, zav, splice, zaj, zak, zab, zaa, ycs, yct, ycu, ycv, ycw, ycx, ycy, ycz, zan, zai, zax, zay, and_self, true_and, and_true, lenV, yda, Nat.le_refl, if_true , hp, c1, limit, h2, h3, width most hm.2, hw1, hw2, hw3, h4]
          have hsz : IntKind.u64.wrap (t.size : Int) = (t.size : Int) := wrap_u64 (by omega) (by omega)
          rw [hsz]
          refine put_spec (by omega) (by omega) (by omega) h _ fun H1 o1 k1 k2 k3 => ?_
          simp only [↓yaa, ↓yab, ↓yac, ↓yad, ↓yae, ↓yaf, ↓yag, ↓yah, ↓yai, ↓yaj, ↓yak, ↓yal, ↓yam, ↓yan, ↓yao, ↓yap, ↓yaq, ↓yar, ↓yas, ↓yat, ↓yau, ↓yav, ↓yaw, ↓yax, yay, yaz, yba, ybb, ybc, ybd, ybe, ybf, ybg, ybh, ybi, ybj, ybk, ybl, ybm, ybn, ybo, ybp, ybq, ybr, ybs, ybt, ybu, ybv, ares, tup, ybw, ybx, yby, argsE, dval, aop, ev, evs, evo, evp, fillL, addrOf, intOf?, ybz, yca, ycb, ycc, ycd, yce, ycf, zah, zag, reduceIte, Nat.reduceEqDiff, ycg, ych, yci, ycj, yck, ycl, ycm, ycn, yco, ycp, ycq, ycr, zap, zao, reduceCtorEq, zbb, zbc, zba, zaz, Nat.reduceAdd, Nat.reduceMul, zaq, zar, eqPtr, zae, zaf, zab, zaa, zac, zad ]
          have hfin : s.text most t = ⟨s.bs ++ bitsOf (wd most) t.size ++ textBits t, s.err⟩ := by simp [WS.text, h1, h2, h3, h4]
          unfold Wrote at hk
          rw [hfin] at hk
          clear hfin setE
          apply AW_loop_inv (fun j e H2 => j ≤ t.size ∧ e = [(0, .pointer (some ⟨p, 0, none⟩)), (2, .string t), (15, .int .i64 t.size), (16, .int .i64 ((t.size - j : Nat) : Int))] ∧
            ∃ o2, WSt H2 p o2 (s.bs ++ bitsOf (wd most) t.size ++ textPre t (t.size - j)) s.err ∧ Frm (p :: o.toList) H H2 ∧ (∀ q, o2 = some q → o = some q ∨ H.length ≤ q)) _ t.size
          · refine ⟨Nat.le_refl _, by rw [Nat.sub_self]; rfl, o1, ?_, k2, k3⟩
            rw [Nat.sub_self]; simpa [textPre] using k1
          · rintro j e H2 ⟨hj, rfl, o2, m1, m2, m3⟩
            cases j with
            | zero =>
              have g0 : ¬ ((t.size - 0 : Nat) : Int) < (t.size : Int) := by omega
              simp only [↓yaa, ↓yab, ↓yac, ↓yad, ↓yae, ↓yaf, ↓yag, ↓yah, ↓yai, ↓yaj, ↓yak, ↓yal, ↓yam, ↓yan, ↓yao, ↓yap, ↓yaq, ↓yar, ↓yas, ↓yat, ↓yau, ↓yav, ↓yaw, ↓yax, yay, yaz, yba, ybb, ybc, ybd, ybe, ybf, ybg, ybh, ybi, ybj, ybk, ybl, ybm, ybn, ybo, ybp, ybq, ybr, ybs, ybt, ybu, ybv, ares, tup, ybw, ybx, yby, argsE, dval, aop, ev, evs, evo, evp, fillL, addrOf, intOf?, ybz, yca, ycb, ycc, ycd, yce, ycf, zah, zag, reduceIte, Nat.reduceEqDiff, ycg, ych, yci, ycj, yck, ycl, ycm, ycn, yco, ycp, ycq, ycr, zap, zao, reduceCtorEq, zbb, zbc, zba, zaz, Nat.reduceAdd, Nat.reduceMul, zaq, zar, eqPtr, zae, zaf, zab, zaa, zac, zad , g0]
              refine hk _ o2 ?_ m2 m3
              rw [Nat.sub_zero, textPre_all] at m1
              exact m1
            | succ j =>
              have g0 : ((t.size - (j + 1) : Nat) : Int) < (t.size : Int) := by omega
              have hi : t.size - (j + 1) < t.size := by omega
              obtain ⟨b, hb1, hb2⟩ := byte_get t _ hi
              have hbw : IntKind.u64.wrap (b.toNat : Int) = (b.toNat : Int) := wrap_u64 (by omega) (by have := b.toNat_lt; omega)
              have g1 : (0 : Int) ≤ ((t.size - (j + 1) : Nat) : Int) := by omega
              have g2 : IntKind.i64.wrap (((t.size - (j + 1) : Nat) : Int) + 1) = ((t.size - j : Nat) : Int) := by rw [wrap_i64 (by omega) (by omega)]; omega
              simp only [↓yaa, ↓yab, ↓yac, ↓yad, ↓yae, ↓yaf, ↓yag, ↓yah, ↓yai, ↓yaj, ↓yak, ↓yal, ↓yam, ↓yan, ↓yao, ↓yap, ↓yaq, ↓yar, ↓yas, ↓yat, ↓yau, ↓yav, ↓yaw, ↓yax, yay, yaz, yba, ybb, ybc, ybd, ybe, ybf, ybg, ybh, ybi, ybj, ybk, ybl, ybm, ybn, ybo, ybp, ybq, ybr, ybs, ybt, ybu, ybv, ares, tup, ybw, ybx, yby, argsE, dval, aop, ev, evs, evo, evp, fillL, addrOf, intOf?, ybz, yca, ycb, ycc, ycd, yce, ycf, zah, zag, reduceIte, Nat.reduceEqDiff, ycg, ych, yci, ycj, yck, ycl, ycm, ycn, yco, ycp, ycq, ycr, zap, zao, reduceCtorEq, zbb, zbc, zba, zaz, Nat.reduceAdd, Nat.reduceMul, zaq, zar, eqPtr, zae, zaf, zab, zaa, zac, zad , g0, g1, Int.toNat_natCast, hb1, hbw]
              refine put_spec (p := p) (o := o2) (w := 8) (by have := b.toNat_lt; omega) (by omega) ?_ m1 _ fun H3 o3 n1 n2 n3 => ?_
              · rw [zai, zai, bitsOf_length, textPre_length _ _ (by omega)]; omega
              · simp only [↓yaa, ↓yab, ↓yac, ↓yad, ↓yae, ↓yaf, ↓yag, ↓yah, ↓yai, ↓yaj, ↓yak, ↓yal, ↓yam, ↓yan, ↓yao, ↓yap, ↓yaq, ↓yar, ↓yas, ↓yat, ↓yau, ↓yav, ↓yaw, ↓yax, yay, yaz, yba, ybb, ybc, ybd, ybe, ybf, ybg, ybh, ybi, ybj, ybk, ybl, ybm, ybn, ybo, ybp, ybq, ybr, ybs, ybt, ybu, ybv, ares, tup, ybw, ybx, yby, argsE, dval, aop, ev, evs, evo, evp, fillL, addrOf, intOf?, ybz, yca, ycb, ycc, ycd, yce, ycf, zah, zag, reduceIte, Nat.reduceEqDiff, ycg, ych, yci, ycj, yck, ycl, ycm, ycn, yco, ycp, ycq, ycr, zap, zao, reduceCtorEq, zbb, zbc, zba, zaz, Nat.reduceAdd, Nat.reduceMul, zaq, zar, eqPtr, zae, zaf, zab, zaa, zac, zad , g2]
                refine ⟨j, by omega, by omega, rfl, o3, ?_, m2.trans n2 ?_, fun q hq => ?_⟩
                · rw [show t.size - j = t.size - (j + 1) + 1 by omega, textPre_succ t _ b hb2]
                  simpa using n1
                · intro i hi
                  rcases List.mem_cons.1 hi with rfl | hi
                  · left; simp
                  · rcases m3 i (by simpa [Option.mem_toList] using hi) with h5 | h5
                    · left; simp [h5]
                    · right; exact h5
                · rcases n3 q hq with h5 | h5
                  · exact m3 q h5
                  · right; have := m2.1; omega
  · have c1 : decide (s.err ≠ 0) = true := by simp [h1]
    simp only [F38, ↓yaa, ↓yab, ↓yac, ↓yad, ↓yae, ↓yaf, ↓yag, ↓yah, ↓yai, ↓yaj, ↓yak, ↓yal, ↓yam, ↓yan, ↓yao, ↓yap, ↓yaq, ↓yar, ↓yas, ↓yat, ↓yau, ↓yav, ↓yaw, ↓yax, yay, yaz, yba, ybb, ybc, ybd, ybe, ybf, ybg, ybh, ybi, ybj, ybk, ybl, ybm, ybn, ybo, ybp, ybq, ybr, ybs, ybt, ybu, ybv, ares, tup, ybw, ybx, yby, argsE, dval, aop, ev, evs, evo, evp, fillL, addrOf, intOf?, ybz, yca, ycb, ycc, ycd, yce, ycf, zah, zag, reduceIte, Nat.reduceEqDiff, ycg, ych, yci, ycj, yck, ycl, ycm, ycn, yco, ycp, ycq, ycr, zap, zao, reduceCtorEq, zbb, zbc, zba, zaz, Nat.reduceAdd, Nat.reduceMul, zaq, zar, eqPtr, zae, zaf, zab, zaa, zac, zad , hload, hstore, zal, zam, Nat.reduceAdd, Nat.reduceLeDiff, zbb, zas, zat, one, zau, zaw, zav, splice, zaj, zak, zab, zaa, ycs, yct, ycu, ycv, ycw, ycx, ycy, ycz, zan, zai, zax, zay, and_self, true_and, and_true, lenV, yda, Nat.le_refl, if_true , hp, c1]
    refine hk H o ?_ (Frm.refl _ _) (fun q hq => .inl hq)
    simpa [WS.text, h1] using h

end Go.Proofs.Ytejcabdejoameaa.AI

