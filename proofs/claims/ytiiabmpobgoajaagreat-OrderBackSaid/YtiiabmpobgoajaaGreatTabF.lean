/- Printed by a program: the functions of the seat's program, and the orders of their regions. -/
import Derived.Test.YtiiabmpobgoajaaGreatTabT
set_option linter.all false
namespace Go.Proofs.YtiiabmpobgoajaaGreat.Tab
open Go Go.Ev
noncomputable def g2 : FI := ⟨Tryz.f2, []⟩
noncomputable def g3 : FI := ⟨Tryz.f3, []⟩
noncomputable def g4 : FI := ⟨Tryz.f4, []⟩
noncomputable def g5 : FI := ⟨Tryz.f5, [(15, [(2, .read 0 0), (3, .read 0 0), (4, .read 0 0), (5, .read 0 0), (6, .read 0 0), (7, .alloc), (0, .read 0 0), (1, .read 0 0), (8, .eff), (9, .read 1 1), (10, .eff)]), (28, [(0, .read 0 0), (1, .read 0 0), (2, .read 0 0), (3, .read 0 0), (4, .read 0 0), (5, .read 0 0), (6, .read 0 0), (7, .read 0 0), (8, .read 0 0)]), (33, [(0, .read 0 0), (1, .read 0 0), (2, .read 0 0), (3, .read 0 0), (4, .read 0 0), (5, .read 0 0), (6, .read 0 0), (7, .read 0 0), (8, .read 0 0), (9, .read 0 0), (10, .read 0 0), (11, .read 0 0)]), (36, [(0, .read 0 0), (1, .read 0 0), (2, .read 0 0), (3, .read 0 0), (4, .read 0 0), (5, .read 0 0), (6, .eff), (7, .eff), (8, .read 1 2), (9, .read 1 2), (10, .read 1 2), (11, .eff), (12, .read 0 3), (13, .eff), (14, .eff), (15, .read 4 5), (16, .read 4 5), (17, .read 4 5), (18, .eff), (19, .read 6 6), (20, .read 6 6), (21, .read 6 6)])]⟩
noncomputable def g6 : FI := ⟨Tryz.f6, [(21, [(0, .read 0 0), (1, .read 0 0), (2, .read 0 0), (3, .read 0 0), (4, .read 0 0), (5, .read 0 0), (6, .read 0 0), (7, .read 0 0), (8, .read 0 0), (9, .read 0 0), (10, .read 0 0), (11, .read 0 0), (12, .read 0 0), (13, .read 0 0), (14, .read 0 0), (15, .read 0 0), (16, .read 0 0), (17, .read 0 0), (18, .read 0 0), (19, .read 0 0), (20, .read 0 0), (21, .read 0 0), (22, .read 0 0), (23, .read 0 0), (24, .read 0 0), (25, .read 0 0)]), (23, [(0, .read 0 0), (1, .read 0 0), (2, .read 0 0), (3, .read 0 0), (4, .read 0 0), (5, .read 0 0), (6, .read 0 0), (7, .read 0 0), (8, .read 0 0), (9, .read 0 0), (10, .read 0 0), (11, .read 0 0), (12, .read 0 0), (13, .read 0 0), (14, .read 0 0), (15, .read 0 0), (16, .read 0 0), (17, .read 0 0), (18, .read 0 0), (19, .read 0 0), (20, .read 0 0), (21, .read 0 0), (22, .read 0 0), (23, .read 0 0), (24, .read 0 0), (25, .read 0 0), (26, .read 0 0), (27, .read 0 0), (28, .read 0 0), (29, .read 0 0), (30, .read 0 0), (31, .read 0 0), (32, .read 0 0), (33, .read 0 0), (34, .read 0 0), (35, .read 0 0), (36, .read 0 0), (37, .read 0 0), (38, .read 0 0), (39, .read 0 0), (40, .read 0 0), (41, .read 0 0), (42, .read 0 0), (43, .read 0 0), (44, .read 0 0), (45, .read 0 0), (46, .read 0 0), (47, .read 0 0), (48, .read 0 0), (49, .read 0 0), (50, .read 0 0), (51, .read 0 0), (52, .read 0 0), (53, .read 0 0), (54, .read 0 0)])]⟩
noncomputable def g7 : FI := ⟨Tryz.f7, [(23, [(0, .read 0 1), (1, .read 0 0), (2, .read 0 0), (3, .read 0 0), (4, .read 0 0), (5, .read 0 0), (6, .read 0 0), (7, .read 0 0), (8, .read 0 0), (9, .eff), (10, .read 1 1), (11, .read 1 1), (12, .read 1 1), (13, .read 1 1), (14, .read 1 1), (15, .read 1 1), (16, .read 1 1), (17, .read 1 1)]), (38, [(0, .read 0 0), (1, .read 0 0), (2, .read 0 0), (3, .read 0 0), (4, .read 0 0), (5, .read 0 0), (6, .read 0 0), (7, .read 0 0), (8, .read 0 0), (9, .read 0 0), (10, .read 0 0), (11, .eff), (12, .read 1 1), (13, .read 1 1), (14, .read 1 1), (15, .read 1 1), (16, .read 1 1)]), (42, [(0, .read 0 0), (1, .read 0 0), (2, .read 0 0), (3, .read 0 0), (4, .read 0 0), (5, .read 0 0), (6, .read 0 0), (7, .read 0 0), (8, .read 0 0), (9, .read 0 0), (10, .read 0 0), (11, .read 0 0), (12, .read 0 0), (13, .read 0 0), (14, .read 0 0), (15, .read 0 0), (16, .read 0 0), (17, .read 0 0), (18, .read 0 0), (19, .read 0 0), (20, .read 0 0), (21, .read 0 0), (22, .read 0 0), (23, .read 0 0), (24, .read 0 0), (25, .read 0 0), (26, .read 0 0), (27, .read 0 0), (28, .read 0 0), (29, .read 0 0), (30, .read 0 0), (31, .read 0 0), (32, .read 0 0), (33, .eff), (34, .read 0 1), (35, .read 0 1), (36, .read 0 1), (37, .read 0 1), (38, .read 0 1), (39, .read 0 1), (40, .read 0 1), (41, .read 1 1), (42, .read 1 1), (43, .read 1 1), (44, .read 1 1), (45, .read 1 1), (46, .read 1 1), (47, .read 1 1), (48, .eff), (49, .read 1 2), (50, .read 1 2), (51, .read 1 2), (52, .read 1 2), (53, .read 1 2), (54, .read 1 2), (55, .read 1 2), (56, .read 2 2), (57, .read 2 2)]), (46, [(0, .read 0 0), (1, .read 0 0), (2, .read 0 0), (3, .read 0 0), (4, .read 0 0), (5, .read 0 0), (6, .eff), (7, .read 1 1), (8, .read 1 1), (9, .read 1 1), (10, .eff), (11, .read 1 2), (12, .read 2 2), (13, .read 2 2), (14, .read 2 2), (15, .read 2 2), (16, .read 2 2), (17, .read 2 2), (18, .read 2 2), (19, .eff), (20, .read 2 3), (21, .read 2 3), (22, .read 2 3), (23, .read 2 3), (24, .read 2 3), (25, .read 2 3), (26, .read 2 3), (27, .read 3 3), (28, .read 3 3)])]⟩
noncomputable def g8 : FI := ⟨Tryz.f8, []⟩
noncomputable def g9 : FI := ⟨Tryz.f9, [(11, [(0, .read 0 0), (1, .read 0 0), (2, .read 0 0), (3, .read 0 0), (4, .read 0 0), (5, .read 0 0), (6, .read 0 0), (7, .read 0 0), (8, .read 0 0), (9, .read 0 0), (10, .read 0 0), (11, .read 0 0), (12, .read 0 0), (13, .read 0 0), (14, .read 0 0), (15, .read 0 0), (16, .read 0 0), (17, .read 0 0)])]⟩
noncomputable def g10 : FI := ⟨Tryz.f10, [(11, [(0, .read 0 0), (1, .read 0 0), (2, .read 0 0), (3, .read 0 0), (4, .read 0 0), (5, .read 0 0), (6, .read 0 0), (7, .read 0 0), (8, .read 0 0), (9, .read 0 0), (10, .read 0 0), (11, .read 0 0), (12, .read 0 0), (13, .read 0 0), (14, .read 0 0), (15, .read 0 0), (16, .read 0 0), (17, .read 0 0)])]⟩
noncomputable def g11 : FI := ⟨Tryz.f11, [(11, [(0, .read 0 0), (1, .read 0 0), (2, .read 0 0), (3, .read 0 0), (4, .read 0 0), (5, .read 0 0), (6, .read 0 0), (7, .read 0 0), (8, .read 0 0), (9, .read 0 0), (10, .read 0 0), (11, .read 0 0), (12, .read 0 0), (13, .read 0 0), (14, .read 0 0), (15, .read 0 0), (16, .read 0 0), (17, .read 0 0)])]⟩
noncomputable def g12 : FI := ⟨Tryz.f12, [(18, [(0, .read 0 0), (1, .read 0 0), (2, .read 0 0), (3, .read 0 1), (4, .read 0 0), (5, .read 0 0), (6, .read 0 0), (7, .read 0 0), (8, .read 0 0), (9, .read 0 0), (10, .eff), (11, .read 0 1), (12, .eff), (13, .read 2 2), (14, .read 2 2)]), (32, [(0, .read 0 0), (1, .read 0 0), (2, .read 0 0), (3, .read 0 1), (4, .read 0 0), (5, .read 0 0), (6, .eff), (7, .read 0 1), (8, .eff), (9, .read 2 2), (10, .read 2 2)]), (37, [(0, .read 0 0), (1, .eff), (2, .read 1 1), (3, .read 0 1), (4, .read 1 1), (5, .read 1 1), (6, .read 1 1), (7, .read 1 1), (8, .read 1 1), (9, .read 1 1), (10, .read 1 1), (11, .read 1 1), (12, .read 1 1), (13, .read 1 1), (14, .eff), (15, .read 1 2), (16, .read 1 2), (17, .read 1 2), (18, .read 2 2), (19, .read 2 2), (20, .read 2 2), (21, .read 2 2), (22, .eff), (23, .read 2 3), (24, .read 2 3), (25, .read 3 3), (26, .read 3 3), (27, .read 3 3), (28, .read 3 3), (29, .eff), (30, .read 4 4), (31, .read 4 4), (32, .read 4 4), (33, .read 4 4), (34, .eff), (35, .eff), (36, .read 4 6), (37, .eff), (38, .read 7 7), (39, .read 7 7)]), (42, [(0, .read 0 0), (1, .read 0 0), (2, .read 0 0), (3, .read 0 0), (4, .read 0 0), (5, .read 0 0), (6, .read 0 0), (7, .read 0 0), (8, .read 0 0), (9, .read 0 0), (10, .read 0 0), (11, .read 0 0), (12, .read 0 0), (13, .read 0 0), (14, .read 0 0), (15, .eff), (16, .read 0 1), (17, .read 0 1), (18, .read 0 1), (19, .read 0 1), (20, .read 0 1), (21, .read 0 1), (22, .read 0 1), (23, .eff), (24, .read 2 2), (25, .read 2 2)]), (50, [(0, .read 0 0), (1, .read 0 0), (2, .read 0 0), (3, .read 0 0), (4, .read 0 0), (5, .read 0 0), (6, .read 0 0), (7, .read 0 0), (8, .read 0 0), (9, .read 0 0), (10, .read 0 0), (11, .read 0 0), (12, .read 0 0), (13, .read 0 0), (14, .read 0 0), (15, .eff), (16, .read 1 1), (17, .read 1 1), (18, .read 1 1), (19, .read 1 1), (20, .read 1 1), (21, .eff), (22, .eff), (23, .read 1 3), (24, .read 1 3), (25, .read 1 3), (26, .read 1 3), (27, .read 1 3), (28, .read 1 3), (29, .read 1 3), (30, .read 1 3), (31, .read 1 3), (32, .read 1 3), (33, .read 1 3), (34, .read 1 3), (35, .read 1 3), (36, .read 3 3), (37, .read 3 3)])]⟩
noncomputable def g13 : FI := ⟨Tryz.f13, [(14, [(0, .read 0 0), (1, .read 0 0), (2, .read 0 0), (3, .read 0 0), (4, .read 0 0), (5, .read 0 0), (6, .read 0 0), (7, .read 0 0), (8, .read 0 0), (9, .read 0 0), (10, .read 0 0), (11, .read 0 0), (12, .read 0 0), (13, .read 0 0), (14, .read 0 0), (15, .read 0 0), (16, .read 0 0), (17, .read 0 0), (18, .read 0 0)]), (16, [(0, .read 0 0), (1, .read 0 0), (2, .read 0 0), (3, .read 0 0), (4, .read 0 0), (5, .read 0 0), (6, .read 0 0), (7, .read 0 0), (8, .read 0 0), (9, .read 0 0), (10, .read 0 0), (11, .read 0 0), (12, .read 0 0), (13, .read 0 0), (14, .read 0 0), (15, .read 0 0), (16, .read 0 0), (17, .read 0 0)])]⟩
noncomputable def g14 : FI := ⟨Tryz.f14, [(25, [(0, .read 0 1), (1, .read 0 1), (2, .read 0 0), (3, .eff), (4, .read 1 1), (5, .eff)]), (35, [(0, .read 0 2), (1, .read 0 2), (2, .read 0 0), (3, .eff), (4, .read 0 1), (5, .eff), (6, .read 2 2), (7, .eff)])]⟩
noncomputable def g15 : FI := ⟨Tryz.f15, []⟩
noncomputable def g16 : FI := ⟨Tryz.f16, []⟩
noncomputable def g17 : FI := ⟨Tryz.f17, [(3, [(0, .read 0 2), (1, .read 0 2), (2, .read 0 2), (3, .read 0 0), (4, .read 0 0), (5, .eff), (6, .read 0 1), (7, .read 0 1), (8, .eff), (9, .read 0 2), (10, .read 0 2), (11, .read 0 2), (12, .read 2 2), (13, .eff), (14, .read 3 3)])]⟩
noncomputable def g18 : FI := ⟨Tryz.f18, []⟩
noncomputable def g19 : FI := ⟨Tryz.f19, [(3, [(0, .read 0 1), (1, .read 0 1), (2, .read 0 1), (3, .read 0 1), (4, .read 0 1), (5, .read 0 1), (6, .read 0 0), (7, .read 0 0), (8, .eff), (9, .read 1 1), (10, .eff), (11, .read 2 2)])]⟩
noncomputable def g20 : FI := ⟨Tryz.f20, [(3, [(0, .read 0 2), (1, .read 0 2), (2, .read 0 2), (3, .alloc), (13, .read 0 2), (14, .read 0 2), (15, .read 0 2), (16, .alloc), (4, .read 0 2), (5, .read 0 0), (6, .read 0 0), (7, .eff), (8, .read 1 2), (9, .read 0 1), (10, .read 0 1), (11, .eff), (12, .read 2 2), (17, .read 0 2), (18, .read 2 2), (19, .read 2 2), (20, .read 2 2)])]⟩
noncomputable def g21 : FI := ⟨Tryz.f21, [(6, [(0, .read 0 1), (1, .read 0 1), (2, .read 0 1), (3, .read 0 1), (4, .alloc), (5, .read 0 1), (6, .read 0 0), (7, .read 0 0), (8, .eff), (9, .read 1 1), (10, .read 1 1), (11, .read 1 1)])]⟩
noncomputable def g22 : FI := ⟨Tryz.f22, []⟩
noncomputable def g23 : FI := ⟨Tryz.f23, []⟩
noncomputable def g24 : FI := ⟨Tryz.f24, []⟩
noncomputable def g25 : FI := ⟨Tryz.f25, []⟩
noncomputable def g26 : FI := ⟨Tryz.f26, []⟩
noncomputable def g27 : FI := ⟨Tryz.f27, []⟩
noncomputable def g28 : FI := ⟨Tryz.f28, []⟩
noncomputable def g29 : FI := ⟨Tryz.f29, []⟩
noncomputable def g30 : FI := ⟨Tryz.f30, [(1, [(0, .eff), (1, .read 1 1), (2, .read 0 1), (3, .eff), (4, .read 2 2), (5, .read 2 2), (6, .read 2 2), (7, .eff)])]⟩
noncomputable def g31 : FI := ⟨Tryz.f31, []⟩
noncomputable def g32 : FI := ⟨Tryz.f32, [(1, [(6, .alloc), (0, .read 0 1), (1, .read 0 1), (2, .read 0 0), (3, .read 0 0), (4, .eff), (5, .read 1 1), (7, .eff)]), (5, [(0, .read 0 2), (1, .read 0 2), (2, .read 0 0), (3, .eff), (4, .eff), (5, .eff), (6, .read 3 3), (7, .eff)])]⟩
noncomputable def g33 : FI := ⟨Tryz.f33, []⟩
noncomputable def g34 : FI := ⟨Tryz.f34, []⟩
noncomputable def g35 : FI := ⟨Tryz.f35, [(1, [(0, .read 0 0), (1, .read 0 0), (2, .read 0 0), (3, .read 0 0), (4, .read 0 0), (5, .read 0 0), (6, .read 0 0), (7, .read 0 0), (8, .read 0 0), (9, .read 0 0), (10, .read 0 0), (11, .read 0 0), (12, .read 0 0), (13, .read 0 0), (14, .read 0 0)]), (3, [(16, .alloc), (0, .read 0 0), (1, .read 0 0), (2, .read 0 0), (3, .read 0 0), (4, .read 0 0), (5, .read 0 0), (6, .read 0 0), (7, .read 0 0), (8, .read 0 0), (9, .read 0 0), (10, .read 0 0), (11, .read 0 0), (12, .eff), (13, .read 1 1), (14, .read 1 1), (15, .read 1 2), (17, .eff), (18, .read 2 2)])]⟩
noncomputable def g36 : FI := ⟨Tryz.f36, []⟩
noncomputable def g37 : FI := ⟨Tryz.f37, [(1, [(0, .read 0 1), (1, .eff), (2, .read 1 1), (3, .read 0 1), (4, .read 0 1), (5, .read 0 1), (6, .read 0 1), (7, .eff)])]⟩
noncomputable def g38 : FI := ⟨Tryz.f38, [(4, [(0, .read 0 0), (1, .read 0 0), (2, .read 0 0), (3, .read 0 0), (4, .read 0 0), (5, .read 0 0), (6, .read 0 0), (7, .read 0 0), (8, .read 0 0), (9, .read 0 0)]), (6, [(5, .read 0 0), (6, .read 0 0), (7, .read 0 0), (8, .alloc), (0, .read 0 1), (1, .read 0 0), (2, .read 0 0), (3, .read 0 0), (4, .read 0 0), (9, .eff), (10, .read 1 1), (11, .read 1 1), (12, .eff)])]⟩
noncomputable def g39 : FI := ⟨Tryz.f39, []⟩
noncomputable def g40 : FI := ⟨Tryz.f40, [(3, [(0, .read 0 1), (1, .eff), (2, .read 1 1), (3, .eff), (4, .read 2 2)])]⟩
noncomputable def g41 : FI := ⟨Tryz.f41, [(3, [(0, .read 0 0), (1, .eff), (2, .read 0 1), (3, .eff), (4, .read 2 2)]), (6, [(0, .read 0 1), (1, .read 0 0), (2, .read 0 0), (3, .eff), (4, .read 1 1), (5, .eff), (6, .read 2 2), (7, .read 2 2)])]⟩
noncomputable def g42 : FI := ⟨Tryz.f42, []⟩
noncomputable def g43 : FI := ⟨Tryz.f43, [(5, [(0, .read 0 1), (1, .read 0 0), (2, .read 0 0), (3, .read 0 0), (4, .read 0 0), (5, .read 0 0), (6, .read 0 0), (7, .read 0 0), (8, .read 0 0), (9, .read 0 0), (10, .read 0 0), (11, .eff), (12, .read 1 1), (13, .read 1 1), (14, .eff)]), (7, [(0, .read 0 0), (1, .read 0 0), (2, .read 0 0), (3, .read 0 0), (4, .read 0 0), (5, .read 0 0), (6, .read 0 0), (7, .read 0 0), (8, .eff)])]⟩
noncomputable def g44 : FI := ⟨Tryz.f44, []⟩
noncomputable def g45 : FI := ⟨Tryz.f45, []⟩
noncomputable def g46 : FI := ⟨Tryz.f46, [(5, [(3, .read 0 1), (4, .read 0 1), (5, .alloc), (0, .read 0 3), (1, .read 0 0), (2, .eff), (6, .read 0 1), (7, .read 0 1), (8, .read 0 1), (9, .read 0 1), (10, .read 1 1), (11, .eff), (12, .eff), (13, .eff), (14, .read 4 4)])]⟩
noncomputable def g47 : FI := ⟨Tryz.f47, [(8, [(0, .read 0 0), (1, .read 0 0), (2, .read 0 0), (3, .read 0 0), (4, .read 0 0), (5, .read 0 0), (6, .read 0 0), (7, .read 0 0), (8, .read 0 0), (9, .read 0 0), (10, .read 0 0), (11, .read 0 0), (12, .read 0 0), (13, .read 0 0), (14, .read 0 0), (15, .read 0 0), (16, .eff), (17, .read 1 1), (18, .read 1 1), (19, .read 1 1), (20, .read 1 1), (21, .read 1 1)]), (11, [(0, .read 0 1), (1, .read 0 0), (2, .read 0 0), (3, .read 0 0), (4, .read 0 0), (5, .read 0 0), (6, .read 0 0), (7, .read 0 0), (8, .read 0 0), (9, .eff), (10, .read 1 1), (11, .read 1 1), (12, .read 1 1), (13, .read 1 1), (14, .read 1 1), (15, .read 1 1), (16, .read 1 1), (17, .read 1 1)]), (18, [(0, .read 0 1), (1, .read 0 0), (2, .read 0 0), (3, .read 0 0), (4, .read 0 0), (5, .read 0 0), (6, .read 0 0), (7, .read 0 0), (8, .read 0 0), (9, .read 0 0), (10, .read 0 0), (11, .read 0 0), (12, .read 0 0), (13, .read 0 0), (14, .read 0 0), (15, .read 0 0), (16, .read 0 0), (17, .read 0 0), (18, .read 0 0), (19, .read 0 0), (20, .read 0 0), (21, .read 0 0), (22, .eff), (23, .read 1 1)]), (29, [(0, .read 0 1), (1, .read 0 0), (2, .read 0 0), (3, .read 0 0), (4, .read 0 0), (5, .read 0 0), (6, .read 0 0), (7, .read 0 0), (8, .read 0 0), (9, .read 0 0), (10, .eff), (11, .read 1 1)]), (35, [(0, .read 0 1), (1, .read 0 0), (2, .read 0 0), (3, .read 0 0), (4, .read 0 0), (5, .read 0 0), (6, .read 0 0), (7, .read 0 0), (8, .read 0 0), (9, .read 0 0), (10, .eff), (11, .read 1 1), (12, .read 1 1), (13, .read 1 1), (14, .read 1 1), (15, .read 1 1), (16, .read 1 1), (17, .eff), (18, .read 1 2), (19, .read 1 2), (20, .read 1 2), (21, .read 1 2), (22, .read 1 2), (23, .read 1 2), (24, .read 1 2), (25, .read 2 2), (26, .read 2 2)])]⟩
noncomputable def g48 : FI := ⟨Tryz.f48, [(3, [(0, .read 0 0), (1, .read 0 0), (2, .read 0 0), (3, .read 0 0), (4, .read 0 0), (5, .read 0 0), (6, .read 0 0), (7, .read 0 0), (8, .read 0 0), (9, .read 0 0), (10, .read 0 0), (11, .read 0 0), (12, .read 0 0), (13, .read 0 0), (14, .read 0 0), (15, .read 0 0), (16, .read 0 0), (17, .read 0 0), (18, .read 0 0), (19, .read 0 0), (20, .read 0 0), (21, .read 0 0), (22, .read 0 0), (23, .read 0 0), (24, .read 0 0), (25, .read 0 0), (26, .read 0 0), (27, .read 0 0), (28, .read 0 0), (29, .eff), (30, .read 0 1), (31, .read 0 1), (32, .read 0 1), (33, .read 0 1), (34, .read 0 1), (35, .read 0 1), (36, .read 0 1), (37, .read 1 1), (38, .read 1 1)]), (8, [(0, .read 0 0), (1, .read 0 0), (2, .read 0 0), (3, .read 0 0), (4, .read 0 0), (5, .read 0 0), (6, .read 0 0), (7, .read 0 0), (8, .read 0 0), (9, .read 0 0), (10, .read 0 0), (11, .read 0 0), (12, .read 0 0), (13, .read 0 0), (14, .read 0 0), (15, .read 0 0), (16, .read 0 0), (17, .read 0 0), (18, .read 0 0), (19, .read 0 0), (20, .read 0 0), (21, .read 0 0), (22, .read 0 0), (23, .read 0 0), (24, .read 0 0), (25, .read 0 0), (26, .read 0 0), (27, .read 0 0), (28, .read 0 0), (29, .read 0 0), (30, .read 0 0), (31, .read 0 0), (32, .read 0 0), (33, .read 0 0), (34, .read 0 0), (35, .read 0 0), (36, .read 0 0), (37, .read 0 0)])]⟩
noncomputable def g49 : FI := ⟨Tryz.f49, [(8, [(0, .read 0 0), (1, .read 0 0), (2, .read 0 0), (3, .read 0 0), (4, .read 0 0), (5, .read 0 0), (6, .read 0 0), (7, .read 0 0), (8, .read 0 0), (9, .read 0 0), (10, .read 0 0), (11, .read 0 0), (12, .read 0 0), (13, .read 0 0), (14, .read 0 0), (15, .eff), (16, .read 0 1), (17, .read 0 1), (18, .read 0 1), (19, .read 0 1), (20, .read 0 1), (21, .eff), (22, .read 2 2), (23, .read 2 2)])]⟩
noncomputable def g50 : FI := ⟨Tryz.f50, [(16, [(0, .read 0 0), (1, .read 0 0), (2, .read 0 0), (3, .read 0 0), (4, .read 0 0), (5, .read 0 0), (6, .read 0 0), (7, .read 0 0), (8, .read 0 0), (9, .read 0 0), (10, .read 0 0), (11, .eff), (12, .read 0 1), (13, .read 0 1), (14, .read 0 1), (15, .read 0 1), (16, .read 1 1), (17, .read 1 1)])]⟩
noncomputable def g51 : FI := ⟨Tryz.f51, [(11, [(0, .read 0 0), (1, .read 0 0), (2, .eff), (3, .read 0 1), (4, .read 0 1), (5, .read 0 1), (6, .read 0 1), (7, .read 0 1), (8, .read 0 1), (9, .read 0 1), (10, .eff), (11, .read 2 2)])]⟩
noncomputable def g52 : FI := ⟨Tryz.f52, [(9, [(0, .read 0 6), (1, .read 0 0), (2, .read 0 0), (3, .eff), (4, .eff), (5, .read 0 2), (6, .read 0 2), (7, .eff), (8, .read 3 3), (9, .eff), (10, .read 0 4), (11, .read 0 4), (12, .read 0 4), (13, .read 0 4), (14, .read 4 4), (15, .eff), (16, .eff), (17, .eff), (18, .read 7 7)])]⟩
noncomputable def g53 : FI := ⟨Tryz.f53, [(7, [(0, .read 0 0), (1, .read 0 0), (2, .read 0 0), (3, .read 0 0), (4, .read 0 0), (5, .read 0 0), (6, .read 0 0), (7, .read 0 0), (8, .read 0 0), (9, .eff), (10, .read 1 1)]), (9, [(0, .read 0 0), (1, .read 0 0), (2, .read 0 0), (3, .read 0 0), (4, .read 0 0), (5, .read 0 0), (6, .read 0 0), (7, .read 0 0), (8, .read 0 0), (9, .eff), (10, .read 1 1)]), (15, [(0, .read 0 0), (1, .read 0 0), (2, .read 0 0), (3, .read 0 0), (4, .read 0 0), (5, .read 0 0), (6, .read 0 0), (7, .read 0 0), (8, .read 0 0), (9, .read 0 0), (10, .eff), (11, .read 0 1), (12, .read 0 1), (13, .read 0 1), (14, .read 0 1), (15, .read 0 1), (16, .read 0 1), (17, .read 0 1), (18, .read 0 1), (19, .read 0 1), (20, .read 0 1), (21, .read 0 1), (22, .read 0 1), (23, .read 0 1), (24, .read 0 1), (25, .read 0 1), (26, .read 1 1), (27, .read 1 1), (28, .read 1 1)])]⟩
noncomputable def g54 : FI := ⟨Tryz.f54, [(3, [(0, .read 0 0), (1, .read 0 0), (2, .read 0 0), (3, .read 0 0), (4, .read 0 0), (5, .read 0 0), (6, .read 0 0), (7, .read 0 0), (8, .read 0 0), (9, .read 0 0), (10, .read 0 0), (11, .read 0 0), (12, .read 0 0), (13, .read 0 0), (14, .read 0 0), (15, .read 0 0), (16, .read 0 0), (17, .read 0 0), (18, .read 0 0), (19, .read 0 0), (20, .read 0 0), (21, .read 0 0), (22, .read 0 0), (23, .read 0 0), (24, .read 0 0), (25, .read 0 0), (26, .read 0 0), (27, .read 0 0), (28, .read 0 0), (29, .eff), (30, .read 0 1), (31, .read 0 1), (32, .read 0 1), (33, .read 0 1), (34, .read 0 1), (35, .read 0 1), (36, .read 0 1), (37, .read 1 1), (38, .read 1 1), (39, .read 1 1), (40, .read 1 1), (41, .read 1 1), (42, .read 1 1), (43, .read 1 1), (44, .eff), (45, .read 1 2), (46, .read 1 2), (47, .read 1 2), (48, .read 1 2), (49, .read 1 2), (50, .read 1 2), (51, .read 1 2), (52, .read 2 2), (53, .read 2 2)]), (8, [(0, .read 0 0), (1, .read 0 0), (2, .read 0 0), (3, .read 0 0), (4, .read 0 0), (5, .read 0 0), (6, .read 0 0), (7, .read 0 0), (8, .read 0 0), (9, .read 0 0), (10, .read 0 0), (11, .read 0 0), (12, .read 0 0), (13, .read 0 0), (14, .read 0 0), (15, .read 0 0), (16, .read 0 0), (17, .read 0 0), (18, .read 0 0), (19, .read 0 0), (20, .read 0 0), (21, .read 0 0), (22, .read 0 0), (23, .read 0 0), (24, .read 0 0), (25, .read 0 0), (26, .read 0 0), (27, .read 0 0), (28, .read 0 0), (29, .read 0 0), (30, .read 0 0), (31, .read 0 0), (32, .read 0 0), (33, .read 0 0), (34, .read 0 0), (35, .read 0 0), (36, .read 0 0), (37, .read 0 0)])]⟩
noncomputable def g55 : FI := ⟨Tryz.f55, [(8, [(0, .read 0 0), (1, .read 0 0), (2, .read 0 0), (3, .read 0 0), (4, .read 0 0), (5, .read 0 0), (6, .read 0 0), (7, .read 0 0), (8, .read 0 0), (9, .read 0 0), (10, .read 0 0), (11, .read 0 0), (12, .read 0 0), (13, .read 0 0), (14, .read 0 0), (15, .eff), (16, .read 0 1), (17, .read 0 1), (18, .read 0 1), (19, .read 0 1), (20, .read 0 1), (21, .eff), (22, .read 2 2), (23, .read 2 2)])]⟩
noncomputable def g56 : FI := ⟨Tryz.f56, [(15, [(0, .read 0 0), (1, .read 0 0), (2, .read 0 0), (3, .read 0 0), (4, .eff), (5, .read 0 1), (6, .read 0 1), (7, .read 0 1), (8, .read 1 1), (9, .read 1 1)])]⟩
noncomputable def g57 : FI := ⟨Tryz.f57, [(11, [(0, .read 0 0), (1, .read 0 0), (2, .read 0 0), (3, .read 0 0), (4, .read 0 0), (5, .read 0 0), (6, .read 0 0), (7, .read 0 0), (8, .eff), (9, .read 1 1)])]⟩
noncomputable def g58 : FI := ⟨Tryz.f58, [(9, [(3, .read 0 1), (4, .read 0 1), (5, .alloc), (0, .read 0 3), (1, .read 0 0), (2, .eff), (6, .read 0 1), (7, .read 0 1), (8, .read 0 1), (9, .read 0 1), (10, .read 1 1), (11, .eff), (12, .eff), (13, .eff), (14, .read 4 4)])]⟩
noncomputable def g59 : FI := ⟨Tryz.f59, [(7, [(0, .read 0 0), (1, .read 0 0), (2, .read 0 0), (3, .read 0 0), (4, .read 0 0), (5, .read 0 0), (6, .read 0 0), (7, .read 0 0), (8, .read 0 0), (9, .eff), (10, .read 1 1)]), (9, [(0, .read 0 0), (1, .read 0 0), (2, .read 0 0), (3, .read 0 0), (4, .read 0 0), (5, .read 0 0), (6, .read 0 0), (7, .read 0 0), (8, .read 0 0), (9, .eff), (10, .read 1 1)]), (15, [(0, .read 0 0), (1, .read 0 0), (2, .read 0 0), (3, .read 0 0), (4, .read 0 0), (5, .read 0 0), (6, .read 0 0), (7, .read 0 0), (8, .read 0 0), (9, .read 0 0), (10, .eff), (11, .read 0 1), (12, .read 0 1), (13, .read 0 1), (14, .read 0 1), (15, .read 0 1), (16, .read 0 1), (17, .read 0 1), (18, .read 0 1), (19, .read 0 1), (20, .read 0 1), (21, .read 0 1), (22, .read 0 1), (23, .read 0 1), (24, .read 0 1), (25, .read 0 1), (26, .read 0 1), (27, .read 0 1), (28, .read 0 1), (29, .read 0 1), (30, .read 0 1), (31, .read 0 1), (32, .read 0 1), (33, .read 0 1), (34, .read 0 1), (35, .read 1 1), (36, .read 1 1), (37, .read 1 1)])]⟩
noncomputable def g60 : FI := ⟨Tryz.f60, [(3, [(0, .read 0 0), (1, .read 0 0), (2, .read 0 0), (3, .read 0 0), (4, .read 0 0), (5, .read 0 0), (6, .read 0 0), (7, .read 0 0), (8, .read 0 0), (9, .read 0 0), (10, .read 0 0), (11, .read 0 0), (12, .read 0 0), (13, .read 0 0), (14, .read 0 0), (15, .read 0 0), (16, .read 0 0), (17, .read 0 0), (18, .read 0 0), (19, .read 0 0), (20, .read 0 0), (21, .read 0 0), (22, .read 0 0), (23, .read 0 0), (24, .read 0 0), (25, .read 0 0), (26, .read 0 0), (27, .read 0 0), (28, .read 0 0), (29, .eff), (30, .read 0 1), (31, .read 0 1), (32, .read 0 1), (33, .read 0 1), (34, .read 0 1), (35, .read 0 1), (36, .read 0 1), (37, .read 1 1), (38, .read 1 1), (39, .read 1 1), (40, .read 1 1), (41, .read 1 1), (42, .read 1 1), (43, .read 1 1), (44, .eff), (45, .read 1 2), (46, .read 1 2), (47, .read 1 2), (48, .read 1 2), (49, .read 1 2), (50, .read 1 2), (51, .read 1 2), (52, .read 2 2), (53, .read 2 2)]), (8, [(0, .read 0 0), (1, .read 0 0), (2, .read 0 0), (3, .read 0 0), (4, .read 0 0), (5, .read 0 0), (6, .read 0 0), (7, .read 0 0), (8, .read 0 0), (9, .read 0 0), (10, .read 0 0), (11, .read 0 0), (12, .read 0 0), (13, .read 0 0), (14, .read 0 0), (15, .read 0 0), (16, .read 0 0), (17, .read 0 0), (18, .read 0 0), (19, .read 0 0), (20, .read 0 0), (21, .read 0 0), (22, .read 0 0), (23, .read 0 0), (24, .read 0 0), (25, .read 0 0), (26, .read 0 0), (27, .read 0 0), (28, .read 0 0), (29, .read 0 0), (30, .read 0 0), (31, .read 0 0), (32, .read 0 0), (33, .read 0 0), (34, .read 0 0), (35, .read 0 0), (36, .read 0 0), (37, .read 0 0)])]⟩
noncomputable def g61 : FI := ⟨Tryz.f61, [(8, [(0, .read 0 0), (1, .read 0 0), (2, .read 0 0), (3, .read 0 0), (4, .read 0 0), (5, .read 0 0), (6, .read 0 0), (7, .read 0 0), (8, .read 0 0), (9, .read 0 0), (10, .read 0 0), (11, .read 0 0), (12, .read 0 0), (13, .read 0 0), (14, .read 0 0), (15, .eff), (16, .read 0 1), (17, .read 0 1), (18, .read 0 1), (19, .read 0 1), (20, .read 0 1), (21, .eff), (22, .read 2 2), (23, .read 2 2)])]⟩
noncomputable def g62 : FI := ⟨Tryz.f62, [(16, [(0, .read 0 0), (1, .read 0 0), (2, .read 0 0), (3, .read 0 0), (4, .read 0 0), (5, .read 0 0), (6, .read 0 0), (7, .read 0 0), (8, .read 0 0), (9, .read 0 0), (10, .read 0 0), (11, .read 0 0), (12, .read 0 0), (13, .read 0 0), (14, .read 0 0), (15, .read 0 0), (16, .read 0 0), (17, .read 0 0), (18, .read 0 0), (19, .read 0 0), (20, .read 0 0), (21, .read 0 0), (22, .eff), (23, .read 0 1), (24, .read 0 1), (25, .read 0 1), (26, .read 0 1), (27, .read 1 1), (28, .read 1 1)])]⟩
noncomputable def g63 : FI := ⟨Tryz.f63, [(11, [(0, .read 0 0), (1, .read 0 0), (2, .read 0 0), (3, .read 0 0), (4, .read 0 0), (5, .read 0 0), (6, .read 0 0), (7, .read 0 0), (8, .eff), (9, .read 1 1)])]⟩
noncomputable def g64 : FI := ⟨Tryz.f64, [(9, [(3, .read 0 1), (4, .read 0 1), (5, .alloc), (0, .read 0 3), (1, .read 0 0), (2, .eff), (6, .read 0 1), (7, .read 0 1), (8, .read 0 1), (9, .read 0 1), (10, .read 1 1), (11, .eff), (12, .eff), (13, .eff), (14, .read 4 4)])]⟩
noncomputable def g65 : FI := ⟨Tryz.f65, [(7, [(0, .read 0 0), (1, .read 0 0), (2, .read 0 0), (3, .read 0 0), (4, .read 0 0), (5, .read 0 0), (6, .read 0 0), (7, .read 0 0), (8, .read 0 0), (9, .eff), (10, .read 1 1)]), (9, [(0, .read 0 0), (1, .read 0 0), (2, .read 0 0), (3, .read 0 0), (4, .read 0 0), (5, .read 0 0), (6, .read 0 0), (7, .read 0 0), (8, .read 0 0), (9, .eff), (10, .read 1 1)]), (15, [(0, .read 0 0), (1, .read 0 0), (2, .read 0 0), (3, .read 0 0), (4, .read 0 0), (5, .read 0 0), (6, .read 0 0), (7, .read 0 0), (8, .read 0 0), (9, .read 0 0), (10, .eff), (11, .read 0 1), (12, .read 0 1), (13, .read 0 1), (14, .read 0 1), (15, .read 0 1), (16, .read 0 1), (17, .read 0 1), (18, .read 0 1), (19, .read 0 1), (20, .read 0 1), (21, .read 0 1), (22, .read 0 1), (23, .read 0 1), (24, .read 0 1), (25, .read 0 1), (26, .read 1 1), (27, .read 1 1), (28, .read 1 1)])]⟩
noncomputable def g66 : FI := ⟨Tryz.f66, [(3, [(0, .read 0 0), (1, .read 0 0), (2, .read 0 0), (3, .read 0 0), (4, .read 0 0), (5, .read 0 0), (6, .read 0 0), (7, .read 0 0), (8, .read 0 0), (9, .read 0 0), (10, .read 0 0), (11, .read 0 0), (12, .read 0 0), (13, .read 0 0), (14, .read 0 0), (15, .read 0 0), (16, .read 0 0), (17, .read 0 0), (18, .read 0 0), (19, .read 0 0), (20, .read 0 0), (21, .read 0 0), (22, .read 0 0), (23, .read 0 0), (24, .read 0 0), (25, .read 0 0), (26, .read 0 0), (27, .read 0 0), (28, .read 0 0), (29, .eff), (30, .read 0 1), (31, .read 0 1), (32, .read 0 1), (33, .read 0 1), (34, .read 0 1), (35, .read 0 1), (36, .read 0 1), (37, .read 1 1), (38, .read 1 1), (39, .read 1 1), (40, .read 1 1), (41, .read 1 1), (42, .read 1 1), (43, .read 1 1), (44, .eff), (45, .read 1 2), (46, .read 1 2), (47, .read 1 2), (48, .read 1 2), (49, .read 1 2), (50, .read 1 2), (51, .read 1 2), (52, .read 2 2), (53, .read 2 2)]), (8, [(0, .read 0 0), (1, .read 0 0), (2, .read 0 0), (3, .read 0 0), (4, .read 0 0), (5, .read 0 0), (6, .read 0 0), (7, .read 0 0), (8, .read 0 0), (9, .read 0 0), (10, .read 0 0), (11, .read 0 0), (12, .read 0 0), (13, .read 0 0), (14, .read 0 0), (15, .read 0 0), (16, .read 0 0), (17, .read 0 0), (18, .read 0 0), (19, .read 0 0), (20, .read 0 0), (21, .read 0 0), (22, .read 0 0), (23, .read 0 0), (24, .read 0 0), (25, .read 0 0), (26, .read 0 0), (27, .read 0 0), (28, .read 0 0), (29, .read 0 0), (30, .read 0 0), (31, .read 0 0), (32, .read 0 0), (33, .read 0 0), (34, .read 0 0), (35, .read 0 0), (36, .read 0 0), (37, .read 0 0)])]⟩
noncomputable def g67 : FI := ⟨Tryz.f67, [(8, [(0, .read 0 0), (1, .read 0 0), (2, .read 0 0), (3, .read 0 0), (4, .read 0 0), (5, .read 0 0), (6, .read 0 0), (7, .read 0 0), (8, .read 0 0), (9, .read 0 0), (10, .read 0 0), (11, .read 0 0), (12, .read 0 0), (13, .read 0 0), (14, .read 0 0), (15, .eff), (16, .read 0 1), (17, .read 0 1), (18, .read 0 1), (19, .read 0 1), (20, .read 0 1), (21, .eff), (22, .read 2 2), (23, .read 2 2)])]⟩
noncomputable def g68 : FI := ⟨Tryz.f68, [(5, [(0, .read 0 0), (1, .read 0 0), (2, .eff)]), (10, [(0, .read 0 4), (1, .read 0 3), (2, .read 0 3), (3, .read 0 3), (4, .read 0 3), (5, .read 0 0), (6, .read 0 0), (7, .eff), (8, .read 0 1), (9, .read 1 1), (10, .eff), (11, .eff), (12, .eff), (13, .read 4 4), (14, .read 4 4), (15, .eff)])]⟩
noncomputable def g69 : FI := ⟨Tryz.f69, [(16, [(0, .read 0 0), (1, .read 0 0), (2, .read 0 0), (3, .read 0 0), (4, .read 0 0), (5, .read 0 0), (6, .read 0 0), (7, .read 0 0), (8, .eff), (9, .read 1 1)])]⟩
noncomputable def g70 : FI := ⟨Tryz.f70, [(2, [(0, .read 0 1), (1, .read 0 1), (2, .read 0 1), (3, .eff), (4, .eff)]), (6, [(5, .read 0 0), (6, .read 0 0), (7, .read 0 0), (8, .read 0 0), (9, .read 0 0), (10, .read 0 0), (11, .read 0 0), (12, .alloc), (13, .alloc), (0, .read 0 1), (1, .read 0 0), (2, .read 0 0), (3, .read 0 0), (4, .read 0 0), (14, .eff), (15, .read 1 1), (16, .read 1 1), (17, .eff)])]⟩
noncomputable def g71 : FI := ⟨Tryz.f71, []⟩
noncomputable def g72 : FI := ⟨Tryz.f72, []⟩
noncomputable def g73 : FI := ⟨Tryz.f73, [(7, [(0, .read 0 0), (1, .read 0 0), (2, .read 0 0), (3, .read 0 0), (4, .read 0 0), (5, .read 0 0), (6, .read 0 0), (7, .read 0 0), (8, .read 0 0), (9, .read 0 0), (10, .read 0 0), (11, .read 0 0), (12, .read 0 0), (13, .read 0 0), (14, .read 0 0), (15, .read 0 0), (16, .read 0 0)]), (10, [(5, .read 0 0), (6, .alloc), (0, .read 0 1), (1, .read 0 0), (2, .read 0 0), (3, .read 0 0), (4, .read 0 0), (7, .eff), (8, .read 1 1), (9, .read 1 1), (10, .eff)])]⟩
noncomputable def g74 : FI := ⟨Tryz.f74, []⟩
noncomputable def g75 : FI := ⟨Tryz.f75, []⟩
noncomputable def g76 : FI := ⟨Tryz.f76, []⟩
noncomputable def g77 : FI := ⟨Tryz.f77, []⟩
noncomputable def g78 : FI := ⟨Tryz.f78, [(8, [(0, .read 0 0), (1, .read 0 0), (2, .read 0 0), (3, .read 0 0), (4, .read 0 0), (5, .read 0 0), (6, .read 0 0), (7, .read 0 0), (8, .read 0 0), (9, .read 0 0), (10, .read 0 0), (11, .read 0 0), (12, .eff), (13, .read 1 1)])]⟩
noncomputable def g79 : FI := ⟨Tryz.f79, []⟩
noncomputable def g80 : FI := ⟨Tryz.f80, []⟩
noncomputable def g81 : FI := ⟨Tryz.f81, []⟩
noncomputable def g82 : FI := ⟨Tryz.f82, [(1, [(0, .read 0 0), (1, .eff), (2, .read 0 1), (3, .eff), (4, .read 2 2)])]⟩
noncomputable def g83 : FI := ⟨Tryz.f83, [(4, [(0, .read 0 0), (1, .read 0 0), (2, .read 0 0), (3, .read 0 0), (4, .read 0 0), (5, .read 0 0), (6, .read 0 0), (7, .read 0 0), (8, .read 0 0), (9, .read 0 0)])]⟩
noncomputable def g84 : FI := ⟨Tryz.f84, []⟩
noncomputable def g85 : FI := ⟨Tryz.f85, []⟩
noncomputable def g86 : FI := ⟨Tryz.f86, []⟩
noncomputable def g87 : FI := ⟨Tryz.f87, []⟩
noncomputable def g88 : FI := ⟨Tryz.f88, []⟩
noncomputable def g89 : FI := ⟨Tryz.f89, []⟩
noncomputable def g90 : FI := ⟨Tryz.f90, [(11, [(0, .read 0 0), (1, .read 0 0), (2, .read 0 0), (3, .read 0 0), (4, .read 0 0), (5, .read 0 0), (6, .read 0 0), (7, .read 0 0), (8, .read 0 0), (9, .read 0 0), (10, .read 0 0)]), (13, [(0, .read 0 0), (1, .read 0 0), (2, .read 0 0), (3, .read 0 0), (4, .read 0 0), (5, .read 0 0), (6, .read 0 0), (7, .read 0 0), (8, .read 0 0), (9, .read 0 0), (10, .read 0 0)])]⟩
noncomputable def g91 : FI := ⟨Tryz.f91, []⟩
noncomputable def g92 : FI := ⟨Tryz.f92, []⟩
noncomputable def g93 : FI := ⟨Tryz.f93, [(8, [(10, .alloc), (0, .read 0 1), (1, .read 0 1), (2, .read 0 1), (3, .read 0 1), (4, .read 0 0), (5, .eff), (6, .read 0 1), (7, .read 0 1), (8, .eff), (9, .read 2 2), (11, .eff)]), (10, [(0, .read 0 1), (1, .read 0 1), (2, .read 0 1), (3, .read 0 1), (4, .read 0 0), (5, .eff), (6, .read 0 1), (7, .read 0 1), (8, .eff), (9, .read 2 2), (10, .eff)])]⟩
noncomputable def g94 : FI := ⟨Tryz.f94, []⟩
noncomputable def g95 : FI := ⟨Tryz.f95, [(4, [(0, .read 0 2), (1, .read 0 1), (2, .read 0 1), (3, .read 0 1), (4, .read 0 1), (5, .eff), (6, .read 0 1), (7, .read 0 1), (8, .eff), (9, .read 0 2), (10, .read 0 2), (11, .read 0 2), (12, .read 0 2), (13, .read 0 2), (14, .read 0 2), (15, .read 2 2), (16, .read 2 2), (17, .read 2 2), (18, .read 2 2), (19, .eff)])]⟩
noncomputable def g96 : FI := ⟨Tryz.f96, []⟩
noncomputable def g97 : FI := ⟨Tryz.f97, [(1, [(0, .read 0 0), (1, .eff), (2, .read 0 1), (3, .read 0 1), (4, .read 0 1), (5, .read 0 1), (6, .eff)])]⟩
noncomputable def g98 : FI := ⟨Tryz.f98, []⟩
noncomputable def g99 : FI := ⟨Tryz.f99, []⟩
noncomputable def g100 : FI := ⟨Tryz.f100, []⟩
noncomputable def g101 : FI := ⟨Tryz.f101, []⟩
noncomputable def g102 : FI := ⟨Tryz.f102, []⟩
noncomputable def g103 : FI := ⟨Tryz.f103, []⟩
noncomputable def g104 : FI := ⟨Tryz.f104, []⟩
noncomputable def g105 : FI := ⟨Tryz.f105, [(1, [(0, .read 0 0), (1, .read 0 0), (2, .read 0 0), (3, .read 0 0), (4, .read 0 0), (5, .read 0 0), (6, .read 0 0), (7, .read 0 0), (8, .read 0 0), (9, .read 0 0), (10, .eff), (11, .read 1 1)])]⟩
noncomputable def g106 : FI := ⟨Tryz.f106, []⟩
noncomputable def g107 : FI := ⟨Tryz.f107, []⟩
noncomputable def g108 : FI := ⟨Tryz.f108, []⟩
noncomputable def g109 : FI := ⟨Tryz.f109, []⟩
noncomputable def g110 : FI := ⟨Tryz.f110, []⟩
noncomputable def g111 : FI := ⟨Tryz.f111, []⟩
noncomputable def g112 : FI := ⟨Tryz.f112, []⟩
noncomputable def g113 : FI := ⟨Tryz.f113, []⟩
noncomputable def g114 : FI := ⟨Tryz.f114, []⟩
noncomputable def g115 : FI := ⟨Tryz.f115, []⟩
noncomputable def g116 : FI := ⟨Tryz.f116, []⟩
noncomputable def g117 : FI := ⟨Tryz.f117, []⟩
noncomputable def g118 : FI := ⟨Tryz.f118, []⟩
noncomputable def g119 : FI := ⟨Tryz.f119, [(1, [(0, .read 0 0), (1, .read 0 0), (2, .read 0 0), (3, .read 0 0), (4, .read 0 0), (5, .read 0 0), (6, .read 0 0), (7, .read 0 0), (8, .read 0 0), (9, .read 0 0), (10, .read 0 0), (11, .read 0 0), (12, .read 0 0), (13, .read 0 0), (14, .read 0 0), (15, .read 0 0), (16, .read 0 0), (17, .read 0 0)])]⟩
noncomputable def g120 : FI := ⟨Tryz.f120, []⟩
noncomputable def g121 : FI := ⟨Tryz.f121, [(13, [(0, .read 0 0), (1, .read 0 0), (2, .read 0 0), (3, .read 0 0), (4, .read 0 0), (5, .read 0 0), (6, .read 0 0), (7, .read 0 0), (8, .read 0 0), (9, .read 0 0), (10, .read 0 0), (11, .eff)]), (16, [(0, .read 0 0), (1, .read 0 0), (2, .read 0 0), (3, .read 0 0), (4, .read 0 0), (5, .read 0 0), (6, .read 0 0), (7, .read 0 0), (8, .read 0 0), (9, .read 0 0), (10, .read 0 0), (11, .read 0 0), (12, .read 0 0), (13, .read 0 0), (14, .read 0 0), (15, .read 0 0), (16, .read 0 0), (17, .read 0 0), (18, .eff)]), (18, [(0, .read 0 0), (1, .read 0 0), (2, .read 0 0), (3, .read 0 0), (4, .read 0 0), (5, .read 0 0), (6, .read 0 0), (7, .read 0 0), (8, .read 0 0), (9, .read 0 0), (10, .read 0 0), (11, .eff)])]⟩
noncomputable def g122 : FI := ⟨Tryz.f122, []⟩
noncomputable def g123 : FI := ⟨Tryz.f123, []⟩
noncomputable def g124 : FI := ⟨Tryz.f124, []⟩
noncomputable def g125 : FI := ⟨Tryz.f125, [(6, [(0, .read 0 1), (1, .eff), (2, .read 1 1), (3, .read 0 1), (4, .read 0 1), (5, .read 0 1), (6, .read 0 1), (7, .read 0 1), (8, .read 0 1), (9, .read 0 1), (10, .read 0 1), (11, .eff)]), (13, [(0, .read 0 2), (1, .read 0 1), (2, .read 0 0), (3, .eff), (4, .read 0 1), (5, .read 0 1), (6, .read 0 1), (7, .eff), (8, .read 2 2), (9, .read 2 2), (10, .eff)]), (16, [(0, .read 0 2), (1, .read 0 1), (2, .read 0 0), (3, .eff), (4, .read 0 1), (5, .read 0 1), (6, .read 0 1), (7, .eff), (8, .read 2 2), (9, .read 2 2), (10, .eff)])]⟩
noncomputable def g126 : FI := ⟨Tryz.f126, [(3, [(0, .read 0 0), (1, .read 0 0), (2, .read 0 0), (3, .read 0 0), (4, .read 0 1), (5, .read 0 1), (6, .read 0 1), (7, .read 0 1), (8, .read 0 1), (9, .read 0 1), (10, .eff), (11, .read 1 1)])]⟩
noncomputable def g127 : FI := ⟨Tryz.f127, []⟩
noncomputable def g128 : FI := ⟨Tryz.f128, [(4, [(0, .read 0 3), (1, .read 0 1), (2, .eff), (3, .read 1 1), (4, .read 0 1), (5, .read 0 1), (6, .read 0 1), (7, .eff), (8, .read 2 2), (9, .eff), (10, .read 3 3), (11, .read 3 3), (12, .read 3 4), (13, .read 3 3), (14, .read 3 3), (15, .eff)]), (7, [(0, .read 0 1), (1, .read 0 0), (2, .read 0 0), (3, .read 0 0), (4, .read 0 0), (5, .read 0 0), (6, .eff), (7, .read 0 1), (8, .read 0 1), (9, .read 0 1), (10, .read 0 1), (11, .read 0 1), (12, .read 1 1), (13, .read 0 1), (14, .read 0 1), (15, .read 0 1), (16, .read 0 1), (17, .read 0 1), (18, .read 0 1), (19, .read 0 1), (20, .read 0 1), (21, .read 0 1), (22, .eff)]), (8, [(5, .read 0 1), (6, .read 0 1), (7, .read 0 1), (8, .read 0 1), (9, .read 0 1), (10, .read 0 1), (11, .read 0 1), (12, .read 0 1), (13, .read 0 1), (14, .read 0 1), (15, .read 0 1), (16, .read 0 1), (17, .read 0 1), (18, .read 0 1), (19, .read 0 1), (20, .alloc), (0, .read 0 0), (1, .read 0 0), (2, .read 0 0), (3, .read 0 0), (4, .eff), (21, .eff)])]⟩
noncomputable def g129 : FI := ⟨Tryz.f129, []⟩
noncomputable def g130 : FI := ⟨Tryz.f130, []⟩
noncomputable def g131 : FI := ⟨Tryz.f131, [(1, [(0, .read 0 0), (1, .read 0 0), (2, .read 0 0), (3, .read 0 0), (4, .read 0 0), (5, .read 0 0), (6, .read 0 0), (7, .read 0 0), (8, .read 0 0), (9, .read 0 0)]), (2, [(10, .alloc), (0, .read 0 0), (1, .read 0 0), (2, .read 0 0), (3, .read 0 0), (4, .read 0 0), (5, .read 0 0), (6, .read 0 0), (7, .read 0 0), (8, .read 0 0), (9, .read 0 0), (11, .eff)]), (17, [(0, .read 0 1), (1, .read 0 0), (2, .read 0 0), (3, .read 0 0), (4, .read 0 0), (5, .read 0 0), (6, .eff), (7, .read 1 1), (8, .read 1 1), (9, .eff)])]⟩
noncomputable def g132 : FI := ⟨Tryz.f132, []⟩
noncomputable def g133 : FI := ⟨Tryz.f133, [(4, [(0, .read 0 0), (1, .read 0 0), (2, .read 0 0), (3, .read 0 0), (4, .read 0 0), (5, .read 0 0), (6, .read 0 0), (7, .read 0 0), (8, .read 0 0), (9, .read 0 0), (10, .read 0 0), (11, .read 0 0), (12, .read 0 0)]), (7, [(0, .read 0 0), (1, .read 0 0), (2, .read 0 0), (3, .read 0 0), (4, .read 0 0), (5, .read 0 0), (6, .read 0 0), (7, .read 0 0), (8, .read 0 0), (9, .read 0 0)])]⟩
noncomputable def g134 : FI := ⟨Tryz.f134, [(4, [(0, .read 0 1), (1, .eff), (2, .read 0 1), (3, .read 0 1), (4, .read 0 1), (5, .read 0 1), (6, .read 0 1), (7, .read 0 1), (8, .read 0 1), (9, .read 0 1), (10, .read 0 1), (11, .read 0 1), (12, .read 0 1), (13, .eff)]), (18, [(0, .read 0 0), (1, .read 0 0), (2, .read 0 0), (3, .read 0 0), (4, .eff), (5, .read 0 1), (6, .read 0 1), (7, .read 0 1), (8, .read 0 1), (9, .read 0 1), (10, .read 1 1)]), (31, [(0, .read 0 3), (1, .eff), (2, .read 0 3), (3, .read 0 3), (4, .read 0 3), (5, .read 0 3), (6, .read 0 2), (7, .read 0 2), (8, .read 0 2), (9, .read 0 2), (10, .read 0 1), (11, .read 0 1), (12, .read 0 1), (13, .read 0 1), (14, .eff), (15, .eff), (16, .eff), (17, .read 4 4)])]⟩
noncomputable def g135 : FI := ⟨Tryz.f135, [(9, [(0, .read 0 0), (1, .read 0 0), (2, .read 0 0), (3, .read 0 0), (4, .read 0 0), (5, .read 0 0), (6, .read 0 0), (7, .read 0 0), (8, .read 0 0), (9, .eff)])]⟩
noncomputable def g136 : FI := ⟨Tryz.f136, [(9, [(0, .read 0 2), (1, .read 0 1), (2, .eff), (3, .read 1 1), (4, .read 0 1), (5, .read 0 1), (6, .read 0 1), (7, .eff), (8, .read 2 2), (9, .read 2 2), (10, .eff)]), (10, [(0, .read 0 0), (1, .read 0 0), (2, .read 0 0), (3, .read 0 0), (4, .read 0 0), (5, .eff), (6, .read 0 1), (7, .read 0 1), (8, .read 0 1), (9, .read 0 1), (10, .eff), (11, .read 2 2), (12, .read 2 2)]), (14, [(0, .read 0 3), (1, .read 0 0), (2, .read 0 0), (3, .eff), (4, .read 0 3), (5, .read 0 3), (6, .read 1 3), (7, .read 0 1), (8, .read 0 1), (9, .read 0 1), (10, .read 0 1), (11, .read 0 1), (12, .eff), (13, .eff), (14, .read 0 3), (15, .read 0 3), (16, .read 0 3), (17, .read 0 3), (18, .read 0 3), (19, .read 3 3), (20, .read 0 3), (21, .read 0 3), (22, .read 0 3), (23, .eff)])]⟩
noncomputable def g137 : FI := ⟨Tryz.f137, [(7, [(0, .read 0 0), (1, .read 0 0), (2, .read 0 0), (3, .read 0 0), (4, .eff), (5, .read 0 1), (6, .read 0 1), (7, .read 0 1), (8, .read 0 1), (9, .read 0 1), (10, .read 1 1)]), (12, [(0, .read 0 3), (1, .read 0 0), (2, .read 0 0), (3, .read 0 0), (4, .read 0 0), (5, .read 0 0), (6, .read 0 0), (7, .read 0 0), (8, .read 0 0), (9, .eff), (10, .read 0 1), (11, .read 0 1), (12, .read 0 1), (13, .read 0 1), (14, .eff), (15, .read 2 2), (16, .eff), (17, .eff)]), (15, [(0, .read 0 2), (1, .eff), (2, .read 0 2), (3, .read 0 2), (4, .read 0 2), (5, .read 0 2), (6, .read 0 1), (7, .read 0 1), (8, .read 0 1), (9, .read 0 1), (10, .read 0 1), (11, .read 0 1), (12, .read 0 1), (13, .read 0 1), (14, .read 0 1), (15, .read 0 1), (16, .read 0 1), (17, .read 0 1), (18, .eff), (19, .eff), (20, .read 3 3)])]⟩
noncomputable def g138 : FI := ⟨Tryz.f138, []⟩
noncomputable def g139 : FI := ⟨Tryz.f139, []⟩
noncomputable def g140 : FI := ⟨Tryz.f140, []⟩
noncomputable def g141 : FI := ⟨Tryz.f141, []⟩
noncomputable def g142 : FI := ⟨Tryz.f142, [(1, [(0, .read 0 0), (1, .read 0 0), (2, .read 0 0), (3, .read 0 0), (4, .eff), (5, .read 1 1), (6, .read 1 1), (7, .read 1 1), (8, .read 1 1), (9, .read 1 1), (10, .eff), (11, .read 1 2), (12, .eff), (13, .read 3 3), (14, .read 3 3), (15, .read 3 3), (16, .read 3 3), (17, .read 3 3), (18, .read 3 3), (19, .read 3 3)])]⟩
noncomputable def g143 : FI := ⟨Tryz.f143, []⟩
noncomputable def g144 : FI := ⟨Tryz.f144, []⟩
noncomputable def g145 : FI := ⟨Tryz.f145, [(1, [(0, .read 0 0), (1, .read 0 0), (2, .read 0 0), (3, .read 0 0), (4, .read 0 0), (5, .read 0 0), (6, .read 0 0), (7, .read 0 0), (8, .read 0 0), (9, .read 0 0)]), (3, [(10, .alloc), (0, .read 0 0), (1, .read 0 0), (2, .read 0 0), (3, .read 0 0), (4, .read 0 0), (5, .read 0 0), (6, .read 0 0), (7, .read 0 0), (8, .read 0 0), (9, .read 0 0), (11, .eff)]), (11, [(0, .read 0 1), (1, .read 0 0), (2, .read 0 0), (3, .read 0 0), (4, .read 0 0), (5, .read 0 0), (6, .eff), (7, .read 1 1), (8, .read 1 1), (9, .eff)])]⟩
noncomputable def g146 : FI := ⟨Tryz.f146, [(9, [(0, .read 0 1), (1, .read 0 0), (2, .read 0 0), (3, .read 0 0), (4, .read 0 0), (5, .read 0 0), (6, .read 0 0), (7, .read 0 0), (8, .read 0 0), (9, .read 0 0), (10, .read 0 0), (11, .eff), (12, .eff), (13, .read 2 2)])]⟩
noncomputable def g147 : FI := ⟨Tryz.f147, []⟩
noncomputable def g148 : FI := ⟨Tryz.f148, []⟩
noncomputable def g149 : FI := ⟨Tryz.f149, [(1, [(0, .read 0 0), (1, .read 0 0), (2, .read 0 0), (3, .read 0 0), (4, .eff), (5, .read 1 1), (6, .read 1 1), (7, .read 1 1), (8, .read 1 1), (9, .read 1 1), (10, .eff), (11, .read 1 2), (12, .eff), (13, .read 3 3), (14, .read 3 3), (15, .read 3 3), (16, .read 3 3), (17, .read 3 3), (18, .read 3 3), (19, .read 3 3)]), (3, [(0, .read 0 2), (1, .read 0 2), (2, .read 0 0), (3, .eff), (4, .read 0 1), (5, .read 0 1), (6, .eff), (7, .read 2 2), (8, .eff), (9, .read 3 3)])]⟩
noncomputable def g150 : FI := ⟨Tryz.f150, []⟩
noncomputable def g151 : FI := ⟨Tryz.f151, []⟩
noncomputable def g152 : FI := ⟨Tryz.f152, [(1, [(0, .read 0 0), (1, .read 0 0), (2, .read 0 0), (3, .read 0 0), (4, .read 0 0), (5, .read 0 0), (6, .read 0 0), (7, .read 0 0), (8, .read 0 0), (9, .read 0 0)]), (3, [(10, .alloc), (0, .read 0 0), (1, .read 0 0), (2, .read 0 0), (3, .read 0 0), (4, .read 0 0), (5, .read 0 0), (6, .read 0 0), (7, .read 0 0), (8, .read 0 0), (9, .read 0 0), (11, .eff)]), (11, [(0, .read 0 1), (1, .read 0 0), (2, .read 0 0), (3, .read 0 0), (4, .read 0 0), (5, .read 0 0), (6, .eff), (7, .read 1 1), (8, .read 1 1), (9, .eff)])]⟩
noncomputable def g153 : FI := ⟨Tryz.f153, [(2, [(0, .read 0 1), (1, .read 0 1), (2, .read 0 1), (3, .read 0 0), (4, .read 0 0), (5, .eff), (6, .eff)]), (10, [(0, .read 0 2), (1, .read 0 2), (2, .read 0 2), (3, .read 0 0), (4, .read 0 0), (5, .read 0 0), (6, .read 0 0), (7, .read 0 0), (8, .read 0 0), (9, .read 0 0), (10, .read 0 0), (11, .read 0 0), (12, .read 0 0), (13, .read 0 0), (14, .read 0 0), (15, .eff), (16, .read 0 1), (17, .read 0 1), (18, .eff), (19, .eff), (20, .read 3 3)]), (14, [(0, .read 0 1), (1, .read 0 1), (2, .read 0 1), (3, .read 0 0), (4, .read 0 0), (5, .eff), (6, .eff), (7, .read 2 2)]), (18, [(0, .read 0 3), (1, .read 0 0), (2, .read 0 0), (3, .read 0 0), (4, .read 0 0), (5, .eff), (6, .read 0 2), (7, .read 0 1), (8, .read 0 1), (9, .read 0 1), (10, .read 0 1), (11, .eff), (12, .eff), (13, .eff)]), (19, [(0, .read 0 2), (1, .read 0 1), (2, .read 0 0), (3, .read 0 0), (4, .eff), (5, .read 0 1), (6, .read 0 1), (7, .read 0 1), (8, .read 0 1), (9, .read 0 1), (10, .read 0 1), (11, .read 0 1), (12, .read 0 1), (13, .read 0 1), (14, .read 0 1), (15, .read 1 1), (16, .eff), (17, .read 2 2), (18, .read 2 2), (19, .read 2 2), (20, .eff)]), (24, [(0, .read 0 1), (1, .read 0 1), (2, .read 0 1), (3, .read 0 0), (4, .read 0 0), (5, .eff), (6, .eff), (7, .read 2 2)])]⟩
noncomputable def g154 : FI := ⟨Tryz.f154, []⟩
noncomputable def g155 : FI := ⟨Tryz.f155, [(1, [(0, .read 0 0), (1, .read 0 0), (2, .read 0 0), (3, .read 0 0), (4, .eff), (5, .read 1 1), (6, .read 1 1), (7, .read 1 1), (8, .read 1 1), (9, .read 1 1), (10, .eff), (11, .read 1 2), (12, .eff), (13, .read 3 3), (14, .read 3 3), (15, .read 3 3), (16, .read 3 3), (17, .read 3 3), (18, .read 3 3), (19, .read 3 3)])]⟩
noncomputable def g156 : FI := ⟨Tryz.f156, []⟩
noncomputable def g157 : FI := ⟨Tryz.f157, []⟩
noncomputable def g158 : FI := ⟨Tryz.f158, [(1, [(0, .read 0 0), (1, .read 0 0), (2, .read 0 0), (3, .read 0 0), (4, .read 0 0), (5, .read 0 0), (6, .read 0 0), (7, .read 0 0), (8, .read 0 0), (9, .read 0 0)]), (3, [(10, .alloc), (0, .read 0 0), (1, .read 0 0), (2, .read 0 0), (3, .read 0 0), (4, .read 0 0), (5, .read 0 0), (6, .read 0 0), (7, .read 0 0), (8, .read 0 0), (9, .read 0 0), (11, .eff)]), (11, [(0, .read 0 1), (1, .read 0 0), (2, .read 0 0), (3, .read 0 0), (4, .read 0 0), (5, .read 0 0), (6, .eff), (7, .read 1 1), (8, .read 1 1), (9, .eff)])]⟩
noncomputable def g159 : FI := ⟨Tryz.f159, [(11, [(0, .read 0 1), (1, .read 0 0), (2, .read 0 0), (3, .read 0 0), (4, .read 0 0), (5, .read 0 0), (6, .read 0 0), (7, .read 0 0), (8, .read 0 0), (9, .read 0 0), (10, .read 0 0), (11, .eff), (12, .eff), (13, .read 2 2)])]⟩
noncomputable def g160 : FI := ⟨Tryz.f160, []⟩
noncomputable def g161 : FI := ⟨Tryz.f161, []⟩
noncomputable def g162 : FI := ⟨Tryz.f162, [(0, [(0, .read 0 0), (1, .read 0 1), (2, .read 0 0), (3, .read 0 0), (4, .read 0 0), (5, .read 0 0), (6, .read 0 0), (7, .read 0 0), (8, .read 0 0), (9, .read 0 0), (10, .read 0 0), (11, .read 0 0), (12, .read 0 0), (13, .read 0 0), (14, .read 0 0), (15, .read 0 0), (16, .read 0 0), (17, .read 0 0), (18, .eff), (19, .read 1 1), (20, .read 1 1), (21, .eff)]), (2, [(0, .read 0 1), (1, .read 0 0), (2, .read 0 0), (3, .read 0 0), (4, .read 0 0), (5, .read 0 0), (6, .read 0 0), (7, .read 0 0), (8, .read 0 0), (9, .eff), (10, .read 1 1), (11, .read 1 1), (12, .read 1 2), (13, .read 1 1), (14, .read 1 1), (15, .eff)])]⟩
noncomputable def g163 : FI := ⟨Tryz.f163, []⟩
noncomputable def g164 : FI := ⟨Tryz.f164, []⟩
noncomputable def g165 : FI := ⟨Tryz.f165, []⟩
noncomputable def g166 : FI := ⟨Tryz.f166, [(1, [(0, .read 0 0), (1, .read 0 0), (2, .read 0 0), (3, .read 0 0), (4, .eff), (5, .read 0 1), (6, .read 0 1), (7, .read 0 1), (8, .read 0 1), (9, .eff), (10, .read 0 2), (11, .read 0 2), (12, .read 0 2), (13, .read 0 2), (14, .eff), (15, .eff), (16, .eff), (17, .read 5 5)])]⟩
noncomputable def g167 : FI := ⟨Tryz.f167, []⟩
noncomputable def g168 : FI := ⟨Tryz.f168, []⟩
noncomputable def g169 : FI := ⟨Tryz.f169, [(3, [(0, .read 0 0), (1, .read 0 0), (2, .read 0 0), (3, .read 0 0), (4, .read 0 0), (5, .read 0 0), (6, .read 0 0)])]⟩
noncomputable def g170 : FI := ⟨Tryz.f170, [(3, [(0, .read 0 0), (1, .read 0 1), (2, .eff), (3, .eff)]), (4, [(0, .read 0 0), (1, .read 0 0), (2, .read 0 0), (3, .read 0 0), (4, .read 0 1), (5, .eff), (6, .eff)])]⟩
noncomputable def g171 : FI := ⟨Tryz.f171, []⟩
noncomputable def g172 : FI := ⟨Tryz.f172, [(3, [(0, .read 0 0), (1, .read 0 0), (2, .eff)]), (4, [(0, .read 0 0), (1, .read 0 0), (2, .read 0 0), (3, .read 0 0), (4, .read 0 0), (5, .read 0 0), (6, .eff)])]⟩
noncomputable def g173 : FI := ⟨Tryz.f173, []⟩
noncomputable def g174 : FI := ⟨Tryz.f174, []⟩
noncomputable def g175 : FI := ⟨Tryz.f175, [(6, [(0, .read 0 0), (1, .read 0 0), (2, .read 0 0), (3, .read 0 0), (4, .read 0 0), (5, .read 0 0), (6, .read 0 0), (7, .read 0 0), (8, .read 0 0)])]⟩
noncomputable def g176 : FI := ⟨Tryz.f176, [(6, [(0, .read 0 0), (1, .read 0 0), (2, .read 0 0), (3, .read 0 0), (4, .read 0 0), (5, .read 0 0), (6, .read 0 0), (7, .read 0 0), (8, .read 0 0)])]⟩
noncomputable def g177 : FI := ⟨Tryz.f177, []⟩
noncomputable def g178 : FI := ⟨Tryz.f178, []⟩
noncomputable def g179 : FI := ⟨Tryz.f179, []⟩
noncomputable def g180 : FI := ⟨Tryz.f180, []⟩
noncomputable def g181 : FI := ⟨Tryz.f181, [(1, [(0, .read 0 0), (1, .read 0 0), (2, .read 0 0), (3, .read 0 0), (4, .read 0 0), (5, .eff), (6, .read 1 1)]), (3, [(0, .read 0 2), (1, .read 0 1), (2, .read 0 1), (3, .read 0 1), (4, .read 0 1), (5, .eff), (6, .read 0 1), (7, .read 0 1), (8, .eff), (9, .read 2 2), (10, .read 2 2), (11, .read 2 3), (12, .read 2 2), (13, .read 2 2), (14, .eff), (15, .read 3 3), (16, .read 3 3), (17, .read 3 3), (18, .read 3 5), (19, .read 3 4), (20, .read 3 3), (21, .eff), (22, .eff), (23, .read 5 5), (24, .read 5 5), (25, .read 5 5)])]⟩
noncomputable def g182 : FI := ⟨Tryz.f182, []⟩
noncomputable def g183 : FI := ⟨Tryz.f183, []⟩
noncomputable def g184 : FI := ⟨Tryz.f184, [(1, [(0, .read 0 1), (1, .read 0 1), (2, .read 0 1), (3, .read 0 1), (4, .eff), (5, .read 0 1), (6, .read 0 1), (7, .eff), (8, .eff), (9, .read 3 3)]), (3, [(0, .read 0 1), (1, .read 0 1), (2, .read 0 1), (3, .read 0 1), (4, .read 0 0), (5, .eff), (6, .read 0 1), (7, .read 0 1), (8, .eff), (9, .eff), (10, .read 3 3)])]⟩
noncomputable def g185 : FI := ⟨Tryz.f185, []⟩
noncomputable def g186 : FI := ⟨Tryz.f186, [(12, [(0, .read 0 1), (1, .read 0 1), (2, .read 0 1), (3, .read 0 1), (4, .read 0 0), (5, .eff), (6, .read 0 1), (7, .read 0 1), (8, .eff), (9, .eff)])]⟩
noncomputable def g187 : FI := ⟨Tryz.f187, []⟩
noncomputable def g188 : FI := ⟨Tryz.f188, [(6, [(1, .read 0 1), (2, .read 0 1), (3, .read 0 1), (4, .read 0 1), (5, .read 0 1), (6, .read 0 1), (7, .read 0 1), (8, .alloc), (0, .eff), (9, .eff), (10, .read 2 2), (11, .read 2 2), (12, .read 2 2), (13, .read 2 2), (14, .read 2 2)])]⟩
noncomputable def g189 : FI := ⟨Tryz.f189, [(2, [(0, .read 0 0), (1, .read 0 0), (2, .read 0 0), (3, .read 0 0), (4, .read 0 0), (5, .read 0 0), (6, .read 0 0), (7, .read 0 0), (8, .read 0 0), (9, .read 0 0), (10, .read 0 0), (11, .read 0 0), (12, .read 0 0), (13, .eff)])]⟩
noncomputable def g190 : FI := ⟨Tryz.f190, []⟩
noncomputable def g191 : FI := ⟨Tryz.f191, []⟩
noncomputable def g192 : FI := ⟨Tryz.f192, []⟩
noncomputable def g193 : FI := ⟨Tryz.f193, [(6, [(0, .read 0 0), (1, .eff), (2, .read 0 1), (3, .read 0 1), (4, .read 0 1), (5, .read 0 1), (6, .read 0 1), (7, .read 1 1)]), (8, [(0, .read 0 0), (1, .read 0 0), (2, .read 0 0), (3, .read 0 0), (4, .read 0 0), (5, .eff), (6, .read 0 1), (7, .read 1 1), (8, .eff)])]⟩
noncomputable def g194 : FI := ⟨Tryz.f194, []⟩
noncomputable def g195 : FI := ⟨Tryz.f195, []⟩
noncomputable def g196 : FI := ⟨Tryz.f196, []⟩
noncomputable def g197 : FI := ⟨Tryz.f197, []⟩
noncomputable def g198 : FI := ⟨Tryz.f198, [(1, [(0, .read 0 1), (1, .eff), (2, .read 1 1), (3, .read 0 1), (4, .read 0 1), (5, .read 0 1), (6, .eff), (7, .read 2 2), (8, .eff), (9, .read 3 3), (10, .read 3 3), (11, .read 3 3), (12, .read 3 3), (13, .read 3 3)])]⟩
noncomputable def g199 : FI := ⟨Tryz.f199, [(1, [(0, .read 0 0), (1, .eff), (2, .read 1 1), (3, .read 1 1), (4, .read 0 1), (5, .read 0 1), (6, .read 0 1), (7, .read 0 1), (8, .eff), (9, .read 2 2)])]⟩
noncomputable def g200 : FI := ⟨Tryz.f200, [(5, [(0, .read 0 1), (1, .read 0 1), (2, .read 0 0), (3, .read 0 0), (4, .read 0 0), (5, .read 0 0), (6, .eff), (7, .read 1 1), (8, .read 1 1)]), (7, [(0, .read 0 0), (1, .read 0 0), (2, .read 0 0), (3, .read 0 0), (4, .eff), (5, .read 0 1), (6, .read 0 1), (7, .read 0 1), (8, .read 0 1), (9, .eff), (10, .read 2 2), (11, .read 2 2), (12, .read 2 2)])]⟩
noncomputable def g201 : FI := ⟨Tryz.f201, [(1, [(0, .read 0 1), (1, .eff), (2, .read 1 1), (3, .read 0 1), (4, .read 0 1), (5, .read 0 1), (6, .eff), (7, .read 2 2)])]⟩
noncomputable def g202 : FI := ⟨Tryz.f202, [(1, [(0, .read 0 2), (1, .read 0 1), (2, .eff), (3, .read 1 1), (4, .read 0 1), (5, .read 0 1), (6, .read 0 1), (7, .eff), (8, .read 2 2), (9, .read 2 2), (10, .eff)]), (4, [(0, .read 0 0), (1, .read 0 0), (2, .read 0 0), (3, .read 0 0), (4, .read 0 0), (5, .eff), (6, .read 0 1), (7, .read 0 1), (8, .read 0 1), (9, .read 0 1), (10, .eff), (11, .read 2 2), (12, .read 2 2), (13, .read 2 2)])]⟩
noncomputable def g203 : FI := ⟨Tryz.f203, [(1, [(0, .read 0 0), (1, .read 0 0), (2, .read 0 0), (3, .read 0 0), (4, .read 0 0), (5, .eff), (6, .read 0 1), (7, .eff), (8, .read 0 2), (9, .read 0 2), (10, .read 0 2), (11, .read 0 2), (12, .read 0 2), (13, .read 2 2), (14, .eff)])]⟩
noncomputable def g204 : FI := ⟨Tryz.f204, [(1, [(10, .alloc), (0, .read 0 1), (1, .read 0 1), (2, .read 0 1), (3, .read 0 1), (4, .read 0 0), (5, .read 0 0), (6, .read 0 0), (7, .read 0 0), (8, .eff), (9, .eff), (11, .eff)]), (3, [(0, .read 0 1), (1, .eff), (2, .read 1 1), (3, .read 0 1), (4, .read 0 1), (5, .read 0 1), (6, .read 0 1), (7, .read 0 1), (8, .read 0 1), (9, .read 0 1), (10, .read 0 1), (11, .eff), (12, .read 2 2)]), (7, [(0, .read 0 1), (1, .read 0 0), (2, .read 0 0), (3, .read 0 0), (4, .read 0 0), (5, .read 0 0), (6, .eff), (7, .read 0 1), (8, .read 0 1), (9, .read 0 1), (10, .read 0 1), (11, .read 0 1), (12, .read 0 1), (13, .read 1 1), (14, .eff), (15, .read 2 2)])]⟩
noncomputable def g205 : FI := ⟨Tryz.f205, [(3, [(0, .read 0 1), (1, .read 0 1), (2, .read 0 1), (3, .read 0 0), (4, .read 0 0), (5, .read 0 0), (6, .eff), (7, .read 1 1), (8, .read 1 1), (9, .read 1 1), (10, .eff)]), (4, [(0, .read 0 0), (1, .read 0 0), (2, .read 0 0), (3, .read 0 0), (4, .read 0 0), (5, .read 0 0), (6, .read 0 0), (7, .read 0 0), (8, .eff)]), (7, [(0, .read 0 1), (1, .read 0 0), (2, .read 0 0), (3, .read 0 0), (4, .read 0 0), (5, .read 0 0), (6, .read 0 0), (7, .read 0 0), (8, .eff), (9, .read 0 1), (10, .read 0 1), (11, .read 0 1), (12, .read 0 1), (13, .read 0 1), (14, .read 1 1), (15, .read 0 1), (16, .read 0 1), (17, .read 0 1), (18, .read 0 1), (19, .read 0 1), (20, .read 0 1), (21, .eff)])]⟩
noncomputable def g206 : FI := ⟨Tryz.f206, []⟩
noncomputable def g207 : FI := ⟨Tryz.f207, []⟩
noncomputable def g208 : FI := ⟨Tryz.f208, []⟩
noncomputable def g209 : FI := ⟨Tryz.f209, []⟩
noncomputable def g210 : FI := ⟨Tryz.f210, [(2, [(4, .read 0 0), (5, .read 0 0), (6, .read 0 0), (7, .read 0 0), (8, .read 0 0), (9, .alloc), (0, .read 0 0), (1, .read 0 0), (2, .read 0 0), (3, .read 0 0), (10, .eff)])]⟩
noncomputable def g211 : FI := ⟨Tryz.f211, [(1, [(0, .read 0 0), (1, .read 0 0), (2, .read 0 0), (3, .read 0 0), (4, .read 0 0), (5, .read 0 0), (6, .read 0 0), (7, .read 0 0), (8, .eff)])]⟩
noncomputable def g212 : FI := ⟨Tryz.f212, []⟩
noncomputable def g213 : FI := ⟨Tryz.f213, []⟩
noncomputable def g214 : FI := ⟨Tryz.f214, []⟩
noncomputable def g215 : FI := ⟨Tryz.f215, [(3, [(1, .alloc), (7, .read 0 1), (8, .alloc), (0, .read 0 2), (2, .read 0 0), (3, .read 0 0), (4, .read 0 0), (5, .read 0 0), (6, .eff), (9, .eff), (10, .read 2 2), (11, .read 2 2), (12, .eff)]), (4, [(0, .read 0 0), (1, .read 0 0), (2, .read 0 0), (3, .read 0 0), (4, .read 0 0), (5, .read 0 0), (6, .read 0 0), (7, .read 0 0), (8, .read 0 0), (9, .read 0 0)])]⟩
noncomputable def g216 : FI := ⟨Tryz.f216, []⟩
noncomputable def g217 : FI := ⟨Tryz.f217, []⟩
noncomputable def g218 : FI := ⟨Tryz.f218, []⟩
noncomputable def g219 : FI := ⟨Tryz.f219, []⟩
noncomputable def g220 : FI := ⟨Tryz.f220, [(5, [(0, .read 0 0), (1, .read 0 0), (2, .read 0 0), (3, .read 0 0), (4, .read 0 0), (5, .read 0 0), (6, .read 0 0), (7, .alloc), (8, .read 0 0)]), (13, [(0, .read 0 1), (1, .read 0 0), (2, .read 0 0), (3, .read 0 0), (4, .read 0 0), (5, .read 0 0), (6, .read 0 0), (7, .read 0 0), (8, .read 0 0), (9, .eff), (10, .read 0 1), (11, .read 0 1), (12, .read 0 1), (13, .read 0 1), (14, .eff)])]⟩
noncomputable def g221 : FI := ⟨Tryz.f221, []⟩
noncomputable def g222 : FI := ⟨Tryz.f222, []⟩
noncomputable def g223 : FI := ⟨Tryz.f223, []⟩
noncomputable def g224 : FI := ⟨Tryz.f224, []⟩
noncomputable def g225 : FI := ⟨Tryz.f225, [(1, [(0, .read 0 2), (1, .eff), (2, .read 1 2), (3, .read 0 2), (4, .read 0 2), (5, .read 0 2), (6, .read 0 2), (7, .read 0 1), (8, .read 0 1), (9, .read 0 1), (10, .read 0 1), (11, .read 0 1), (12, .eff), (13, .read 0 2), (14, .read 0 2), (15, .read 0 2), (16, .eff), (17, .read 3 3)])]⟩
noncomputable def g226 : FI := ⟨Tryz.f226, []⟩
noncomputable def g227 : FI := ⟨Tryz.f227, []⟩
noncomputable def g228 : FI := ⟨Tryz.f228, []⟩
noncomputable def g229 : FI := ⟨Tryz.f229, [(3, [(0, .read 0 0), (1, .read 0 0), (2, .read 0 0), (3, .read 0 0), (4, .read 0 0), (5, .read 0 0), (6, .read 0 0), (7, .read 0 0), (8, .read 0 0), (9, .read 0 0), (10, .read 0 0)])]⟩
noncomputable def g230 : FI := ⟨Tryz.f230, [(1, [(0, .read 0 0), (1, .read 0 0), (2, .read 0 0), (3, .read 0 0), (4, .read 0 0), (5, .read 0 0), (6, .read 0 0), (7, .read 0 0), (8, .read 0 0), (9, .read 0 0), (10, .read 0 0), (11, .read 0 0), (12, .read 0 0), (13, .read 0 0), (14, .read 0 0)])]⟩
noncomputable def g231 : FI := ⟨Tryz.f231, [(1, [(0, .read 0 1), (1, .read 0 0), (2, .read 0 0), (3, .read 0 0), (4, .read 0 0), (5, .read 0 0), (6, .read 0 0), (7, .read 0 0), (8, .read 0 0), (9, .read 0 0), (10, .eff), (11, .read 1 1), (12, .read 1 1), (13, .eff)])]⟩
noncomputable def g232 : FI := ⟨Tryz.f232, []⟩
noncomputable def g233 : FI := ⟨Tryz.f233, [(3, [(1, .read 0 0), (2, .read 0 0), (3, .read 0 0), (4, .read 0 0), (5, .read 0 0), (6, .read 0 0), (7, .read 0 0), (8, .read 0 0), (9, .read 0 0), (10, .read 0 0), (11, .read 0 0), (12, .read 0 0), (13, .read 0 0), (14, .read 0 0), (15, .alloc), (0, .read 0 0), (16, .read 0 0), (17, .read 0 0), (18, .eff)])]⟩
noncomputable def g234 : FI := ⟨Tryz.f234, [(8, [(0, .read 0 2), (1, .read 0 1), (2, .read 0 1), (3, .read 0 1), (4, .read 0 1), (5, .read 0 1), (6, .read 0 1), (7, .read 0 0), (8, .read 0 0), (9, .read 0 0), (10, .read 0 0), (11, .eff), (12, .read 1 1), (13, .eff), (14, .read 2 2), (15, .read 2 2), (16, .eff)])]⟩
noncomputable def g235 : FI := ⟨Tryz.f235, []⟩
noncomputable def g236 : FI := ⟨Tryz.f236, [(3, [(0, .read 0 3), (1, .read 0 0), (2, .read 0 0), (3, .read 0 0), (4, .read 0 0), (5, .eff), (6, .read 0 2), (7, .read 0 1), (8, .read 0 1), (9, .read 0 1), (10, .read 0 1), (11, .read 0 1), (12, .read 0 1), (13, .read 0 1), (14, .eff), (15, .eff), (16, .eff)]), (5, [(0, .read 0 1), (1, .read 0 1), (2, .read 0 1), (3, .read 0 1), (4, .read 0 1), (5, .read 0 1), (6, .read 0 1), (7, .read 0 1), (8, .read 0 1), (9, .read 0 1), (10, .read 0 1), (11, .read 0 1), (12, .read 0 1), (13, .read 0 1), (14, .read 0 1), (15, .read 0 0), (16, .read 0 0), (17, .read 0 0), (18, .read 0 0), (19, .read 0 0), (20, .eff), (21, .eff), (22, .read 2 2)])]⟩
noncomputable def g237 : FI := ⟨Tryz.f237, [(4, [(0, .read 0 2), (1, .read 0 0), (2, .read 0 0), (3, .read 0 0), (4, .read 0 0), (5, .eff), (6, .read 0 2), (7, .read 0 2), (8, .read 0 2), (9, .read 0 2), (10, .read 0 1), (11, .read 0 1), (12, .read 0 1), (13, .read 0 1), (14, .read 0 1), (15, .read 0 1), (16, .read 0 1), (17, .read 0 1), (18, .read 0 1), (19, .eff), (20, .eff), (21, .read 3 3)]), (6, [(0, .read 0 0), (1, .read 0 0), (2, .read 0 0), (3, .read 0 0), (4, .read 0 0), (5, .read 0 0), (6, .read 0 0), (7, .read 0 0), (8, .read 0 0)]), (12, [(1, .read 0 0), (2, .read 0 0), (3, .read 0 0), (4, .read 0 0), (5, .read 0 0), (6, .read 0 0), (7, .read 0 0), (8, .read 0 0), (9, .read 0 0), (10, .alloc), (0, .read 0 0), (11, .read 0 0), (12, .read 0 0), (13, .eff)]), (14, [(0, .read 0 1), (1, .read 0 1), (2, .read 0 1), (3, .read 0 1), (4, .read 0 1), (5, .read 0 1), (6, .read 0 1), (7, .read 0 1), (8, .read 0 1), (9, .read 0 0), (10, .read 0 0), (11, .read 0 0), (12, .read 0 0), (13, .read 0 0), (14, .eff), (15, .eff)])]⟩
noncomputable def g238 : FI := ⟨Tryz.f238, [(3, [(0, .read 0 0), (1, .eff), (2, .read 1 1), (3, .read 0 1), (4, .read 0 1), (5, .read 0 1), (6, .read 1 1), (7, .read 1 1), (8, .read 1 1), (9, .read 1 1)])]⟩
noncomputable def g239 : FI := ⟨Tryz.f239, [(1, [(0, .read 0 1), (1, .read 0 0), (2, .read 0 0), (3, .read 0 0), (4, .read 0 0), (5, .read 0 0), (6, .read 0 0), (7, .read 0 0), (8, .read 0 0), (9, .read 0 0), (10, .read 0 0), (11, .read 0 0), (12, .read 0 0), (13, .read 0 0), (14, .eff), (15, .read 1 1), (16, .read 1 1), (17, .eff)])]⟩
noncomputable def g240 : FI := ⟨Tryz.f240, [(1, [(0, .read 0 0), (1, .read 0 0), (2, .read 0 0), (3, .read 0 0), (4, .read 0 0), (5, .read 0 0), (6, .read 0 0), (7, .read 0 0), (8, .read 0 0), (9, .read 0 0), (10, .read 0 0), (11, .eff), (12, .read 1 1)])]⟩
noncomputable def g241 : FI := ⟨Tryz.f241, [(5, [(0, .read 0 1), (1, .read 0 1), (2, .read 0 1), (3, .read 0 1), (4, .read 0 0), (5, .read 0 0), (6, .eff), (7, .eff), (8, .read 2 2)]), (16, [(0, .read 0 3), (1, .read 0 2), (2, .read 0 0), (3, .read 0 0), (4, .eff), (5, .read 0 2), (6, .read 0 2), (7, .read 0 2), (8, .read 0 2), (9, .read 0 2), (10, .read 0 2), (11, .read 0 1), (12, .read 0 1), (13, .read 0 1), (14, .read 0 1), (15, .eff), (16, .read 2 2), (17, .eff), (18, .read 3 3), (19, .read 3 3), (20, .read 3 3), (21, .eff)]), (20, [(0, .read 0 1), (1, .read 0 1), (2, .read 0 1), (3, .read 0 1), (4, .read 0 0), (5, .read 0 0), (6, .eff), (7, .eff), (8, .read 2 2)])]⟩
noncomputable def g242 : FI := ⟨Tryz.f242, []⟩
noncomputable def g243 : FI := ⟨Tryz.f243, []⟩
noncomputable def g244 : FI := ⟨Tryz.f244, []⟩
noncomputable def g245 : FI := ⟨Tryz.f245, [(4, [(0, .read 0 0), (1, .read 0 0), (2, .read 0 0), (3, .read 0 0), (4, .read 0 0), (5, .read 0 0), (6, .read 0 0), (7, .read 0 0), (8, .read 0 0), (9, .read 0 0), (10, .read 0 0), (11, .read 0 0), (12, .read 0 0), (13, .read 0 0), (14, .read 0 0), (15, .read 0 0), (16, .read 0 0), (17, .read 0 0), (18, .read 0 0), (19, .read 0 0), (20, .read 0 0), (21, .read 0 0), (22, .eff)]), (6, [(0, .read 0 0), (1, .read 0 0), (2, .read 0 0), (3, .read 0 0), (4, .read 0 0), (5, .read 0 0), (6, .read 0 0), (7, .read 0 0), (8, .read 0 0), (9, .read 0 0), (10, .eff), (11, .read 1 1)]), (13, [(10, .alloc), (0, .read 0 0), (1, .read 0 0), (2, .read 0 0), (3, .read 0 0), (4, .read 0 0), (5, .read 0 0), (6, .read 0 0), (7, .read 0 0), (8, .read 0 0), (9, .read 0 0), (11, .eff)]), (16, [(0, .read 0 0), (1, .read 0 0), (2, .read 0 0), (3, .read 0 0), (4, .read 0 0), (5, .read 0 0), (6, .read 0 0), (7, .read 0 0), (8, .read 0 0), (9, .read 0 0), (10, .read 0 0), (11, .read 0 0), (12, .read 0 0), (13, .read 0 0), (14, .read 0 0), (15, .read 0 0), (16, .read 0 0), (17, .read 0 0), (18, .eff)])]⟩
noncomputable def g246 : FI := ⟨Tryz.f246, [(4, [(0, .read 0 0), (1, .read 0 0), (2, .read 0 0), (3, .read 0 0), (4, .read 0 0), (5, .read 0 0), (6, .read 0 0)])]⟩
noncomputable def g247 : FI := ⟨Tryz.f247, []⟩
noncomputable def g248 : FI := ⟨Tryz.f248, [(1, [(10, .alloc), (0, .read 0 0), (1, .read 0 0), (2, .read 0 0), (3, .read 0 0), (4, .read 0 0), (5, .read 0 0), (6, .read 0 0), (7, .read 0 0), (8, .read 0 0), (9, .eff), (11, .eff)]), (10, [(0, .read 0 0), (1, .read 0 0), (2, .read 0 0), (3, .read 0 0), (4, .read 0 0), (5, .read 0 0), (6, .read 0 0), (7, .read 0 0), (8, .read 0 0), (9, .read 0 0), (10, .read 0 0), (11, .read 0 0), (12, .read 0 0), (13, .read 0 0), (14, .read 0 0), (15, .read 0 0), (16, .read 0 0), (17, .read 0 0)]), (26, [(0, .read 0 2), (1, .read 0 2), (2, .read 0 2), (3, .read 0 2), (4, .read 0 2), (5, .read 0 2), (6, .read 0 1), (7, .read 0 1), (8, .read 0 1), (9, .read 0 1), (10, .read 0 1), (11, .read 0 0), (12, .read 0 0), (13, .read 0 0), (14, .read 0 0), (15, .eff), (16, .eff), (17, .eff), (18, .read 3 3)])]⟩
noncomputable def g249 : FI := ⟨Tryz.f249, [(1, [(10, .alloc), (0, .read 0 0), (1, .read 0 0), (2, .read 0 0), (3, .read 0 0), (4, .read 0 0), (5, .read 0 0), (6, .read 0 0), (7, .read 0 0), (8, .read 0 0), (9, .eff), (11, .eff)]), (4, [(0, .read 0 3), (1, .read 0 3), (2, .read 0 2), (3, .read 0 0), (4, .read 0 0), (5, .read 0 0), (6, .read 0 0), (7, .read 0 0), (8, .eff), (9, .eff), (10, .eff), (11, .eff)]), (6, [(0, .read 0 0), (1, .read 0 0), (2, .read 0 0), (3, .read 0 0), (4, .read 0 0), (5, .read 0 0), (6, .read 0 0), (7, .read 0 0), (8, .read 0 0), (9, .read 0 0)]), (10, [(0, .read 0 2), (1, .read 0 2), (2, .read 0 2), (3, .read 0 2), (4, .read 0 2), (5, .read 0 2), (6, .read 0 2), (7, .read 0 2), (8, .read 0 2), (9, .read 0 2), (10, .read 0 0), (11, .eff), (12, .read 0 1), (13, .read 0 1), (14, .read 0 1), (15, .read 0 1), (16, .read 0 1), (17, .eff), (18, .eff), (19, .read 3 3)]), (15, [(0, .read 0 2), (1, .read 0 2), (2, .read 0 2), (3, .read 0 2), (4, .read 0 2), (5, .read 0 2), (6, .read 0 2), (7, .read 0 2), (8, .read 0 2), (9, .read 0 2), (10, .read 0 2), (11, .read 0 2), (12, .read 0 2), (13, .read 0 2), (14, .read 0 0), (15, .read 0 0), (16, .read 0 0), (17, .read 0 0), (18, .read 0 0), (19, .eff), (20, .read 0 1), (21, .read 0 1), (22, .read 0 1), (23, .read 0 1), (24, .read 0 1), (25, .eff), (26, .eff), (27, .read 3 3)]), (22, [(0, .read 0 3), (1, .read 0 3), (2, .read 0 3), (3, .read 0 3), (4, .read 0 2), (5, .read 0 0), (6, .read 0 0), (7, .read 0 0), (8, .read 0 0), (9, .read 0 0), (10, .eff), (11, .eff), (12, .eff), (13, .read 3 3)]), (26, [(0, .read 0 3), (1, .read 0 3), (2, .read 0 3), (3, .read 0 3), (4, .read 0 3), (5, .read 0 3), (6, .read 0 2), (7, .read 0 0), (8, .read 0 0), (9, .read 0 0), (10, .read 0 0), (11, .read 0 0), (12, .eff), (13, .eff), (14, .eff), (15, .eff), (16, .read 4 4)]), (34, [(0, .read 0 0), (1, .read 0 0), (2, .read 0 0), (3, .read 0 0), (4, .read 0 0), (5, .read 0 0), (6, .read 0 0), (7, .read 0 0), (8, .read 0 0), (9, .read 0 0)])]⟩
noncomputable def g250 : FI := ⟨Tryz.f250, []⟩
noncomputable def g251 : FI := ⟨Tryz.f251, []⟩
noncomputable def g252 : FI := ⟨Tryz.f252, []⟩
noncomputable def g253 : FI := ⟨Tryz.f253, []⟩
noncomputable def g254 : FI := ⟨Tryz.f254, []⟩
noncomputable def g255 : FI := ⟨Tryz.f255, []⟩
noncomputable def g256 : FI := ⟨Tryz.f256, []⟩
noncomputable def g257 : FI := ⟨Tryz.f257, []⟩
noncomputable def g258 : FI := ⟨Tryz.f258, [(3, [(0, .read 0 0), (1, .read 0 0), (2, .eff)]), (11, [(0, .read 0 0), (1, .read 0 0), (2, .read 0 0), (3, .eff)])]⟩
noncomputable def g259 : FI := ⟨Tryz.f259, []⟩
noncomputable def g260 : FI := ⟨Tryz.f260, [(17, [(0, .read 0 0), (1, .read 0 0), (2, .read 0 0), (3, .read 0 0), (4, .read 0 0), (5, .read 0 0), (6, .read 0 0), (7, .read 0 0), (8, .read 0 0), (9, .read 0 0), (10, .read 0 0), (11, .read 0 0), (12, .read 0 0), (13, .eff), (14, .read 1 1), (15, .read 1 1), (16, .read 1 1)])]⟩
noncomputable def g261 : FI := ⟨Tryz.f261, []⟩
noncomputable def g262 : FI := ⟨Tryz.f262, []⟩
noncomputable def g263 : FI := ⟨Tryz.f263, [(3, [(0, .read 0 1), (1, .read 0 1), (2, .read 0 1), (3, .read 0 1), (4, .read 0 0), (5, .eff), (6, .read 0 1), (7, .read 0 1), (8, .eff), (9, .read 2 2)])]⟩
noncomputable def g264 : FI := ⟨Tryz.f264, []⟩
noncomputable def g265 : FI := ⟨Tryz.f265, []⟩
noncomputable def g266 : FI := ⟨Tryz.f266, [(3, [(0, .read 0 1), (1, .read 0 1), (2, .read 0 1), (3, .read 0 1), (4, .read 0 0), (5, .eff), (6, .read 0 1), (7, .read 0 1), (8, .eff), (9, .eff), (10, .read 3 3)]), (10, [(0, .read 0 2), (1, .read 0 2), (2, .read 0 2), (3, .read 0 2), (4, .read 0 1), (5, .read 0 0), (6, .read 0 0), (7, .eff), (8, .eff), (9, .read 0 2), (10, .read 0 2), (11, .eff), (12, .eff), (13, .read 4 4)])]⟩
noncomputable def g267 : FI := ⟨Tryz.f267, []⟩
noncomputable def g268 : FI := ⟨Tryz.f268, [(2, [(0, .read 0 0), (1, .read 0 0), (2, .read 0 0), (3, .read 0 0), (4, .read 0 0), (5, .eff)]), (3, [(0, .read 0 0), (1, .read 0 0), (2, .read 0 0), (3, .read 0 0), (4, .read 0 0), (5, .read 0 0), (6, .eff)])]⟩
noncomputable def g269 : FI := ⟨Tryz.f269, []⟩
noncomputable def g270 : FI := ⟨Tryz.f270, [(8, [(0, .read 0 0), (1, .read 0 0), (2, .read 0 0), (3, .read 0 0), (4, .read 0 0), (5, .read 0 0), (6, .eff), (7, .read 1 1), (8, .read 1 1), (9, .read 1 1), (10, .read 1 1), (11, .read 1 1)])]⟩
noncomputable def g271 : FI := ⟨Tryz.f271, []⟩
noncomputable def g272 : FI := ⟨Tryz.f272, []⟩
noncomputable def g274 : FI := ⟨Tryz.f274, []⟩
noncomputable def g275 : FI := ⟨Tryz.f275, [(1, [(5, .read 0 1), (6, .alloc), (0, .read 0 0), (1, .read 0 0), (2, .read 0 0), (3, .read 0 0), (4, .eff), (7, .eff)])]⟩
noncomputable def g276 : FI := ⟨Tryz.f276, [(1, [(0, .read 0 1), (1, .read 0 1), (2, .read 0 0), (3, .read 0 0), (4, .eff), (5, .read 1 1), (6, .eff), (7, .read 0 2), (8, .read 0 2), (9, .read 2 2), (10, .eff)])]⟩
noncomputable def g277 : FI := ⟨Tryz.f277, [(1, [(0, .read 0 0), (1, .read 0 0), (2, .eff), (3, .read 0 1), (4, .read 0 1), (5, .read 1 1), (6, .eff)])]⟩
noncomputable def g278 : FI := ⟨Tryz.f278, []⟩
noncomputable def g279 : FI := ⟨Tryz.f279, [(5, [(0, .read 0 0), (1, .read 0 0), (2, .read 0 0), (3, .read 0 0), (4, .read 0 0), (5, .read 0 0), (6, .read 0 0), (7, .read 0 0), (8, .read 0 0), (9, .read 0 0), (10, .read 0 0), (11, .read 0 0), (12, .read 0 0), (13, .read 0 0)])]⟩
noncomputable def g280 : FI := ⟨Tryz.f280, []⟩
noncomputable def g281 : FI := ⟨Tryz.f281, []⟩
noncomputable def g282 : FI := ⟨Tryz.f282, []⟩
noncomputable def g283 : FI := ⟨Tryz.f283, [(10, [(0, .read 0 3), (1, .read 0 2), (2, .read 0 2), (3, .read 0 2), (4, .read 0 2), (5, .read 0 2), (6, .read 0 2), (7, .read 0 2), (8, .read 0 2), (9, .read 0 2), (10, .read 0 2), (11, .read 0 0), (12, .eff), (13, .eff), (14, .eff), (15, .read 3 3), (16, .read 3 3), (17, .eff)])]⟩
noncomputable def g284 : FI := ⟨Tryz.f284, [(12, [(0, .read 0 0), (1, .read 0 0), (2, .read 0 0), (3, .read 0 0), (4, .read 0 0), (5, .read 0 0), (6, .read 0 0), (7, .read 0 0), (8, .read 0 0), (9, .read 0 0), (10, .eff), (11, .read 1 1)])]⟩
noncomputable def g285 : FI := ⟨Tryz.f285, []⟩
noncomputable def g286 : FI := ⟨Tryz.f286, []⟩
noncomputable def g287 : FI := ⟨Tryz.f287, []⟩
noncomputable def g288 : FI := ⟨Tryz.f288, []⟩
noncomputable def g289 : FI := ⟨Tryz.f289, []⟩
noncomputable def g290 : FI := ⟨Tryz.f290, [(1, [(0, .read 0 1), (1, .read 0 2), (2, .read 0 0), (3, .read 0 0), (4, .read 0 0), (5, .read 0 0), (6, .read 0 0), (7, .read 0 0), (8, .read 0 0), (9, .read 0 0), (10, .read 0 0), (11, .eff), (12, .read 0 2), (13, .read 1 1), (14, .read 1 1), (15, .eff), (16, .read 2 2), (17, .read 2 2), (18, .eff)])]⟩
noncomputable def g291 : FI := ⟨Tryz.f291, []⟩
noncomputable def g292 : FI := ⟨Tryz.f292, []⟩
noncomputable def g293 : FI := ⟨Tryz.f293, []⟩
noncomputable def g294 : FI := ⟨Tryz.f294, [(1, [(0, .read 0 1), (1, .eff), (2, .eff), (3, .read 0 2), (4, .read 0 2), (5, .read 0 2), (6, .read 0 2), (7, .read 0 2), (8, .read 2 2)])]⟩
noncomputable def g295 : FI := ⟨Tryz.f295, []⟩
noncomputable def g296 : FI := ⟨Tryz.f296, []⟩
noncomputable def g298 : FI := ⟨Tryz.f298, []⟩
noncomputable def g299 : FI := ⟨Tryz.f299, [(17, [(0, .read 0 0), (1, .read 0 0), (2, .read 0 0), (3, .read 0 0), (4, .read 0 0), (5, .read 0 0), (6, .read 0 0), (7, .read 0 0), (8, .read 0 0), (9, .read 0 0), (10, .read 0 0), (11, .read 0 0), (12, .read 0 0), (13, .eff), (14, .read 1 1), (15, .read 1 1), (16, .read 1 1)])]⟩
noncomputable def g300 : FI := ⟨Tryz.f300, []⟩
noncomputable def g301 : FI := ⟨Tryz.f301, [(12, [(0, .read 0 0), (1, .read 0 0), (2, .read 0 0), (3, .read 0 0), (4, .read 0 0), (5, .read 0 0), (6, .read 0 0), (7, .read 0 0), (8, .eff)])]⟩
noncomputable def g302 : FI := ⟨Tryz.f302, [(4, [(0, .read 0 0), (1, .read 0 0), (2, .read 0 0), (3, .read 0 0), (4, .read 0 0), (5, .read 0 0), (6, .read 0 0), (7, .read 0 0), (8, .read 0 0), (9, .read 0 0), (10, .read 0 0), (11, .read 0 0), (12, .read 0 0), (13, .read 0 0), (14, .eff), (15, .read 1 1), (16, .read 1 1)]), (6, [(0, .read 0 0), (1, .read 0 0), (2, .read 0 1), (3, .read 0 1), (4, .read 0 1), (5, .read 0 0), (6, .read 0 0), (7, .read 0 0), (8, .read 0 0), (9, .read 0 0), (10, .read 0 0), (11, .read 0 0), (12, .read 0 0), (13, .read 0 0), (14, .read 0 0), (15, .eff), (16, .read 1 1), (17, .eff)])]⟩
noncomputable def g303 : FI := ⟨Tryz.f303, [(10, [(0, .read 0 0), (1, .read 0 0), (2, .read 0 1), (3, .read 0 1), (4, .read 0 1), (5, .read 0 1), (6, .read 0 0), (7, .read 0 0), (8, .read 0 0), (9, .read 0 0), (10, .read 0 0), (11, .read 0 0), (12, .read 0 0), (13, .read 0 0), (14, .read 0 0), (15, .read 0 0), (16, .read 0 0), (17, .eff), (18, .read 1 1), (19, .eff)])]⟩
noncomputable def g304 : FI := ⟨Tryz.f304, [(10, [(0, .read 0 0), (1, .read 0 0), (2, .read 0 1), (3, .read 0 1), (4, .read 0 1), (5, .read 0 1), (6, .read 0 0), (7, .read 0 0), (8, .read 0 0), (9, .read 0 0), (10, .read 0 0), (11, .read 0 0), (12, .read 0 0), (13, .read 0 0), (14, .read 0 0), (15, .read 0 0), (16, .read 0 0), (17, .eff), (18, .read 1 1), (19, .eff)])]⟩
noncomputable def g305 : FI := ⟨Tryz.f305, []⟩
noncomputable def g306 : FI := ⟨Tryz.f306, [(3, [(0, .read 0 0), (1, .read 0 0), (2, .read 0 1), (3, .read 0 1), (4, .read 0 0), (5, .read 0 0), (6, .read 0 0), (7, .read 0 0), (8, .read 0 0), (9, .read 0 0), (10, .read 0 0), (11, .read 0 0), (12, .read 0 0), (13, .eff), (14, .read 1 1), (15, .eff)])]⟩
noncomputable def g307 : FI := ⟨Tryz.f307, [(5, [(0, .read 0 0), (1, .read 0 0), (2, .read 0 0), (3, .read 0 0), (4, .read 0 0), (5, .read 0 0), (6, .read 0 0), (7, .read 0 0), (8, .read 0 0), (9, .read 0 0), (10, .read 0 0), (11, .read 0 0), (12, .read 0 0), (13, .read 0 0), (14, .eff), (15, .read 1 1), (16, .read 1 1), (17, .read 1 1)]), (11, [(0, .read 0 0), (1, .read 0 0), (2, .read 0 1), (3, .read 0 1), (4, .read 0 1), (5, .read 0 0), (6, .read 0 0), (7, .read 0 0), (8, .read 0 0), (9, .read 0 0), (10, .read 0 0), (11, .read 0 0), (12, .read 0 0), (13, .read 0 0), (14, .read 0 0), (15, .eff), (16, .read 1 1), (17, .eff)]), (16, [(0, .read 0 0), (1, .read 0 0), (2, .read 0 0), (3, .read 0 0), (4, .read 0 0), (5, .read 0 0), (6, .read 0 0), (7, .read 0 0), (8, .read 0 0), (9, .read 0 0), (10, .eff), (11, .read 1 1), (12, .read 1 1)]), (17, [(0, .read 0 0), (1, .read 0 0), (2, .read 0 1), (3, .read 0 1), (4, .read 0 1), (5, .read 0 0), (6, .read 0 0), (7, .read 0 0), (8, .read 0 0), (9, .read 0 0), (10, .read 0 0), (11, .read 0 0), (12, .read 0 0), (13, .read 0 0), (14, .read 0 0), (15, .eff), (16, .read 1 1), (17, .eff)]), (22, [(0, .read 0 0), (1, .read 0 0), (2, .read 0 0), (3, .read 0 0), (4, .read 0 0), (5, .read 0 0), (6, .read 0 0), (7, .read 0 0), (8, .read 0 0), (9, .read 0 0), (10, .eff), (11, .read 1 1), (12, .read 1 1)]), (23, [(0, .read 0 0), (1, .read 0 0), (2, .read 0 1), (3, .read 0 1), (4, .read 0 1), (5, .read 0 0), (6, .read 0 0), (7, .read 0 0), (8, .read 0 0), (9, .read 0 0), (10, .read 0 0), (11, .read 0 0), (12, .read 0 0), (13, .read 0 0), (14, .read 0 0), (15, .eff), (16, .read 1 1), (17, .eff)])]⟩
noncomputable def g308 : FI := ⟨Tryz.f308, [(1, [(0, .read 0 0), (1, .read 0 0), (2, .read 0 1), (3, .read 0 1), (4, .read 0 0), (5, .read 0 0), (6, .read 0 0), (7, .read 0 0), (8, .read 0 0), (9, .read 0 0), (10, .read 0 0), (11, .read 0 0), (12, .read 0 0), (13, .eff), (14, .read 1 1), (15, .eff)]), (3, [(0, .read 0 0), (1, .read 0 0), (2, .read 0 0), (3, .read 0 0), (4, .read 0 0), (5, .read 0 0), (6, .read 0 0), (7, .read 0 0), (8, .read 0 0), (9, .read 0 0), (10, .read 0 0), (11, .read 0 0), (12, .read 0 0), (13, .eff), (14, .read 1 1), (15, .read 1 1), (16, .read 1 1)]), (5, [(0, .read 0 0), (1, .read 0 0), (2, .read 0 0), (3, .read 0 0), (4, .read 0 0), (5, .read 0 0), (6, .read 0 0), (7, .read 0 0), (8, .read 0 0), (9, .read 0 0), (10, .read 0 0), (11, .read 0 0), (12, .read 0 0), (13, .eff), (14, .read 1 1), (15, .read 1 1)]), (8, [(0, .read 0 0), (1, .read 0 0), (2, .read 0 1), (3, .read 0 1), (4, .read 0 0), (5, .read 0 0), (6, .read 0 0), (7, .read 0 0), (8, .read 0 0), (9, .read 0 0), (10, .read 0 0), (11, .read 0 0), (12, .read 0 0), (13, .eff), (14, .read 1 1), (15, .eff)])]⟩
noncomputable def g309 : FI := ⟨Tryz.f309, [(1, [(0, .read 0 0), (1, .read 0 0), (2, .read 0 1), (3, .read 0 1), (4, .read 0 0), (5, .read 0 0), (6, .read 0 0), (7, .read 0 0), (8, .read 0 0), (9, .read 0 0), (10, .read 0 0), (11, .read 0 0), (12, .read 0 0), (13, .eff), (14, .read 1 1), (15, .eff)]), (3, [(0, .read 0 0), (1, .read 0 0), (2, .read 0 0), (3, .read 0 0), (4, .read 0 0), (5, .read 0 0), (6, .read 0 0), (7, .read 0 0), (8, .read 0 0), (9, .read 0 0), (10, .read 0 0), (11, .read 0 0), (12, .read 0 0), (13, .eff), (14, .read 1 1), (15, .read 1 1)]), (5, [(0, .read 0 0), (1, .read 0 0), (2, .read 0 0), (3, .read 0 0), (4, .read 0 0), (5, .read 0 0), (6, .read 0 0), (7, .read 0 0), (8, .read 0 0), (9, .read 0 0), (10, .read 0 0), (11, .read 0 0), (12, .read 0 0), (13, .eff), (14, .read 1 1), (15, .read 1 1), (16, .read 1 1)]), (8, [(0, .read 0 0), (1, .read 0 0), (2, .read 0 1), (3, .read 0 1), (4, .read 0 0), (5, .read 0 0), (6, .read 0 0), (7, .read 0 0), (8, .read 0 0), (9, .read 0 0), (10, .read 0 0), (11, .read 0 0), (12, .read 0 0), (13, .eff), (14, .read 1 1), (15, .eff)]), (10, [(0, .read 0 0), (1, .read 0 0), (2, .read 0 1), (3, .read 0 1), (4, .read 0 0), (5, .read 0 0), (6, .read 0 0), (7, .read 0 0), (8, .read 0 0), (9, .read 0 0), (10, .read 0 0), (11, .read 0 0), (12, .read 0 0), (13, .eff), (14, .read 1 1), (15, .eff)]), (13, [(0, .read 0 0), (1, .read 0 0), (2, .read 0 0), (3, .read 0 0), (4, .read 0 0), (5, .read 0 0), (6, .read 0 0), (7, .read 0 0), (8, .read 0 0), (9, .read 0 0), (10, .read 0 0), (11, .read 0 0), (12, .read 0 0), (13, .eff), (14, .read 1 1), (15, .read 1 1)]), (15, [(0, .read 0 0), (1, .read 0 0), (2, .read 0 0), (3, .read 0 0), (4, .read 0 0), (5, .read 0 0), (6, .read 0 0), (7, .read 0 0), (8, .read 0 0), (9, .read 0 0), (10, .read 0 0), (11, .read 0 0), (12, .read 0 0), (13, .eff), (14, .read 1 1), (15, .read 1 1), (16, .read 1 1)]), (18, [(0, .read 0 0), (1, .read 0 0), (2, .read 0 1), (3, .read 0 1), (4, .read 0 0), (5, .read 0 0), (6, .read 0 0), (7, .read 0 0), (8, .read 0 0), (9, .read 0 0), (10, .read 0 0), (11, .read 0 0), (12, .read 0 0), (13, .eff), (14, .read 1 1), (15, .eff)]), (21, [(0, .read 0 0), (1, .read 0 0), (2, .read 0 1), (3, .read 0 1), (4, .read 0 0), (5, .read 0 0), (6, .read 0 0), (7, .read 0 0), (8, .read 0 0), (9, .read 0 0), (10, .read 0 0), (11, .read 0 0), (12, .read 0 0), (13, .eff), (14, .read 1 1), (15, .eff)])]⟩
noncomputable def g310 : FI := ⟨Tryz.f310, []⟩
noncomputable def g311 : FI := ⟨Tryz.f311, []⟩
noncomputable def g312 : FI := ⟨Tryz.f312, [(5, [(0, .read 0 0), (1, .eff), (2, .read 0 1), (3, .read 0 1), (4, .read 0 1), (5, .read 0 1), (6, .read 1 1), (7, .read 1 1)])]⟩
noncomputable def g313 : FI := ⟨Tryz.f313, [(3, [(0, .read 0 1), (1, .read 0 0), (2, .eff), (3, .read 0 1), (4, .read 0 1), (5, .read 0 1), (6, .read 1 1), (7, .read 1 1), (8, .read 0 1), (9, .read 0 1), (10, .read 0 1), (11, .read 0 1), (12, .read 0 1), (13, .read 1 1), (14, .read 1 1), (15, .read 1 1)])]⟩
noncomputable def g314 : FI := ⟨Tryz.f314, [(3, [(0, .read 0 1), (1, .read 0 1), (2, .read 0 1), (3, .read 0 1), (4, .read 0 1), (5, .read 0 0), (6, .eff), (7, .read 1 1), (8, .read 1 1)])]⟩
noncomputable def g315 : FI := ⟨Tryz.f315, [(5, [(0, .read 0 2), (1, .read 0 1), (2, .read 0 1), (3, .read 0 1), (4, .read 0 1), (5, .read 0 0), (6, .read 0 0), (7, .read 0 0), (8, .read 0 0), (9, .eff), (10, .read 1 1), (11, .read 0 1), (12, .read 0 1), (13, .read 0 1), (14, .read 0 1), (15, .read 0 1), (16, .read 0 1), (17, .read 0 1), (18, .read 0 1), (19, .eff), (20, .read 2 2), (21, .read 2 2), (22, .eff)])]⟩
noncomputable def g316 : FI := ⟨Tryz.f316, []⟩
noncomputable def g317 : FI := ⟨Tryz.f317, []⟩
noncomputable def g318 : FI := ⟨Tryz.f318, [(6, [(0, .read 0 0), (1, .read 0 0), (2, .read 0 0), (3, .read 0 0), (4, .read 0 0), (5, .read 0 0), (6, .read 0 0), (7, .read 0 0), (8, .eff), (9, .read 1 1), (10, .read 1 1), (11, .read 1 1), (12, .read 1 1), (13, .read 1 1)])]⟩
noncomputable def g319 : FI := ⟨Tryz.f319, []⟩
noncomputable def g320 : FI := ⟨Tryz.f320, [(3, [(0, .read 0 3), (1, .read 0 3), (2, .read 0 3), (3, .read 0 0), (4, .read 0 0), (5, .read 0 0), (6, .eff), (7, .read 0 2), (8, .read 0 1), (9, .eff), (10, .eff), (11, .read 3 3), (12, .eff), (13, .read 4 4)])]⟩
noncomputable def g321 : FI := ⟨Tryz.f321, []⟩
noncomputable def g322 : FI := ⟨Tryz.f322, []⟩
noncomputable def g323 : FI := ⟨Tryz.f323, [(1, [(0, .read 0 0), (1, .read 0 0), (2, .read 0 0), (3, .read 0 0), (4, .read 0 0), (5, .read 0 0), (6, .read 0 0), (7, .read 0 0), (8, .read 0 0), (9, .eff), (10, .eff)])]⟩
noncomputable def g324 : FI := ⟨Tryz.f324, []⟩
noncomputable def g325 : FI := ⟨Tryz.f325, [(10, [(0, .read 0 0), (1, .read 0 0), (2, .read 0 0), (3, .read 0 0), (4, .read 0 0), (5, .read 0 0), (6, .read 0 0), (7, .read 0 0), (8, .read 0 0), (9, .read 0 0), (10, .read 0 0), (11, .read 0 0), (12, .read 0 0), (13, .read 0 0), (14, .read 0 0), (15, .read 0 0)]), (13, [(0, .read 0 0), (1, .read 0 0), (2, .read 0 0), (3, .read 0 0), (4, .read 0 0), (5, .read 0 0), (6, .read 0 0), (7, .read 0 0), (8, .read 0 0), (9, .read 0 0), (10, .read 0 0), (11, .read 0 0), (12, .read 0 0), (13, .read 0 0), (14, .read 0 0), (15, .read 0 0)])]⟩
noncomputable def g326 : FI := ⟨Tryz.f326, []⟩
noncomputable def g327 : FI := ⟨Tryz.f327, [(6, [(0, .read 0 3), (1, .read 0 2), (2, .read 0 2), (3, .read 0 2), (4, .read 0 2), (5, .read 0 2), (6, .read 0 2), (7, .read 0 2), (8, .read 0 2), (9, .read 0 2), (10, .read 0 2), (11, .read 0 2), (12, .read 0 2), (13, .read 0 2), (14, .read 0 2), (15, .read 0 0), (16, .eff), (17, .eff), (18, .eff), (19, .read 3 3), (20, .read 3 3), (21, .eff)])]⟩
noncomputable def g328 : FI := ⟨Tryz.f328, []⟩
noncomputable def g329 : FI := ⟨Tryz.f329, [(5, [(0, .read 0 0), (1, .read 0 0), (2, .read 0 0), (3, .read 0 0), (4, .read 0 0), (5, .read 0 0), (6, .read 0 0), (7, .read 0 0), (8, .eff), (9, .read 1 1), (10, .read 1 1), (11, .read 1 1), (12, .read 1 1), (13, .read 1 1)])]⟩
noncomputable def g330 : FI := ⟨Tryz.f330, [(1, [(0, .read 0 1), (1, .read 0 0), (2, .read 0 0), (3, .read 0 0), (4, .read 0 0), (5, .read 0 0), (6, .eff), (7, .read 0 1), (8, .read 0 1), (9, .read 0 1), (10, .read 0 1), (11, .read 0 1), (12, .read 0 1), (13, .read 0 1), (14, .eff), (15, .read 2 2)])]⟩
noncomputable def g331 : FI := ⟨Tryz.f331, []⟩
noncomputable def g332 : FI := ⟨Tryz.f332, []⟩
noncomputable def g333 : FI := ⟨Tryz.f333, []⟩
noncomputable def g334 : FI := ⟨Tryz.f334, []⟩
noncomputable def g335 : FI := ⟨Tryz.f335, []⟩
noncomputable def g336 : FI := ⟨Tryz.f336, []⟩
noncomputable def g337 : FI := ⟨Tryz.f337, []⟩
noncomputable def g338 : FI := ⟨Tryz.f338, [(10, [(0, .read 0 0), (1, .read 0 0), (2, .read 0 0), (3, .read 0 0), (4, .read 0 0), (5, .read 0 0), (6, .read 0 0), (7, .read 0 0), (8, .eff), (9, .read 1 1), (10, .read 1 1), (11, .read 1 1), (12, .read 1 1), (13, .read 1 1)])]⟩
noncomputable def g339 : FI := ⟨Tryz.f339, []⟩
noncomputable def g340 : FI := ⟨Tryz.f340, []⟩
noncomputable def g341 : FI := ⟨Tryz.f341, [(4, [(0, .read 0 0), (1, .read 0 0), (2, .read 0 0), (3, .read 0 0), (4, .read 0 0), (5, .read 0 0), (6, .read 0 0), (7, .read 0 0), (8, .read 0 0), (9, .read 0 0), (10, .read 0 0), (11, .read 0 0), (12, .read 0 0), (13, .read 0 0), (14, .eff), (15, .read 1 1), (16, .read 1 1)]), (6, [(0, .read 0 0), (1, .read 0 0), (2, .read 0 1), (3, .read 0 1), (4, .read 0 1), (5, .read 0 0), (6, .read 0 0), (7, .read 0 0), (8, .read 0 0), (9, .read 0 0), (10, .read 0 0), (11, .read 0 0), (12, .read 0 0), (13, .read 0 0), (14, .read 0 0), (15, .eff), (16, .read 1 1), (17, .eff)])]⟩
noncomputable def g342 : FI := ⟨Tryz.f342, [(10, [(0, .read 0 0), (1, .read 0 0), (2, .read 0 1), (3, .read 0 1), (4, .read 0 1), (5, .read 0 1), (6, .read 0 0), (7, .read 0 0), (8, .read 0 0), (9, .read 0 0), (10, .read 0 0), (11, .read 0 0), (12, .read 0 0), (13, .read 0 0), (14, .read 0 0), (15, .read 0 0), (16, .read 0 0), (17, .eff), (18, .read 1 1), (19, .eff)])]⟩
noncomputable def g343 : FI := ⟨Tryz.f343, [(10, [(0, .read 0 0), (1, .read 0 0), (2, .read 0 1), (3, .read 0 1), (4, .read 0 1), (5, .read 0 1), (6, .read 0 0), (7, .read 0 0), (8, .read 0 0), (9, .read 0 0), (10, .read 0 0), (11, .read 0 0), (12, .read 0 0), (13, .read 0 0), (14, .read 0 0), (15, .read 0 0), (16, .read 0 0), (17, .eff), (18, .read 1 1), (19, .eff)])]⟩
noncomputable def g344 : FI := ⟨Tryz.f344, []⟩
noncomputable def g345 : FI := ⟨Tryz.f345, [(3, [(0, .read 0 0), (1, .read 0 0), (2, .read 0 1), (3, .read 0 1), (4, .read 0 0), (5, .read 0 0), (6, .read 0 0), (7, .read 0 0), (8, .read 0 0), (9, .read 0 0), (10, .read 0 0), (11, .read 0 0), (12, .read 0 0), (13, .eff), (14, .read 1 1), (15, .eff)])]⟩
noncomputable def g346 : FI := ⟨Tryz.f346, [(5, [(0, .read 0 0), (1, .read 0 0), (2, .read 0 0), (3, .read 0 0), (4, .read 0 0), (5, .read 0 0), (6, .read 0 0), (7, .read 0 0), (8, .read 0 0), (9, .read 0 0), (10, .read 0 0), (11, .read 0 0), (12, .read 0 0), (13, .read 0 0), (14, .eff), (15, .read 1 1), (16, .read 1 1), (17, .read 1 1)]), (11, [(0, .read 0 0), (1, .read 0 0), (2, .read 0 1), (3, .read 0 1), (4, .read 0 1), (5, .read 0 0), (6, .read 0 0), (7, .read 0 0), (8, .read 0 0), (9, .read 0 0), (10, .read 0 0), (11, .read 0 0), (12, .read 0 0), (13, .read 0 0), (14, .read 0 0), (15, .eff), (16, .read 1 1), (17, .eff)]), (16, [(0, .read 0 0), (1, .read 0 0), (2, .read 0 0), (3, .read 0 0), (4, .read 0 0), (5, .read 0 0), (6, .read 0 0), (7, .read 0 0), (8, .read 0 0), (9, .read 0 0), (10, .eff), (11, .read 1 1), (12, .read 1 1)]), (17, [(0, .read 0 0), (1, .read 0 0), (2, .read 0 1), (3, .read 0 1), (4, .read 0 1), (5, .read 0 0), (6, .read 0 0), (7, .read 0 0), (8, .read 0 0), (9, .read 0 0), (10, .read 0 0), (11, .read 0 0), (12, .read 0 0), (13, .read 0 0), (14, .read 0 0), (15, .eff), (16, .read 1 1), (17, .eff)]), (22, [(0, .read 0 0), (1, .read 0 0), (2, .read 0 0), (3, .read 0 0), (4, .read 0 0), (5, .read 0 0), (6, .read 0 0), (7, .read 0 0), (8, .read 0 0), (9, .read 0 0), (10, .eff), (11, .read 1 1), (12, .read 1 1)]), (23, [(0, .read 0 0), (1, .read 0 0), (2, .read 0 1), (3, .read 0 1), (4, .read 0 1), (5, .read 0 0), (6, .read 0 0), (7, .read 0 0), (8, .read 0 0), (9, .read 0 0), (10, .read 0 0), (11, .read 0 0), (12, .read 0 0), (13, .read 0 0), (14, .read 0 0), (15, .eff), (16, .read 1 1), (17, .eff)])]⟩
noncomputable def g347 : FI := ⟨Tryz.f347, [(1, [(0, .read 0 0), (1, .read 0 0), (2, .read 0 1), (3, .read 0 1), (4, .read 0 0), (5, .read 0 0), (6, .read 0 0), (7, .read 0 0), (8, .read 0 0), (9, .read 0 0), (10, .read 0 0), (11, .read 0 0), (12, .read 0 0), (13, .eff), (14, .read 1 1), (15, .eff)]), (3, [(0, .read 0 0), (1, .read 0 0), (2, .read 0 0), (3, .read 0 0), (4, .read 0 0), (5, .read 0 0), (6, .read 0 0), (7, .read 0 0), (8, .read 0 0), (9, .read 0 0), (10, .read 0 0), (11, .read 0 0), (12, .read 0 0), (13, .eff), (14, .read 1 1), (15, .read 1 1), (16, .read 1 1)]), (5, [(0, .read 0 0), (1, .read 0 0), (2, .read 0 0), (3, .read 0 0), (4, .read 0 0), (5, .read 0 0), (6, .read 0 0), (7, .read 0 0), (8, .read 0 0), (9, .read 0 0), (10, .read 0 0), (11, .read 0 0), (12, .read 0 0), (13, .eff), (14, .read 1 1), (15, .read 1 1)]), (8, [(0, .read 0 0), (1, .read 0 0), (2, .read 0 1), (3, .read 0 1), (4, .read 0 0), (5, .read 0 0), (6, .read 0 0), (7, .read 0 0), (8, .read 0 0), (9, .read 0 0), (10, .read 0 0), (11, .read 0 0), (12, .read 0 0), (13, .eff), (14, .read 1 1), (15, .eff)])]⟩
noncomputable def g348 : FI := ⟨Tryz.f348, [(1, [(0, .read 0 0), (1, .read 0 0), (2, .read 0 1), (3, .read 0 1), (4, .read 0 0), (5, .read 0 0), (6, .read 0 0), (7, .read 0 0), (8, .read 0 0), (9, .read 0 0), (10, .read 0 0), (11, .read 0 0), (12, .read 0 0), (13, .eff), (14, .read 1 1), (15, .eff)]), (3, [(0, .read 0 0), (1, .read 0 0), (2, .read 0 0), (3, .read 0 0), (4, .read 0 0), (5, .read 0 0), (6, .read 0 0), (7, .read 0 0), (8, .read 0 0), (9, .read 0 0), (10, .read 0 0), (11, .read 0 0), (12, .read 0 0), (13, .eff), (14, .read 1 1), (15, .read 1 1)]), (5, [(0, .read 0 0), (1, .read 0 0), (2, .read 0 0), (3, .read 0 0), (4, .read 0 0), (5, .read 0 0), (6, .read 0 0), (7, .read 0 0), (8, .read 0 0), (9, .read 0 0), (10, .read 0 0), (11, .read 0 0), (12, .read 0 0), (13, .eff), (14, .read 1 1), (15, .read 1 1), (16, .read 1 1)]), (8, [(0, .read 0 0), (1, .read 0 0), (2, .read 0 1), (3, .read 0 1), (4, .read 0 0), (5, .read 0 0), (6, .read 0 0), (7, .read 0 0), (8, .read 0 0), (9, .read 0 0), (10, .read 0 0), (11, .read 0 0), (12, .read 0 0), (13, .eff), (14, .read 1 1), (15, .eff)]), (10, [(0, .read 0 0), (1, .read 0 0), (2, .read 0 1), (3, .read 0 1), (4, .read 0 0), (5, .read 0 0), (6, .read 0 0), (7, .read 0 0), (8, .read 0 0), (9, .read 0 0), (10, .read 0 0), (11, .read 0 0), (12, .read 0 0), (13, .eff), (14, .read 1 1), (15, .eff)]), (13, [(0, .read 0 0), (1, .read 0 0), (2, .read 0 0), (3, .read 0 0), (4, .read 0 0), (5, .read 0 0), (6, .read 0 0), (7, .read 0 0), (8, .read 0 0), (9, .read 0 0), (10, .read 0 0), (11, .read 0 0), (12, .read 0 0), (13, .eff), (14, .read 1 1), (15, .read 1 1)]), (15, [(0, .read 0 0), (1, .read 0 0), (2, .read 0 0), (3, .read 0 0), (4, .read 0 0), (5, .read 0 0), (6, .read 0 0), (7, .read 0 0), (8, .read 0 0), (9, .read 0 0), (10, .read 0 0), (11, .read 0 0), (12, .read 0 0), (13, .eff), (14, .read 1 1), (15, .read 1 1), (16, .read 1 1)]), (18, [(0, .read 0 0), (1, .read 0 0), (2, .read 0 1), (3, .read 0 1), (4, .read 0 0), (5, .read 0 0), (6, .read 0 0), (7, .read 0 0), (8, .read 0 0), (9, .read 0 0), (10, .read 0 0), (11, .read 0 0), (12, .read 0 0), (13, .eff), (14, .read 1 1), (15, .eff)]), (21, [(0, .read 0 0), (1, .read 0 0), (2, .read 0 1), (3, .read 0 1), (4, .read 0 0), (5, .read 0 0), (6, .read 0 0), (7, .read 0 0), (8, .read 0 0), (9, .read 0 0), (10, .read 0 0), (11, .read 0 0), (12, .read 0 0), (13, .eff), (14, .read 1 1), (15, .eff)])]⟩
noncomputable def g349 : FI := ⟨Tryz.f349, []⟩
noncomputable def g350 : FI := ⟨Tryz.f350, [(4, [(0, .read 0 0), (1, .read 0 0), (2, .read 0 0), (3, .read 0 0), (4, .read 0 0), (5, .read 0 1), (6, .read 0 1), (7, .eff), (8, .read 1 1), (9, .eff)]), (6, [(0, .read 0 0), (1, .read 0 0), (2, .read 0 0), (3, .read 0 0), (4, .read 0 0), (5, .read 0 0), (6, .read 0 0), (7, .read 0 0), (8, .read 0 0), (9, .read 0 0), (10, .read 0 0)]), (8, [(0, .read 0 0), (1, .read 0 0), (2, .read 0 0), (3, .read 0 0), (4, .read 0 0), (5, .eff)])]⟩
noncomputable def g351 : FI := ⟨Tryz.f351, [(1, [(0, .read 0 0), (1, .read 0 0), (2, .read 0 0), (3, .read 0 0), (4, .read 0 0), (5, .read 0 0), (6, .read 0 0), (7, .read 0 0), (8, .read 0 0), (9, .read 0 0), (10, .read 0 0)]), (3, [(0, .read 0 0), (1, .read 0 0), (2, .read 0 0), (3, .read 0 0), (4, .read 0 0), (5, .eff)])]⟩
noncomputable def g352 : FI := ⟨Tryz.f352, [(3, [(0, .read 0 0), (1, .read 0 0), (2, .read 0 0), (3, .read 0 0), (4, .read 0 0), (5, .read 0 0), (6, .read 0 0), (7, .read 0 0), (8, .read 0 0), (9, .read 0 0), (10, .read 0 0), (11, .read 0 0), (12, .read 0 0), (13, .read 0 0), (14, .read 0 0), (15, .read 0 0), (16, .read 0 0), (17, .read 0 0), (18, .read 0 0), (19, .eff), (20, .read 1 1), (21, .read 1 1)]), (5, [(0, .read 0 0), (1, .read 0 0), (2, .read 0 0), (3, .read 0 0), (4, .read 0 0), (5, .read 0 0), (6, .read 0 0), (7, .read 0 0), (8, .read 0 0), (9, .read 0 0), (10, .read 0 0), (11, .read 0 0), (12, .read 0 0), (13, .eff), (14, .read 1 1), (15, .read 1 1)]), (6, [(0, .read 0 0), (1, .read 0 0), (2, .read 0 0), (3, .read 0 0), (4, .read 0 1), (5, .read 0 1), (6, .read 0 1), (7, .read 0 1), (8, .read 0 0), (9, .read 0 0), (10, .read 0 0), (11, .read 0 0), (12, .read 0 0), (13, .read 0 0), (14, .read 0 0), (15, .read 0 0), (16, .read 0 0), (17, .read 0 0), (18, .read 0 0), (19, .read 0 0), (20, .read 0 0), (21, .eff), (22, .read 1 1), (23, .eff)])]⟩
noncomputable def g353 : FI := ⟨Tryz.f353, []⟩
noncomputable def g354 : FI := ⟨Tryz.f354, [(1, [(0, .read 0 0), (1, .read 0 0), (2, .read 0 0), (3, .read 0 0), (4, .read 0 0), (5, .read 0 0), (6, .read 0 0), (7, .read 0 0), (8, .read 0 0), (9, .eff)]), (2, [(0, .read 0 0), (1, .read 0 0), (2, .read 0 0), (3, .read 0 0), (4, .read 0 0), (5, .read 0 0), (6, .read 0 0), (7, .read 0 0), (8, .read 0 0), (9, .eff)]), (3, [(0, .read 0 0), (1, .read 0 0), (2, .read 0 0), (3, .read 0 0), (4, .read 0 0), (5, .read 0 0), (6, .read 0 0), (7, .read 0 0), (8, .read 0 0), (9, .eff)])]⟩
noncomputable def g355 : FI := ⟨Tryz.f355, []⟩
noncomputable def g356 : FI := ⟨Tryz.f356, []⟩
noncomputable def g357 : FI := ⟨Tryz.f357, []⟩
noncomputable def g358 : FI := ⟨Tryz.f358, []⟩
noncomputable def g359 : FI := ⟨Tryz.f359, []⟩
noncomputable def g360 : FI := ⟨Tryz.f360, []⟩
noncomputable def g361 : FI := ⟨Tryz.f361, []⟩
noncomputable def g362 : FI := ⟨Tryz.f362, []⟩
noncomputable def g363 : FI := ⟨Tryz.f363, []⟩
noncomputable def g364 : FI := ⟨Tryz.f364, []⟩
noncomputable def g365 : FI := ⟨Tryz.f365, []⟩
noncomputable def g366 : FI := ⟨Tryz.f366, [(8, [(0, .read 0 3), (1, .read 0 0), (2, .read 0 0), (3, .read 0 0), (4, .read 0 0), (5, .eff), (6, .read 0 1), (7, .read 0 1), (8, .read 0 1), (9, .read 0 1), (10, .eff), (11, .read 0 2), (12, .read 0 2), (13, .read 0 2), (14, .read 0 2), (15, .read 0 2), (16, .read 0 2), (17, .read 0 2), (18, .read 0 2), (19, .eff), (20, .read 0 3), (21, .read 0 3), (22, .read 0 3), (23, .eff)])]⟩
noncomputable def g367 : FI := ⟨Tryz.f367, []⟩
noncomputable def g368 : FI := ⟨Tryz.f368, [(1, [(0, .read 0 3), (1, .read 0 0), (2, .read 0 0), (3, .read 0 0), (4, .read 0 0), (5, .read 0 0), (6, .eff), (7, .read 0 1), (8, .read 0 1), (9, .read 0 1), (10, .read 0 1), (11, .eff), (12, .eff), (13, .read 3 3), (14, .eff), (15, .read 4 4)])]⟩
noncomputable def g369 : FI := ⟨Tryz.f369, [(3, [(0, .read 0 4), (1, .read 0 0), (2, .read 0 0), (3, .eff), (4, .read 0 4), (5, .read 0 4), (6, .read 1 4), (7, .read 0 3), (8, .read 0 3), (9, .read 0 3), (10, .read 0 3), (11, .read 0 1), (12, .eff), (13, .eff), (14, .eff), (15, .read 0 4), (16, .read 0 4), (17, .read 0 4), (18, .eff)]), (4, [(0, .read 0 1), (1, .read 0 0), (2, .read 0 0), (3, .read 0 0), (4, .read 0 0), (5, .read 0 0), (6, .read 0 0), (7, .read 0 0), (8, .read 0 0), (9, .read 0 0), (10, .read 0 0), (11, .read 0 0), (12, .read 0 0), (13, .read 0 0), (14, .read 0 0), (15, .read 0 0), (16, .eff), (17, .read 1 1), (18, .read 1 1), (19, .eff)])]⟩
noncomputable def g370 : FI := ⟨Tryz.f370, []⟩
noncomputable def g371 : FI := ⟨Tryz.f371, []⟩
noncomputable def g372 : FI := ⟨Tryz.f372, []⟩
noncomputable def g373 : FI := ⟨Tryz.f373, [(6, [(0, .read 0 4), (1, .read 0 0), (2, .eff), (3, .read 0 3), (4, .read 0 3), (5, .read 0 3), (6, .read 0 3), (7, .read 0 1), (8, .read 0 1), (9, .read 0 1), (10, .read 0 1), (11, .eff), (12, .eff), (13, .eff), (14, .read 0 4), (15, .read 0 4), (16, .read 0 4), (17, .eff)]), (8, [(0, .read 0 3), (1, .read 0 0), (2, .read 0 0), (3, .read 0 0), (4, .read 0 0), (5, .eff), (6, .read 0 1), (7, .read 0 1), (8, .read 0 1), (9, .read 0 1), (10, .eff), (11, .read 0 2), (12, .read 0 2), (13, .read 0 2), (14, .read 0 2), (15, .read 0 2), (16, .eff), (17, .read 0 3), (18, .read 0 3), (19, .read 0 3), (20, .eff), (21, .read 4 4)])]⟩
noncomputable def g374 : FI := ⟨Tryz.f374, []⟩
noncomputable def g375 : FI := ⟨Tryz.f375, [(8, [(0, .read 0 0), (1, .read 0 0), (2, .read 0 0), (3, .read 0 0), (4, .read 0 0), (5, .read 0 0), (6, .read 0 0), (7, .read 0 0), (8, .read 0 0), (9, .read 0 0), (10, .read 0 0), (11, .eff)])]⟩
noncomputable def g376 : FI := ⟨Tryz.f376, []⟩
noncomputable def g377 : FI := ⟨Tryz.f377, []⟩
noncomputable def g378 : FI := ⟨Tryz.f378, [(1, [(0, .read 0 3), (1, .read 0 0), (2, .eff), (3, .read 0 2), (4, .read 0 2), (5, .read 0 2), (6, .read 0 2), (7, .read 0 1), (8, .eff), (9, .eff), (10, .read 0 3), (11, .read 0 3), (12, .read 0 3), (13, .eff)]), (3, [(0, .read 0 0), (1, .read 0 0), (2, .read 0 0), (3, .read 0 0), (4, .read 0 0), (5, .read 0 0), (6, .read 0 0), (7, .read 0 0), (8, .read 0 0), (9, .read 0 0)])]⟩
noncomputable def g379 : FI := ⟨Tryz.f379, []⟩
noncomputable def g380 : FI := ⟨Tryz.f380, []⟩
noncomputable def g381 : FI := ⟨Tryz.f381, [(1, [(0, .read 0 1), (1, .read 0 0), (2, .read 0 0), (3, .eff), (4, .read 1 1), (5, .read 1 1), (6, .eff)])]⟩
noncomputable def g382 : FI := ⟨Tryz.f382, [(1, [(0, .read 0 0), (1, .read 0 0), (2, .read 0 0), (3, .read 0 0), (4, .read 0 0), (5, .read 0 0), (6, .eff), (7, .read 0 1), (8, .read 0 1), (9, .read 0 1), (10, .read 0 1), (11, .read 0 1), (12, .read 1 1), (13, .eff)])]⟩
noncomputable def g383 : FI := ⟨Tryz.f383, []⟩
noncomputable def g384 : FI := ⟨Tryz.f384, [(3, [(0, .read 0 0), (1, .read 0 0), (2, .read 0 0), (3, .read 0 0), (4, .read 0 0), (5, .read 0 0), (6, .read 0 0), (7, .read 0 0), (8, .read 0 0), (9, .read 0 0), (10, .read 0 0), (11, .read 0 0), (12, .read 0 0), (13, .read 0 0), (14, .read 0 0), (15, .read 0 0), (16, .read 0 0), (17, .read 0 0), (18, .read 0 0), (19, .eff), (20, .read 1 1), (21, .read 1 1)]), (5, [(0, .read 0 0), (1, .read 0 0), (2, .read 0 0), (3, .read 0 0), (4, .read 0 0), (5, .read 0 0), (6, .read 0 0), (7, .read 0 0), (8, .read 0 0), (9, .read 0 0), (10, .read 0 0), (11, .read 0 0), (12, .read 0 0), (13, .eff), (14, .read 1 1), (15, .read 1 1)]), (6, [(0, .read 0 0), (1, .read 0 0), (2, .read 0 0), (3, .read 0 0), (4, .read 0 1), (5, .read 0 1), (6, .read 0 1), (7, .read 0 1), (8, .read 0 0), (9, .read 0 0), (10, .read 0 0), (11, .read 0 0), (12, .read 0 0), (13, .read 0 0), (14, .read 0 0), (15, .read 0 0), (16, .read 0 0), (17, .read 0 0), (18, .read 0 0), (19, .read 0 0), (20, .read 0 0), (21, .eff), (22, .read 1 1), (23, .eff)])]⟩
noncomputable def g385 : FI := ⟨Tryz.f385, []⟩
noncomputable def g386 : FI := ⟨Tryz.f386, []⟩
noncomputable def g387 : FI := ⟨Tryz.f387, [(1, [(0, .read 0 0), (1, .read 0 0), (2, .read 0 0), (3, .read 0 0), (4, .read 0 0), (5, .read 0 0), (6, .read 0 0), (7, .read 0 0), (8, .read 0 0), (9, .eff), (10, .read 1 1)])]⟩
noncomputable def g388 : FI := ⟨Tryz.f388, []⟩
noncomputable def g389 : FI := ⟨Tryz.f389, []⟩
noncomputable def g390 : FI := ⟨Tryz.f390, [(1, [(0, .read 0 0), (1, .read 0 0), (2, .read 0 0), (3, .read 0 0), (4, .read 0 0), (5, .read 0 0), (6, .eff), (7, .read 0 1), (8, .read 0 1), (9, .read 0 1), (10, .read 0 1), (11, .read 0 1), (12, .read 1 1), (13, .eff)])]⟩
noncomputable def g391 : FI := ⟨Tryz.f391, [(1, [(10, .alloc), (0, .read 0 1), (1, .read 0 1), (2, .read 0 1), (3, .read 0 1), (4, .read 0 0), (5, .read 0 0), (6, .read 0 0), (7, .read 0 0), (8, .eff), (9, .eff), (11, .eff)]), (3, [(0, .read 0 0), (1, .read 0 0), (2, .read 0 0), (3, .read 0 0), (4, .read 0 0), (5, .read 0 0), (6, .read 0 0), (7, .read 0 0), (8, .read 0 0), (9, .read 0 0), (10, .read 0 0), (11, .read 0 0), (12, .read 0 0), (13, .eff), (14, .read 1 1)])]⟩
noncomputable def g392 : FI := ⟨Tryz.f392, [(3, [(0, .read 0 1), (1, .eff), (2, .read 1 1), (3, .read 0 1), (4, .read 0 1), (5, .read 0 1), (6, .eff), (7, .read 2 2), (8, .read 0 2), (9, .read 0 2), (10, .read 0 2), (11, .read 0 2), (12, .read 0 2), (13, .read 2 2), (14, .read 2 2)])]⟩
noncomputable def g393 : FI := ⟨Tryz.f393, []⟩
noncomputable def g394 : FI := ⟨Tryz.f394, [(2, [(0, .read 0 3), (1, .read 0 0), (2, .read 0 0), (3, .read 0 0), (4, .read 0 0), (5, .eff), (6, .eff), (7, .read 0 3), (8, .read 0 2), (9, .read 0 2), (10, .read 0 2), (11, .read 0 2), (12, .read 0 2), (13, .read 0 2), (14, .read 0 2), (15, .read 0 2), (16, .read 0 2), (17, .eff), (18, .read 0 3), (19, .read 0 3), (20, .read 0 3), (21, .eff), (22, .read 4 4)]), (5, [(0, .read 0 0), (1, .read 0 0), (2, .read 0 0), (3, .read 0 0), (4, .read 0 0), (5, .read 0 0), (6, .read 0 0), (7, .read 0 0), (8, .read 0 0)])]⟩
noncomputable def g395 : FI := ⟨Tryz.f395, []⟩
noncomputable def g396 : FI := ⟨Tryz.f396, []⟩
noncomputable def g397 : FI := ⟨Tryz.f397, [(3, [(0, .read 0 0), (1, .read 0 0), (2, .read 0 0), (3, .read 0 0), (4, .read 0 0), (5, .read 0 0), (6, .eff), (7, .read 0 1), (8, .read 0 1), (9, .read 1 1), (10, .eff)])]⟩
noncomputable def g398 : FI := ⟨Tryz.f398, [(1, [(0, .read 0 0), (1, .read 0 0), (2, .eff), (3, .read 0 1), (4, .read 0 1), (5, .read 1 1), (6, .eff)])]⟩
noncomputable def g399 : FI := ⟨Tryz.f399, [(2, [(0, .read 0 1), (1, .read 0 1), (2, .read 0 1), (3, .read 0 1), (4, .read 0 1), (5, .read 0 0), (6, .read 0 0), (7, .read 0 0), (8, .read 0 0), (9, .read 0 0), (10, .read 0 0), (11, .read 0 0), (12, .read 0 0), (13, .read 0 0), (14, .read 0 0), (15, .eff), (16, .read 1 1), (17, .eff)])]⟩
noncomputable def g400 : FI := ⟨Tryz.f400, [(3, [(0, .read 0 2), (1, .read 0 0), (2, .read 0 0), (3, .read 0 0), (4, .read 0 0), (5, .read 0 0), (6, .read 0 0), (7, .read 0 0), (8, .read 0 0), (9, .read 0 0), (10, .read 0 0), (11, .eff), (12, .read 0 1), (13, .read 0 1), (14, .read 0 1), (15, .read 0 1), (16, .read 0 1), (17, .eff), (18, .read 0 2), (19, .read 0 2), (20, .read 0 2), (21, .read 0 2), (22, .read 0 2), (23, .eff)])]⟩
noncomputable def g401 : FI := ⟨Tryz.f401, [(1, [(0, .read 0 0), (1, .read 0 0), (2, .read 0 0), (3, .read 0 0), (4, .read 0 0), (5, .read 0 0), (6, .read 0 0), (7, .read 0 0), (8, .read 0 0), (9, .eff), (10, .read 0 1), (11, .read 0 1), (12, .read 0 1), (13, .read 0 1), (14, .read 0 1), (15, .read 1 1), (16, .eff)])]⟩
noncomputable def g402 : FI := ⟨Tryz.f402, [(1, [(0, .read 0 0), (1, .read 0 0), (2, .read 0 0), (3, .read 0 0), (4, .read 0 0), (5, .read 0 0), (6, .read 0 0), (7, .read 0 0), (8, .eff), (9, .eff), (10, .eff)])]⟩
noncomputable def g403 : FI := ⟨Tryz.f403, []⟩
noncomputable def g404 : FI := ⟨Tryz.f404, []⟩
noncomputable def g405 : FI := ⟨Tryz.f405, []⟩
noncomputable def g406 : FI := ⟨Tryz.f406, [(1, [(0, .read 0 0), (1, .read 0 0), (2, .read 0 0), (3, .read 0 0), (4, .read 0 0), (5, .read 0 0), (6, .read 0 0), (7, .read 0 0), (8, .read 0 0), (9, .eff), (10, .read 1 1)])]⟩
noncomputable def g407 : FI := ⟨Tryz.f407, [(1, [(0, .read 0 1), (1, .read 0 2), (2, .read 0 3), (3, .read 0 4), (4, .read 0 1), (5, .read 0 2), (6, .read 0 0), (7, .eff), (8, .read 1 1), (9, .read 1 1), (10, .eff), (11, .read 2 2), (12, .read 2 2), (13, .eff), (14, .read 3 3), (15, .read 3 3), (16, .eff), (17, .read 4 4), (18, .read 4 4), (19, .eff)])]⟩
noncomputable def g408 : FI := ⟨Tryz.f408, [(1, [(0, .read 0 0), (1, .read 0 0), (2, .read 0 0), (3, .read 0 0), (4, .read 0 0), (5, .read 0 0), (6, .read 0 0), (7, .read 0 0), (8, .read 0 0), (9, .read 0 0)]), (4, [(0, .read 0 0), (1, .read 0 0), (2, .read 0 0), (3, .read 0 0), (4, .read 0 0), (5, .read 0 0), (6, .read 0 0), (7, .read 0 0), (8, .read 0 0), (9, .read 0 0), (10, .read 0 0), (11, .read 0 0), (12, .read 0 0), (13, .eff)])]⟩
noncomputable def g409 : FI := ⟨Tryz.f409, [(5, [(0, .read 0 0), (1, .read 0 0), (2, .read 0 0), (3, .read 0 0), (4, .read 0 0), (5, .read 0 0), (6, .read 0 0), (7, .read 0 0), (8, .eff), (9, .read 0 1), (10, .read 0 1), (11, .read 1 1), (12, .eff)])]⟩
noncomputable def g410 : FI := ⟨Tryz.f410, [(1, [(0, .read 0 1), (1, .read 0 1), (2, .read 0 0), (3, .read 0 0), (4, .eff), (5, .read 1 1)]), (3, [(0, .read 0 0), (1, .read 0 0), (2, .read 0 0), (3, .read 0 0), (4, .eff), (5, .read 0 1), (6, .read 0 1), (7, .read 1 1), (8, .eff)])]⟩
noncomputable def g411 : FI := ⟨Tryz.f411, []⟩
noncomputable def g412 : FI := ⟨Tryz.f412, [(1, [(0, .read 0 3), (1, .read 0 0), (2, .read 0 0), (3, .read 0 0), (4, .read 0 0), (5, .read 0 0), (6, .read 0 0), (7, .read 0 0), (8, .read 0 0), (9, .eff), (10, .read 0 1), (11, .read 0 1), (12, .read 0 1), (13, .read 0 1), (14, .read 0 1), (15, .read 0 1), (16, .read 0 1), (17, .read 0 1), (18, .eff), (19, .read 0 2), (20, .read 0 2), (21, .read 0 2), (22, .read 0 2), (23, .read 0 2), (24, .read 0 2), (25, .read 0 2), (26, .read 0 2), (27, .eff), (28, .read 0 3), (29, .read 0 3), (30, .read 0 3), (31, .eff), (32, .read 4 4)])]⟩
noncomputable def g413 : FI := ⟨Tryz.f413, [(2, [(0, .read 0 0), (1, .read 0 0), (2, .read 0 0), (3, .read 0 0), (4, .read 0 0), (5, .read 0 0), (6, .read 0 0), (7, .read 0 0), (8, .read 0 0), (9, .read 0 0), (10, .read 0 0)])]⟩
noncomputable def g414 : FI := ⟨Tryz.f414, []⟩
noncomputable def g415 : FI := ⟨Tryz.f415, []⟩
noncomputable def g416 : FI := ⟨Tryz.f416, []⟩
noncomputable def g417 : FI := ⟨Tryz.f417, []⟩
noncomputable def g418 : FI := ⟨Tryz.f418, [(1, [(0, .read 0 2), (1, .read 0 1), (2, .read 0 0), (3, .eff), (4, .read 0 1), (5, .read 0 1), (6, .read 0 1), (7, .eff), (8, .read 2 2), (9, .read 2 2), (10, .eff)]), (4, [(0, .read 0 2), (1, .read 0 2), (2, .read 0 2), (3, .read 0 2), (4, .read 0 2), (5, .read 0 1), (6, .read 0 1), (7, .read 0 1), (8, .read 0 1), (9, .read 0 0), (10, .eff), (11, .eff), (12, .read 2 2), (13, .read 2 2), (14, .read 2 2)])]⟩
noncomputable def g419 : FI := ⟨Tryz.f419, []⟩
noncomputable def g420 : FI := ⟨Tryz.f420, []⟩
noncomputable def g421 : FI := ⟨Tryz.f421, [(1, [(0, .read 0 1), (1, .read 0 0), (2, .eff), (3, .read 0 1), (4, .read 0 1), (5, .read 0 1), (6, .read 0 1), (7, .read 0 1), (8, .read 0 1), (9, .eff), (10, .read 2 2)])]⟩
noncomputable def g422 : FI := ⟨Tryz.f422, [(1, [(0, .read 0 1), (1, .read 0 0), (2, .read 0 0), (3, .read 0 0), (4, .read 0 0), (5, .read 0 0), (6, .read 0 0), (7, .read 0 0), (8, .read 0 0), (9, .eff), (10, .read 1 1), (11, .read 1 1), (12, .eff)])]⟩
noncomputable def g423 : FI := ⟨Tryz.f423, [(1, [(0, .read 0 3), (1, .read 0 0), (2, .eff), (3, .read 0 3), (4, .read 0 3), (5, .read 0 3), (6, .read 0 3), (7, .read 0 2), (8, .read 0 2), (9, .read 0 2), (10, .read 0 2), (11, .read 0 1), (12, .eff), (13, .eff), (14, .read 0 3), (15, .read 0 3), (16, .read 0 3), (17, .eff)])]⟩
noncomputable def g424 : FI := ⟨Tryz.f424, [(2, [(0, .read 0 0), (1, .read 0 0), (2, .read 0 0), (3, .read 0 0), (4, .eff), (5, .read 0 1), (6, .read 0 1), (7, .read 0 1), (8, .read 0 1), (9, .read 1 1)])]⟩
noncomputable def g425 : FI := ⟨Tryz.f425, [(1, [(0, .read 0 3), (1, .read 0 0), (2, .eff), (3, .read 0 3), (4, .read 0 3), (5, .read 0 3), (6, .read 0 3), (7, .read 0 2), (8, .read 0 2), (9, .read 0 2), (10, .read 0 2), (11, .read 0 2), (12, .read 0 2), (13, .read 0 2), (14, .read 0 2), (15, .read 0 1), (16, .read 0 1), (17, .read 0 1), (18, .read 0 1), (19, .eff), (20, .eff), (21, .read 0 3), (22, .read 0 3), (23, .read 0 3), (24, .eff), (25, .read 4 4)])]⟩
noncomputable def g426 : FI := ⟨Tryz.f426, []⟩
noncomputable def g427 : FI := ⟨Tryz.f427, []⟩
noncomputable def g443 : FI := ⟨Tryz.f443, [(1, [(0, .read 0 0), (1, .eff), (2, .read 0 1), (3, .read 0 1), (4, .read 0 1), (5, .eff), (6, .read 2 2)])]⟩
noncomputable def g444 : FI := ⟨Tryz.f444, []⟩
noncomputable def g445 : FI := ⟨Tryz.f445, [(1, [(0, .read 0 0), (1, .eff), (2, .read 0 1), (3, .read 0 1), (4, .eff), (5, .read 2 2), (6, .eff)])]⟩
noncomputable def g446 : FI := ⟨Tryz.f446, [(1, [(0, .read 0 0), (1, .eff), (2, .read 0 1), (3, .read 0 1), (4, .read 0 1), (5, .read 0 1), (6, .read 0 1), (7, .read 0 1), (8, .eff), (9, .read 2 2)])]⟩
noncomputable def g447 : FI := ⟨Tryz.f447, [(4, [(0, .read 0 0), (1, .read 0 0), (2, .read 0 0), (3, .read 0 0), (4, .read 0 0), (5, .read 0 0), (6, .read 0 0)])]⟩
noncomputable def g448 : FI := ⟨Tryz.f448, [(4, [(0, .read 0 0), (1, .read 0 0), (2, .read 0 0), (3, .read 0 0), (4, .read 0 0), (5, .read 0 0), (6, .read 0 0)])]⟩
noncomputable def g449 : FI := ⟨Tryz.f449, [(4, [(0, .read 0 0), (1, .read 0 0), (2, .read 0 0), (3, .read 0 0), (4, .read 0 0), (5, .read 0 0), (6, .read 0 0), (7, .read 0 0)])]⟩
noncomputable def g452 : FI := ⟨Tryz.f452, []⟩
noncomputable def g453 : FI := ⟨Tryz.f453, []⟩
noncomputable def funs : Tree FI := .node (.node (.node (.node (.node (.node (.node (.node (.node .nil (some g255) .nil) (some g127) (.node .nil (some g383) .nil)) (some g63) (.node (.node .nil (some g319) .nil) (some g191) (.node .nil (some g447) .nil))) (some g31) (.node (.node (.node .nil (some g287) .nil) (some g159) (.node .nil (some g415) .nil)) (some g95) (.node (.node .nil (some g351) .nil) (some g223) .nil))) (some g15) (.node (.node (.node (.node .nil (some g271) .nil) (some g143) (.node .nil (some g399) .nil)) (some g79) (.node (.node .nil (some g335) .nil) (some g207) .nil)) (some g47) (.node (.node (.node .nil (some g303) .nil) (some g175) .nil) (some g111) (.node (.node .nil (some g367) .nil) (some g239) .nil)))) (some g7) (.node (.node (.node (.node (.node .nil (some g263) .nil) (some g135) (.node .nil (some g391) .nil)) (some g71) (.node (.node .nil (some g327) .nil) (some g199) .nil)) (some g39) (.node (.node (.node .nil (some g295) .nil) (some g167) (.node .nil (some g423) .nil)) (some g103) (.node (.node .nil (some g359) .nil) (some g231) .nil))) (some g23) (.node (.node (.node (.node .nil (some g279) .nil) (some g151) (.node .nil (some g407) .nil)) (some g87) (.node (.node .nil (some g343) .nil) (some g215) .nil)) (some g55) (.node (.node (.node .nil (some g311) .nil) (some g183) .nil) (some g119) (.node (.node .nil (some g375) .nil) (some g247) .nil))))) (some g3) (.node (.node (.node (.node (.node (.node .nil (some g259) .nil) (some g131) (.node .nil (some g387) .nil)) (some g67) (.node (.node .nil (some g323) .nil) (some g195) .nil)) (some g35) (.node (.node (.node .nil (some g291) .nil) (some g163) (.node .nil (some g419) .nil)) (some g99) (.node (.node .nil (some g355) .nil) (some g227) .nil))) (some g19) (.node (.node (.node (.node .nil (some g275) .nil) (some g147) (.node .nil (some g403) .nil)) (some g83) (.node (.node .nil (some g339) .nil) (some g211) .nil)) (some g51) (.node (.node (.node .nil (some g307) .nil) (some g179) .nil) (some g115) (.node (.node .nil (some g371) .nil) (some g243) .nil)))) (some g11) (.node (.node (.node (.node (.node .nil (some g267) .nil) (some g139) (.node .nil (some g395) .nil)) (some g75) (.node (.node .nil (some g331) .nil) (some g203) .nil)) (some g43) (.node (.node (.node .nil (some g299) .nil) (some g171) (.node .nil (some g427) .nil)) (some g107) (.node (.node .nil (some g363) .nil) (some g235) .nil))) (some g27) (.node (.node (.node (.node .nil (some g283) .nil) (some g155) (.node .nil (some g411) .nil)) (some g91) (.node (.node .nil (some g347) .nil) (some g219) .nil)) (some g59) (.node (.node (.node .nil (some g315) .nil) (some g187) (.node .nil (some g443) .nil)) (some g123) (.node (.node .nil (some g379) .nil) (some g251) .nil)))))) none (.node (.node (.node (.node (.node (.node (.node .nil (some g257) .nil) (some g129) (.node .nil (some g385) .nil)) (some g65) (.node (.node .nil (some g321) .nil) (some g193) (.node .nil (some g449) .nil))) (some g33) (.node (.node (.node .nil (some g289) .nil) (some g161) (.node .nil (some g417) .nil)) (some g97) (.node (.node .nil (some g353) .nil) (some g225) .nil))) (some g17) (.node (.node (.node .nil (some g145) (.node .nil (some g401) .nil)) (some g81) (.node (.node .nil (some g337) .nil) (some g209) .nil)) (some g49) (.node (.node (.node .nil (some g305) .nil) (some g177) .nil) (some g113) (.node (.node .nil (some g369) .nil) (some g241) .nil)))) (some g9) (.node (.node (.node (.node (.node .nil (some g265) .nil) (some g137) (.node .nil (some g393) .nil)) (some g73) (.node (.node .nil (some g329) .nil) (some g201) .nil)) (some g41) (.node (.node .nil (some g169) (.node .nil (some g425) .nil)) (some g105) (.node (.node .nil (some g361) .nil) (some g233) .nil))) (some g25) (.node (.node (.node (.node .nil (some g281) .nil) (some g153) (.node .nil (some g409) .nil)) (some g89) (.node (.node .nil (some g345) .nil) (some g217) .nil)) (some g57) (.node (.node (.node .nil (some g313) .nil) (some g185) .nil) (some g121) (.node (.node .nil (some g377) .nil) (some g249) .nil))))) (some g5) (.node (.node (.node (.node (.node (.node .nil (some g261) .nil) (some g133) (.node .nil (some g389) .nil)) (some g69) (.node (.node .nil (some g325) .nil) (some g197) (.node .nil (some g453) .nil))) (some g37) (.node (.node (.node .nil (some g293) .nil) (some g165) (.node .nil (some g421) .nil)) (some g101) (.node (.node .nil (some g357) .nil) (some g229) .nil))) (some g21) (.node (.node (.node (.node .nil (some g277) .nil) (some g149) (.node .nil (some g405) .nil)) (some g85) (.node (.node .nil (some g341) .nil) (some g213) .nil)) (some g53) (.node (.node (.node .nil (some g309) .nil) (some g181) .nil) (some g117) (.node (.node .nil (some g373) .nil) (some g245) .nil)))) (some g13) (.node (.node (.node (.node (.node .nil (some g269) .nil) (some g141) (.node .nil (some g397) .nil)) (some g77) (.node (.node .nil (some g333) .nil) (some g205) .nil)) (some g45) (.node (.node (.node .nil (some g301) .nil) (some g173) .nil) (some g109) (.node (.node .nil (some g365) .nil) (some g237) .nil))) (some g29) (.node (.node (.node (.node .nil (some g285) .nil) (some g157) (.node .nil (some g413) .nil)) (some g93) (.node (.node .nil (some g349) .nil) (some g221) .nil)) (some g61) (.node (.node (.node .nil (some g317) .nil) (some g189) (.node .nil (some g445) .nil)) (some g125) (.node (.node .nil (some g381) .nil) (some g253) .nil))))))) none (.node (.node (.node (.node (.node (.node (.node (.node .nil (some g256) .nil) (some g128) (.node .nil (some g384) .nil)) (some g64) (.node (.node .nil (some g320) .nil) (some g192) (.node .nil (some g448) .nil))) (some g32) (.node (.node (.node .nil (some g288) .nil) (some g160) (.node .nil (some g416) .nil)) (some g96) (.node (.node .nil (some g352) .nil) (some g224) .nil))) (some g16) (.node (.node (.node (.node .nil (some g272) .nil) (some g144) (.node .nil (some g400) .nil)) (some g80) (.node (.node .nil (some g336) .nil) (some g208) .nil)) (some g48) (.node (.node (.node .nil (some g304) .nil) (some g176) .nil) (some g112) (.node (.node .nil (some g368) .nil) (some g240) .nil)))) (some g8) (.node (.node (.node (.node (.node .nil (some g264) .nil) (some g136) (.node .nil (some g392) .nil)) (some g72) (.node (.node .nil (some g328) .nil) (some g200) .nil)) (some g40) (.node (.node (.node .nil (some g296) .nil) (some g168) (.node .nil (some g424) .nil)) (some g104) (.node (.node .nil (some g360) .nil) (some g232) .nil))) (some g24) (.node (.node (.node (.node .nil (some g280) .nil) (some g152) (.node .nil (some g408) .nil)) (some g88) (.node (.node .nil (some g344) .nil) (some g216) .nil)) (some g56) (.node (.node (.node .nil (some g312) .nil) (some g184) .nil) (some g120) (.node (.node .nil (some g376) .nil) (some g248) .nil))))) (some g4) (.node (.node (.node (.node (.node (.node .nil (some g260) .nil) (some g132) (.node .nil (some g388) .nil)) (some g68) (.node (.node .nil (some g324) .nil) (some g196) (.node .nil (some g452) .nil))) (some g36) (.node (.node (.node .nil (some g292) .nil) (some g164) (.node .nil (some g420) .nil)) (some g100) (.node (.node .nil (some g356) .nil) (some g228) .nil))) (some g20) (.node (.node (.node (.node .nil (some g276) .nil) (some g148) (.node .nil (some g404) .nil)) (some g84) (.node (.node .nil (some g340) .nil) (some g212) .nil)) (some g52) (.node (.node (.node .nil (some g308) .nil) (some g180) .nil) (some g116) (.node (.node .nil (some g372) .nil) (some g244) .nil)))) (some g12) (.node (.node (.node (.node (.node .nil (some g268) .nil) (some g140) (.node .nil (some g396) .nil)) (some g76) (.node (.node .nil (some g332) .nil) (some g204) .nil)) (some g44) (.node (.node (.node .nil (some g300) .nil) (some g172) .nil) (some g108) (.node (.node .nil (some g364) .nil) (some g236) .nil))) (some g28) (.node (.node (.node (.node .nil (some g284) .nil) (some g156) (.node .nil (some g412) .nil)) (some g92) (.node (.node .nil (some g348) .nil) (some g220) .nil)) (some g60) (.node (.node (.node .nil (some g316) .nil) (some g188) (.node .nil (some g444) .nil)) (some g124) (.node (.node .nil (some g380) .nil) (some g252) .nil)))))) (some g2) (.node (.node (.node (.node (.node (.node (.node .nil (some g258) .nil) (some g130) (.node .nil (some g386) .nil)) (some g66) (.node (.node .nil (some g322) .nil) (some g194) .nil)) (some g34) (.node (.node (.node .nil (some g290) .nil) (some g162) (.node .nil (some g418) .nil)) (some g98) (.node (.node .nil (some g354) .nil) (some g226) .nil))) (some g18) (.node (.node (.node (.node .nil (some g274) .nil) (some g146) (.node .nil (some g402) .nil)) (some g82) (.node (.node .nil (some g338) .nil) (some g210) .nil)) (some g50) (.node (.node (.node .nil (some g306) .nil) (some g178) .nil) (some g114) (.node (.node .nil (some g370) .nil) (some g242) .nil)))) (some g10) (.node (.node (.node (.node (.node .nil (some g266) .nil) (some g138) (.node .nil (some g394) .nil)) (some g74) (.node (.node .nil (some g330) .nil) (some g202) .nil)) (some g42) (.node (.node (.node .nil (some g298) .nil) (some g170) (.node .nil (some g426) .nil)) (some g106) (.node (.node .nil (some g362) .nil) (some g234) .nil))) (some g26) (.node (.node (.node (.node .nil (some g282) .nil) (some g154) (.node .nil (some g410) .nil)) (some g90) (.node (.node .nil (some g346) .nil) (some g218) .nil)) (some g58) (.node (.node (.node .nil (some g314) .nil) (some g186) .nil) (some g122) (.node (.node .nil (some g378) .nil) (some g250) .nil))))) (some g6) (.node (.node (.node (.node (.node (.node .nil (some g262) .nil) (some g134) (.node .nil (some g390) .nil)) (some g70) (.node (.node .nil (some g326) .nil) (some g198) .nil)) (some g38) (.node (.node (.node .nil (some g294) .nil) (some g166) (.node .nil (some g422) .nil)) (some g102) (.node (.node .nil (some g358) .nil) (some g230) .nil))) (some g22) (.node (.node (.node (.node .nil (some g278) .nil) (some g150) (.node .nil (some g406) .nil)) (some g86) (.node (.node .nil (some g342) .nil) (some g214) .nil)) (some g54) (.node (.node (.node .nil (some g310) .nil) (some g182) .nil) (some g118) (.node (.node .nil (some g374) .nil) (some g246) .nil)))) (some g14) (.node (.node (.node (.node (.node .nil (some g270) .nil) (some g142) (.node .nil (some g398) .nil)) (some g78) (.node (.node .nil (some g334) .nil) (some g206) .nil)) (some g46) (.node (.node (.node .nil (some g302) .nil) (some g174) .nil) (some g110) (.node (.node .nil (some g366) .nil) (some g238) .nil))) (some g30) (.node (.node (.node (.node .nil (some g286) .nil) (some g158) (.node .nil (some g414) .nil)) (some g94) (.node (.node .nil (some g350) .nil) (some g222) .nil)) (some g62) (.node (.node (.node .nil (some g318) .nil) (some g190) (.node .nil (some g446) .nil)) (some g126) (.node (.node .nil (some g382) .nil) (some g254) .nil)))))))
noncomputable def ctx : Ctx := ⟨types, funs, meths, eqs, idents, fun _ => none⟩
theorem funsIn : Tree.All (fun f (fi : FI) => Tryz.prog.funcs[f]? = some fi.fn) 1 0 funs :=
  Tree.all_none (Tree.all_none (Tree.all_some Tryz.func3 (Tree.all_some Tryz.func7 (Tree.all_some Tryz.func15 (Tree.all_some Tryz.func31 (Tree.all_some Tryz.func63 (Tree.all_some Tryz.func127 (Tree.all_some Tryz.func255 Tree.all_nil Tree.all_nil) (Tree.all_some Tryz.func383 Tree.all_nil Tree.all_nil)) (Tree.all_some Tryz.func191 (Tree.all_some Tryz.func319 Tree.all_nil Tree.all_nil) (Tree.all_some Tryz.func447 Tree.all_nil Tree.all_nil))) (Tree.all_some Tryz.func95 (Tree.all_some Tryz.func159 (Tree.all_some Tryz.func287 Tree.all_nil Tree.all_nil) (Tree.all_some Tryz.func415 Tree.all_nil Tree.all_nil)) (Tree.all_some Tryz.func223 (Tree.all_some Tryz.func351 Tree.all_nil Tree.all_nil) Tree.all_nil))) (Tree.all_some Tryz.func47 (Tree.all_some Tryz.func79 (Tree.all_some Tryz.func143 (Tree.all_some Tryz.func271 Tree.all_nil Tree.all_nil) (Tree.all_some Tryz.func399 Tree.all_nil Tree.all_nil)) (Tree.all_some Tryz.func207 (Tree.all_some Tryz.func335 Tree.all_nil Tree.all_nil) Tree.all_nil)) (Tree.all_some Tryz.func111 (Tree.all_some Tryz.func175 (Tree.all_some Tryz.func303 Tree.all_nil Tree.all_nil) Tree.all_nil) (Tree.all_some Tryz.func239 (Tree.all_some Tryz.func367 Tree.all_nil Tree.all_nil) Tree.all_nil)))) (Tree.all_some Tryz.func23 (Tree.all_some Tryz.func39 (Tree.all_some Tryz.func71 (Tree.all_some Tryz.func135 (Tree.all_some Tryz.func263 Tree.all_nil Tree.all_nil) (Tree.all_some Tryz.func391 Tree.all_nil Tree.all_nil)) (Tree.all_some Tryz.func199 (Tree.all_some Tryz.func327 Tree.all_nil Tree.all_nil) Tree.all_nil)) (Tree.all_some Tryz.func103 (Tree.all_some Tryz.func167 (Tree.all_some Tryz.func295 Tree.all_nil Tree.all_nil) (Tree.all_some Tryz.func423 Tree.all_nil Tree.all_nil)) (Tree.all_some Tryz.func231 (Tree.all_some Tryz.func359 Tree.all_nil Tree.all_nil) Tree.all_nil))) (Tree.all_some Tryz.func55 (Tree.all_some Tryz.func87 (Tree.all_some Tryz.func151 (Tree.all_some Tryz.func279 Tree.all_nil Tree.all_nil) (Tree.all_some Tryz.func407 Tree.all_nil Tree.all_nil)) (Tree.all_some Tryz.func215 (Tree.all_some Tryz.func343 Tree.all_nil Tree.all_nil) Tree.all_nil)) (Tree.all_some Tryz.func119 (Tree.all_some Tryz.func183 (Tree.all_some Tryz.func311 Tree.all_nil Tree.all_nil) Tree.all_nil) (Tree.all_some Tryz.func247 (Tree.all_some Tryz.func375 Tree.all_nil Tree.all_nil) Tree.all_nil))))) (Tree.all_some Tryz.func11 (Tree.all_some Tryz.func19 (Tree.all_some Tryz.func35 (Tree.all_some Tryz.func67 (Tree.all_some Tryz.func131 (Tree.all_some Tryz.func259 Tree.all_nil Tree.all_nil) (Tree.all_some Tryz.func387 Tree.all_nil Tree.all_nil)) (Tree.all_some Tryz.func195 (Tree.all_some Tryz.func323 Tree.all_nil Tree.all_nil) Tree.all_nil)) (Tree.all_some Tryz.func99 (Tree.all_some Tryz.func163 (Tree.all_some Tryz.func291 Tree.all_nil Tree.all_nil) (Tree.all_some Tryz.func419 Tree.all_nil Tree.all_nil)) (Tree.all_some Tryz.func227 (Tree.all_some Tryz.func355 Tree.all_nil Tree.all_nil) Tree.all_nil))) (Tree.all_some Tryz.func51 (Tree.all_some Tryz.func83 (Tree.all_some Tryz.func147 (Tree.all_some Tryz.func275 Tree.all_nil Tree.all_nil) (Tree.all_some Tryz.func403 Tree.all_nil Tree.all_nil)) (Tree.all_some Tryz.func211 (Tree.all_some Tryz.func339 Tree.all_nil Tree.all_nil) Tree.all_nil)) (Tree.all_some Tryz.func115 (Tree.all_some Tryz.func179 (Tree.all_some Tryz.func307 Tree.all_nil Tree.all_nil) Tree.all_nil) (Tree.all_some Tryz.func243 (Tree.all_some Tryz.func371 Tree.all_nil Tree.all_nil) Tree.all_nil)))) (Tree.all_some Tryz.func27 (Tree.all_some Tryz.func43 (Tree.all_some Tryz.func75 (Tree.all_some Tryz.func139 (Tree.all_some Tryz.func267 Tree.all_nil Tree.all_nil) (Tree.all_some Tryz.func395 Tree.all_nil Tree.all_nil)) (Tree.all_some Tryz.func203 (Tree.all_some Tryz.func331 Tree.all_nil Tree.all_nil) Tree.all_nil)) (Tree.all_some Tryz.func107 (Tree.all_some Tryz.func171 (Tree.all_some Tryz.func299 Tree.all_nil Tree.all_nil) (Tree.all_some Tryz.func427 Tree.all_nil Tree.all_nil)) (Tree.all_some Tryz.func235 (Tree.all_some Tryz.func363 Tree.all_nil Tree.all_nil) Tree.all_nil))) (Tree.all_some Tryz.func59 (Tree.all_some Tryz.func91 (Tree.all_some Tryz.func155 (Tree.all_some Tryz.func283 Tree.all_nil Tree.all_nil) (Tree.all_some Tryz.func411 Tree.all_nil Tree.all_nil)) (Tree.all_some Tryz.func219 (Tree.all_some Tryz.func347 Tree.all_nil Tree.all_nil) Tree.all_nil)) (Tree.all_some Tryz.func123 (Tree.all_some Tryz.func187 (Tree.all_some Tryz.func315 Tree.all_nil Tree.all_nil) (Tree.all_some Tryz.func443 Tree.all_nil Tree.all_nil)) (Tree.all_some Tryz.func251 (Tree.all_some Tryz.func379 Tree.all_nil Tree.all_nil) Tree.all_nil)))))) (Tree.all_some Tryz.func5 (Tree.all_some Tryz.func9 (Tree.all_some Tryz.func17 (Tree.all_some Tryz.func33 (Tree.all_some Tryz.func65 (Tree.all_some Tryz.func129 (Tree.all_some Tryz.func257 Tree.all_nil Tree.all_nil) (Tree.all_some Tryz.func385 Tree.all_nil Tree.all_nil)) (Tree.all_some Tryz.func193 (Tree.all_some Tryz.func321 Tree.all_nil Tree.all_nil) (Tree.all_some Tryz.func449 Tree.all_nil Tree.all_nil))) (Tree.all_some Tryz.func97 (Tree.all_some Tryz.func161 (Tree.all_some Tryz.func289 Tree.all_nil Tree.all_nil) (Tree.all_some Tryz.func417 Tree.all_nil Tree.all_nil)) (Tree.all_some Tryz.func225 (Tree.all_some Tryz.func353 Tree.all_nil Tree.all_nil) Tree.all_nil))) (Tree.all_some Tryz.func49 (Tree.all_some Tryz.func81 (Tree.all_some Tryz.func145 Tree.all_nil (Tree.all_some Tryz.func401 Tree.all_nil Tree.all_nil)) (Tree.all_some Tryz.func209 (Tree.all_some Tryz.func337 Tree.all_nil Tree.all_nil) Tree.all_nil)) (Tree.all_some Tryz.func113 (Tree.all_some Tryz.func177 (Tree.all_some Tryz.func305 Tree.all_nil Tree.all_nil) Tree.all_nil) (Tree.all_some Tryz.func241 (Tree.all_some Tryz.func369 Tree.all_nil Tree.all_nil) Tree.all_nil)))) (Tree.all_some Tryz.func25 (Tree.all_some Tryz.func41 (Tree.all_some Tryz.func73 (Tree.all_some Tryz.func137 (Tree.all_some Tryz.func265 Tree.all_nil Tree.all_nil) (Tree.all_some Tryz.func393 Tree.all_nil Tree.all_nil)) (Tree.all_some Tryz.func201 (Tree.all_some Tryz.func329 Tree.all_nil Tree.all_nil) Tree.all_nil)) (Tree.all_some Tryz.func105 (Tree.all_some Tryz.func169 Tree.all_nil (Tree.all_some Tryz.func425 Tree.all_nil Tree.all_nil)) (Tree.all_some Tryz.func233 (Tree.all_some Tryz.func361 Tree.all_nil Tree.all_nil) Tree.all_nil))) (Tree.all_some Tryz.func57 (Tree.all_some Tryz.func89 (Tree.all_some Tryz.func153 (Tree.all_some Tryz.func281 Tree.all_nil Tree.all_nil) (Tree.all_some Tryz.func409 Tree.all_nil Tree.all_nil)) (Tree.all_some Tryz.func217 (Tree.all_some Tryz.func345 Tree.all_nil Tree.all_nil) Tree.all_nil)) (Tree.all_some Tryz.func121 (Tree.all_some Tryz.func185 (Tree.all_some Tryz.func313 Tree.all_nil Tree.all_nil) Tree.all_nil) (Tree.all_some Tryz.func249 (Tree.all_some Tryz.func377 Tree.all_nil Tree.all_nil) Tree.all_nil))))) (Tree.all_some Tryz.func13 (Tree.all_some Tryz.func21 (Tree.all_some Tryz.func37 (Tree.all_some Tryz.func69 (Tree.all_some Tryz.func133 (Tree.all_some Tryz.func261 Tree.all_nil Tree.all_nil) (Tree.all_some Tryz.func389 Tree.all_nil Tree.all_nil)) (Tree.all_some Tryz.func197 (Tree.all_some Tryz.func325 Tree.all_nil Tree.all_nil) (Tree.all_some Tryz.func453 Tree.all_nil Tree.all_nil))) (Tree.all_some Tryz.func101 (Tree.all_some Tryz.func165 (Tree.all_some Tryz.func293 Tree.all_nil Tree.all_nil) (Tree.all_some Tryz.func421 Tree.all_nil Tree.all_nil)) (Tree.all_some Tryz.func229 (Tree.all_some Tryz.func357 Tree.all_nil Tree.all_nil) Tree.all_nil))) (Tree.all_some Tryz.func53 (Tree.all_some Tryz.func85 (Tree.all_some Tryz.func149 (Tree.all_some Tryz.func277 Tree.all_nil Tree.all_nil) (Tree.all_some Tryz.func405 Tree.all_nil Tree.all_nil)) (Tree.all_some Tryz.func213 (Tree.all_some Tryz.func341 Tree.all_nil Tree.all_nil) Tree.all_nil)) (Tree.all_some Tryz.func117 (Tree.all_some Tryz.func181 (Tree.all_some Tryz.func309 Tree.all_nil Tree.all_nil) Tree.all_nil) (Tree.all_some Tryz.func245 (Tree.all_some Tryz.func373 Tree.all_nil Tree.all_nil) Tree.all_nil)))) (Tree.all_some Tryz.func29 (Tree.all_some Tryz.func45 (Tree.all_some Tryz.func77 (Tree.all_some Tryz.func141 (Tree.all_some Tryz.func269 Tree.all_nil Tree.all_nil) (Tree.all_some Tryz.func397 Tree.all_nil Tree.all_nil)) (Tree.all_some Tryz.func205 (Tree.all_some Tryz.func333 Tree.all_nil Tree.all_nil) Tree.all_nil)) (Tree.all_some Tryz.func109 (Tree.all_some Tryz.func173 (Tree.all_some Tryz.func301 Tree.all_nil Tree.all_nil) Tree.all_nil) (Tree.all_some Tryz.func237 (Tree.all_some Tryz.func365 Tree.all_nil Tree.all_nil) Tree.all_nil))) (Tree.all_some Tryz.func61 (Tree.all_some Tryz.func93 (Tree.all_some Tryz.func157 (Tree.all_some Tryz.func285 Tree.all_nil Tree.all_nil) (Tree.all_some Tryz.func413 Tree.all_nil Tree.all_nil)) (Tree.all_some Tryz.func221 (Tree.all_some Tryz.func349 Tree.all_nil Tree.all_nil) Tree.all_nil)) (Tree.all_some Tryz.func125 (Tree.all_some Tryz.func189 (Tree.all_some Tryz.func317 Tree.all_nil Tree.all_nil) (Tree.all_some Tryz.func445 Tree.all_nil Tree.all_nil)) (Tree.all_some Tryz.func253 (Tree.all_some Tryz.func381 Tree.all_nil Tree.all_nil) Tree.all_nil))))))) (Tree.all_some Tryz.func2 (Tree.all_some Tryz.func4 (Tree.all_some Tryz.func8 (Tree.all_some Tryz.func16 (Tree.all_some Tryz.func32 (Tree.all_some Tryz.func64 (Tree.all_some Tryz.func128 (Tree.all_some Tryz.func256 Tree.all_nil Tree.all_nil) (Tree.all_some Tryz.func384 Tree.all_nil Tree.all_nil)) (Tree.all_some Tryz.func192 (Tree.all_some Tryz.func320 Tree.all_nil Tree.all_nil) (Tree.all_some Tryz.func448 Tree.all_nil Tree.all_nil))) (Tree.all_some Tryz.func96 (Tree.all_some Tryz.func160 (Tree.all_some Tryz.func288 Tree.all_nil Tree.all_nil) (Tree.all_some Tryz.func416 Tree.all_nil Tree.all_nil)) (Tree.all_some Tryz.func224 (Tree.all_some Tryz.func352 Tree.all_nil Tree.all_nil) Tree.all_nil))) (Tree.all_some Tryz.func48 (Tree.all_some Tryz.func80 (Tree.all_some Tryz.func144 (Tree.all_some Tryz.func272 Tree.all_nil Tree.all_nil) (Tree.all_some Tryz.func400 Tree.all_nil Tree.all_nil)) (Tree.all_some Tryz.func208 (Tree.all_some Tryz.func336 Tree.all_nil Tree.all_nil) Tree.all_nil)) (Tree.all_some Tryz.func112 (Tree.all_some Tryz.func176 (Tree.all_some Tryz.func304 Tree.all_nil Tree.all_nil) Tree.all_nil) (Tree.all_some Tryz.func240 (Tree.all_some Tryz.func368 Tree.all_nil Tree.all_nil) Tree.all_nil)))) (Tree.all_some Tryz.func24 (Tree.all_some Tryz.func40 (Tree.all_some Tryz.func72 (Tree.all_some Tryz.func136 (Tree.all_some Tryz.func264 Tree.all_nil Tree.all_nil) (Tree.all_some Tryz.func392 Tree.all_nil Tree.all_nil)) (Tree.all_some Tryz.func200 (Tree.all_some Tryz.func328 Tree.all_nil Tree.all_nil) Tree.all_nil)) (Tree.all_some Tryz.func104 (Tree.all_some Tryz.func168 (Tree.all_some Tryz.func296 Tree.all_nil Tree.all_nil) (Tree.all_some Tryz.func424 Tree.all_nil Tree.all_nil)) (Tree.all_some Tryz.func232 (Tree.all_some Tryz.func360 Tree.all_nil Tree.all_nil) Tree.all_nil))) (Tree.all_some Tryz.func56 (Tree.all_some Tryz.func88 (Tree.all_some Tryz.func152 (Tree.all_some Tryz.func280 Tree.all_nil Tree.all_nil) (Tree.all_some Tryz.func408 Tree.all_nil Tree.all_nil)) (Tree.all_some Tryz.func216 (Tree.all_some Tryz.func344 Tree.all_nil Tree.all_nil) Tree.all_nil)) (Tree.all_some Tryz.func120 (Tree.all_some Tryz.func184 (Tree.all_some Tryz.func312 Tree.all_nil Tree.all_nil) Tree.all_nil) (Tree.all_some Tryz.func248 (Tree.all_some Tryz.func376 Tree.all_nil Tree.all_nil) Tree.all_nil))))) (Tree.all_some Tryz.func12 (Tree.all_some Tryz.func20 (Tree.all_some Tryz.func36 (Tree.all_some Tryz.func68 (Tree.all_some Tryz.func132 (Tree.all_some Tryz.func260 Tree.all_nil Tree.all_nil) (Tree.all_some Tryz.func388 Tree.all_nil Tree.all_nil)) (Tree.all_some Tryz.func196 (Tree.all_some Tryz.func324 Tree.all_nil Tree.all_nil) (Tree.all_some Tryz.func452 Tree.all_nil Tree.all_nil))) (Tree.all_some Tryz.func100 (Tree.all_some Tryz.func164 (Tree.all_some Tryz.func292 Tree.all_nil Tree.all_nil) (Tree.all_some Tryz.func420 Tree.all_nil Tree.all_nil)) (Tree.all_some Tryz.func228 (Tree.all_some Tryz.func356 Tree.all_nil Tree.all_nil) Tree.all_nil))) (Tree.all_some Tryz.func52 (Tree.all_some Tryz.func84 (Tree.all_some Tryz.func148 (Tree.all_some Tryz.func276 Tree.all_nil Tree.all_nil) (Tree.all_some Tryz.func404 Tree.all_nil Tree.all_nil)) (Tree.all_some Tryz.func212 (Tree.all_some Tryz.func340 Tree.all_nil Tree.all_nil) Tree.all_nil)) (Tree.all_some Tryz.func116 (Tree.all_some Tryz.func180 (Tree.all_some Tryz.func308 Tree.all_nil Tree.all_nil) Tree.all_nil) (Tree.all_some Tryz.func244 (Tree.all_some Tryz.func372 Tree.all_nil Tree.all_nil) Tree.all_nil)))) (Tree.all_some Tryz.func28 (Tree.all_some Tryz.func44 (Tree.all_some Tryz.func76 (Tree.all_some Tryz.func140 (Tree.all_some Tryz.func268 Tree.all_nil Tree.all_nil) (Tree.all_some Tryz.func396 Tree.all_nil Tree.all_nil)) (Tree.all_some Tryz.func204 (Tree.all_some Tryz.func332 Tree.all_nil Tree.all_nil) Tree.all_nil)) (Tree.all_some Tryz.func108 (Tree.all_some Tryz.func172 (Tree.all_some Tryz.func300 Tree.all_nil Tree.all_nil) Tree.all_nil) (Tree.all_some Tryz.func236 (Tree.all_some Tryz.func364 Tree.all_nil Tree.all_nil) Tree.all_nil))) (Tree.all_some Tryz.func60 (Tree.all_some Tryz.func92 (Tree.all_some Tryz.func156 (Tree.all_some Tryz.func284 Tree.all_nil Tree.all_nil) (Tree.all_some Tryz.func412 Tree.all_nil Tree.all_nil)) (Tree.all_some Tryz.func220 (Tree.all_some Tryz.func348 Tree.all_nil Tree.all_nil) Tree.all_nil)) (Tree.all_some Tryz.func124 (Tree.all_some Tryz.func188 (Tree.all_some Tryz.func316 Tree.all_nil Tree.all_nil) (Tree.all_some Tryz.func444 Tree.all_nil Tree.all_nil)) (Tree.all_some Tryz.func252 (Tree.all_some Tryz.func380 Tree.all_nil Tree.all_nil) Tree.all_nil)))))) (Tree.all_some Tryz.func6 (Tree.all_some Tryz.func10 (Tree.all_some Tryz.func18 (Tree.all_some Tryz.func34 (Tree.all_some Tryz.func66 (Tree.all_some Tryz.func130 (Tree.all_some Tryz.func258 Tree.all_nil Tree.all_nil) (Tree.all_some Tryz.func386 Tree.all_nil Tree.all_nil)) (Tree.all_some Tryz.func194 (Tree.all_some Tryz.func322 Tree.all_nil Tree.all_nil) Tree.all_nil)) (Tree.all_some Tryz.func98 (Tree.all_some Tryz.func162 (Tree.all_some Tryz.func290 Tree.all_nil Tree.all_nil) (Tree.all_some Tryz.func418 Tree.all_nil Tree.all_nil)) (Tree.all_some Tryz.func226 (Tree.all_some Tryz.func354 Tree.all_nil Tree.all_nil) Tree.all_nil))) (Tree.all_some Tryz.func50 (Tree.all_some Tryz.func82 (Tree.all_some Tryz.func146 (Tree.all_some Tryz.func274 Tree.all_nil Tree.all_nil) (Tree.all_some Tryz.func402 Tree.all_nil Tree.all_nil)) (Tree.all_some Tryz.func210 (Tree.all_some Tryz.func338 Tree.all_nil Tree.all_nil) Tree.all_nil)) (Tree.all_some Tryz.func114 (Tree.all_some Tryz.func178 (Tree.all_some Tryz.func306 Tree.all_nil Tree.all_nil) Tree.all_nil) (Tree.all_some Tryz.func242 (Tree.all_some Tryz.func370 Tree.all_nil Tree.all_nil) Tree.all_nil)))) (Tree.all_some Tryz.func26 (Tree.all_some Tryz.func42 (Tree.all_some Tryz.func74 (Tree.all_some Tryz.func138 (Tree.all_some Tryz.func266 Tree.all_nil Tree.all_nil) (Tree.all_some Tryz.func394 Tree.all_nil Tree.all_nil)) (Tree.all_some Tryz.func202 (Tree.all_some Tryz.func330 Tree.all_nil Tree.all_nil) Tree.all_nil)) (Tree.all_some Tryz.func106 (Tree.all_some Tryz.func170 (Tree.all_some Tryz.func298 Tree.all_nil Tree.all_nil) (Tree.all_some Tryz.func426 Tree.all_nil Tree.all_nil)) (Tree.all_some Tryz.func234 (Tree.all_some Tryz.func362 Tree.all_nil Tree.all_nil) Tree.all_nil))) (Tree.all_some Tryz.func58 (Tree.all_some Tryz.func90 (Tree.all_some Tryz.func154 (Tree.all_some Tryz.func282 Tree.all_nil Tree.all_nil) (Tree.all_some Tryz.func410 Tree.all_nil Tree.all_nil)) (Tree.all_some Tryz.func218 (Tree.all_some Tryz.func346 Tree.all_nil Tree.all_nil) Tree.all_nil)) (Tree.all_some Tryz.func122 (Tree.all_some Tryz.func186 (Tree.all_some Tryz.func314 Tree.all_nil Tree.all_nil) Tree.all_nil) (Tree.all_some Tryz.func250 (Tree.all_some Tryz.func378 Tree.all_nil Tree.all_nil) Tree.all_nil))))) (Tree.all_some Tryz.func14 (Tree.all_some Tryz.func22 (Tree.all_some Tryz.func38 (Tree.all_some Tryz.func70 (Tree.all_some Tryz.func134 (Tree.all_some Tryz.func262 Tree.all_nil Tree.all_nil) (Tree.all_some Tryz.func390 Tree.all_nil Tree.all_nil)) (Tree.all_some Tryz.func198 (Tree.all_some Tryz.func326 Tree.all_nil Tree.all_nil) Tree.all_nil)) (Tree.all_some Tryz.func102 (Tree.all_some Tryz.func166 (Tree.all_some Tryz.func294 Tree.all_nil Tree.all_nil) (Tree.all_some Tryz.func422 Tree.all_nil Tree.all_nil)) (Tree.all_some Tryz.func230 (Tree.all_some Tryz.func358 Tree.all_nil Tree.all_nil) Tree.all_nil))) (Tree.all_some Tryz.func54 (Tree.all_some Tryz.func86 (Tree.all_some Tryz.func150 (Tree.all_some Tryz.func278 Tree.all_nil Tree.all_nil) (Tree.all_some Tryz.func406 Tree.all_nil Tree.all_nil)) (Tree.all_some Tryz.func214 (Tree.all_some Tryz.func342 Tree.all_nil Tree.all_nil) Tree.all_nil)) (Tree.all_some Tryz.func118 (Tree.all_some Tryz.func182 (Tree.all_some Tryz.func310 Tree.all_nil Tree.all_nil) Tree.all_nil) (Tree.all_some Tryz.func246 (Tree.all_some Tryz.func374 Tree.all_nil Tree.all_nil) Tree.all_nil)))) (Tree.all_some Tryz.func30 (Tree.all_some Tryz.func46 (Tree.all_some Tryz.func78 (Tree.all_some Tryz.func142 (Tree.all_some Tryz.func270 Tree.all_nil Tree.all_nil) (Tree.all_some Tryz.func398 Tree.all_nil Tree.all_nil)) (Tree.all_some Tryz.func206 (Tree.all_some Tryz.func334 Tree.all_nil Tree.all_nil) Tree.all_nil)) (Tree.all_some Tryz.func110 (Tree.all_some Tryz.func174 (Tree.all_some Tryz.func302 Tree.all_nil Tree.all_nil) Tree.all_nil) (Tree.all_some Tryz.func238 (Tree.all_some Tryz.func366 Tree.all_nil Tree.all_nil) Tree.all_nil))) (Tree.all_some Tryz.func62 (Tree.all_some Tryz.func94 (Tree.all_some Tryz.func158 (Tree.all_some Tryz.func286 Tree.all_nil Tree.all_nil) (Tree.all_some Tryz.func414 Tree.all_nil Tree.all_nil)) (Tree.all_some Tryz.func222 (Tree.all_some Tryz.func350 Tree.all_nil Tree.all_nil) Tree.all_nil)) (Tree.all_some Tryz.func126 (Tree.all_some Tryz.func190 (Tree.all_some Tryz.func318 Tree.all_nil Tree.all_nil) (Tree.all_some Tryz.func446 Tree.all_nil Tree.all_nil)) (Tree.all_some Tryz.func254 (Tree.all_some Tryz.func382 Tree.all_nil Tree.all_nil) Tree.all_nil)))))))
theorem ok2 : fnIs ctx g2 = true := by kernel_rfl
theorem ok3 : fnIs ctx g3 = true := by kernel_rfl
theorem ok4 : fnIs ctx g4 = true := by kernel_rfl
theorem ok5 : fnIs ctx g5 = true := by kernel_rfl
theorem ok6 : fnIs ctx g6 = true := by kernel_rfl
theorem ok7 : fnIs ctx g7 = true := by kernel_rfl
theorem ok8 : fnIs ctx g8 = true := by kernel_rfl
theorem ok9 : fnIs ctx g9 = true := by kernel_rfl
theorem ok10 : fnIs ctx g10 = true := by kernel_rfl
theorem ok11 : fnIs ctx g11 = true := by kernel_rfl
theorem ok12 : fnIs ctx g12 = true := by kernel_rfl
theorem ok13 : fnIs ctx g13 = true := by kernel_rfl
theorem ok14 : fnIs ctx g14 = true := by kernel_rfl
theorem ok15 : fnIs ctx g15 = true := by kernel_rfl
theorem ok16 : fnIs ctx g16 = true := by kernel_rfl
theorem ok17 : fnIs ctx g17 = true := by kernel_rfl
theorem ok18 : fnIs ctx g18 = true := by kernel_rfl
theorem ok19 : fnIs ctx g19 = true := by kernel_rfl
theorem ok20 : fnIs ctx g20 = true := by kernel_rfl
theorem ok21 : fnIs ctx g21 = true := by kernel_rfl
theorem ok22 : fnIs ctx g22 = true := by kernel_rfl
theorem ok23 : fnIs ctx g23 = true := by kernel_rfl
theorem ok24 : fnIs ctx g24 = true := by kernel_rfl
theorem ok25 : fnIs ctx g25 = true := by kernel_rfl
theorem ok26 : fnIs ctx g26 = true := by kernel_rfl
theorem ok27 : fnIs ctx g27 = true := by kernel_rfl
theorem ok28 : fnIs ctx g28 = true := by kernel_rfl
theorem ok29 : fnIs ctx g29 = true := by kernel_rfl
theorem ok30 : fnIs ctx g30 = true := by kernel_rfl
theorem ok31 : fnIs ctx g31 = true := by kernel_rfl
theorem ok32 : fnIs ctx g32 = true := by kernel_rfl
theorem ok33 : fnIs ctx g33 = true := by kernel_rfl
theorem ok34 : fnIs ctx g34 = true := by kernel_rfl
theorem ok35 : fnIs ctx g35 = true := by kernel_rfl
theorem ok36 : fnIs ctx g36 = true := by kernel_rfl
theorem ok37 : fnIs ctx g37 = true := by kernel_rfl
theorem ok38 : fnIs ctx g38 = true := by kernel_rfl
theorem ok39 : fnIs ctx g39 = true := by kernel_rfl
theorem ok40 : fnIs ctx g40 = true := by kernel_rfl
theorem ok41 : fnIs ctx g41 = true := by kernel_rfl
theorem ok42 : fnIs ctx g42 = true := by kernel_rfl
theorem ok43 : fnIs ctx g43 = true := by kernel_rfl
theorem ok44 : fnIs ctx g44 = true := by kernel_rfl
theorem ok45 : fnIs ctx g45 = true := by kernel_rfl
theorem ok46 : fnIs ctx g46 = true := by kernel_rfl
theorem ok47 : fnIs ctx g47 = true := by kernel_rfl
theorem ok48 : fnIs ctx g48 = true := by kernel_rfl
theorem ok49 : fnIs ctx g49 = true := by kernel_rfl
theorem ok50 : fnIs ctx g50 = true := by kernel_rfl
theorem ok51 : fnIs ctx g51 = true := by kernel_rfl
theorem ok52 : fnIs ctx g52 = true := by kernel_rfl
theorem ok53 : fnIs ctx g53 = true := by kernel_rfl
theorem ok54 : fnIs ctx g54 = true := by kernel_rfl
theorem ok55 : fnIs ctx g55 = true := by kernel_rfl
theorem ok56 : fnIs ctx g56 = true := by kernel_rfl
theorem ok57 : fnIs ctx g57 = true := by kernel_rfl
theorem ok58 : fnIs ctx g58 = true := by kernel_rfl
theorem ok59 : fnIs ctx g59 = true := by kernel_rfl
theorem ok60 : fnIs ctx g60 = true := by kernel_rfl
theorem ok61 : fnIs ctx g61 = true := by kernel_rfl
theorem ok62 : fnIs ctx g62 = true := by kernel_rfl
theorem ok63 : fnIs ctx g63 = true := by kernel_rfl
theorem ok64 : fnIs ctx g64 = true := by kernel_rfl
theorem ok65 : fnIs ctx g65 = true := by kernel_rfl
theorem ok66 : fnIs ctx g66 = true := by kernel_rfl
theorem ok67 : fnIs ctx g67 = true := by kernel_rfl
theorem ok68 : fnIs ctx g68 = true := by kernel_rfl
theorem ok69 : fnIs ctx g69 = true := by kernel_rfl
theorem ok70 : fnIs ctx g70 = true := by kernel_rfl
theorem ok71 : fnIs ctx g71 = true := by kernel_rfl
theorem ok72 : fnIs ctx g72 = true := by kernel_rfl
theorem ok73 : fnIs ctx g73 = true := by kernel_rfl
theorem ok74 : fnIs ctx g74 = true := by kernel_rfl
theorem ok75 : fnIs ctx g75 = true := by kernel_rfl
theorem ok76 : fnIs ctx g76 = true := by kernel_rfl
theorem ok77 : fnIs ctx g77 = true := by kernel_rfl
theorem ok78 : fnIs ctx g78 = true := by kernel_rfl
theorem ok79 : fnIs ctx g79 = true := by kernel_rfl
theorem ok80 : fnIs ctx g80 = true := by kernel_rfl
theorem ok81 : fnIs ctx g81 = true := by kernel_rfl
theorem ok82 : fnIs ctx g82 = true := by kernel_rfl
theorem ok83 : fnIs ctx g83 = true := by kernel_rfl
theorem ok84 : fnIs ctx g84 = true := by kernel_rfl
theorem ok85 : fnIs ctx g85 = true := by kernel_rfl
theorem ok86 : fnIs ctx g86 = true := by kernel_rfl
theorem ok87 : fnIs ctx g87 = true := by kernel_rfl
theorem ok88 : fnIs ctx g88 = true := by kernel_rfl
theorem ok89 : fnIs ctx g89 = true := by kernel_rfl
theorem ok90 : fnIs ctx g90 = true := by kernel_rfl
theorem ok91 : fnIs ctx g91 = true := by kernel_rfl
theorem ok92 : fnIs ctx g92 = true := by kernel_rfl
theorem ok93 : fnIs ctx g93 = true := by kernel_rfl
theorem ok94 : fnIs ctx g94 = true := by kernel_rfl
theorem ok95 : fnIs ctx g95 = true := by kernel_rfl
theorem ok96 : fnIs ctx g96 = true := by kernel_rfl
theorem ok97 : fnIs ctx g97 = true := by kernel_rfl
theorem ok98 : fnIs ctx g98 = true := by kernel_rfl
theorem ok99 : fnIs ctx g99 = true := by kernel_rfl
theorem ok100 : fnIs ctx g100 = true := by kernel_rfl
theorem ok101 : fnIs ctx g101 = true := by kernel_rfl
theorem ok102 : fnIs ctx g102 = true := by kernel_rfl
theorem ok103 : fnIs ctx g103 = true := by kernel_rfl
theorem ok104 : fnIs ctx g104 = true := by kernel_rfl
theorem ok105 : fnIs ctx g105 = true := by kernel_rfl
theorem ok106 : fnIs ctx g106 = true := by kernel_rfl
theorem ok107 : fnIs ctx g107 = true := by kernel_rfl
theorem ok108 : fnIs ctx g108 = true := by kernel_rfl
theorem ok109 : fnIs ctx g109 = true := by kernel_rfl
theorem ok110 : fnIs ctx g110 = true := by kernel_rfl
theorem ok111 : fnIs ctx g111 = true := by kernel_rfl
theorem ok112 : fnIs ctx g112 = true := by kernel_rfl
theorem ok113 : fnIs ctx g113 = true := by kernel_rfl
theorem ok114 : fnIs ctx g114 = true := by kernel_rfl
theorem ok115 : fnIs ctx g115 = true := by kernel_rfl
theorem ok116 : fnIs ctx g116 = true := by kernel_rfl
theorem ok117 : fnIs ctx g117 = true := by kernel_rfl
theorem ok118 : fnIs ctx g118 = true := by kernel_rfl
theorem ok119 : fnIs ctx g119 = true := by kernel_rfl
theorem ok120 : fnIs ctx g120 = true := by kernel_rfl
theorem ok121 : fnIs ctx g121 = true := by kernel_rfl
theorem ok122 : fnIs ctx g122 = true := by kernel_rfl
theorem ok123 : fnIs ctx g123 = true := by kernel_rfl
theorem ok124 : fnIs ctx g124 = true := by kernel_rfl
theorem ok125 : fnIs ctx g125 = true := by kernel_rfl
theorem ok126 : fnIs ctx g126 = true := by kernel_rfl
theorem ok127 : fnIs ctx g127 = true := by kernel_rfl
theorem ok128 : fnIs ctx g128 = true := by kernel_rfl
theorem ok129 : fnIs ctx g129 = true := by kernel_rfl
theorem ok130 : fnIs ctx g130 = true := by kernel_rfl
theorem ok131 : fnIs ctx g131 = true := by kernel_rfl
theorem ok132 : fnIs ctx g132 = true := by kernel_rfl
theorem ok133 : fnIs ctx g133 = true := by kernel_rfl
theorem ok134 : fnIs ctx g134 = true := by kernel_rfl
theorem ok135 : fnIs ctx g135 = true := by kernel_rfl
theorem ok136 : fnIs ctx g136 = true := by kernel_rfl
theorem ok137 : fnIs ctx g137 = true := by kernel_rfl
theorem ok138 : fnIs ctx g138 = true := by kernel_rfl
theorem ok139 : fnIs ctx g139 = true := by kernel_rfl
theorem ok140 : fnIs ctx g140 = true := by kernel_rfl
theorem ok141 : fnIs ctx g141 = true := by kernel_rfl
theorem ok142 : fnIs ctx g142 = true := by kernel_rfl
theorem ok143 : fnIs ctx g143 = true := by kernel_rfl
theorem ok144 : fnIs ctx g144 = true := by kernel_rfl
theorem ok145 : fnIs ctx g145 = true := by kernel_rfl
theorem ok146 : fnIs ctx g146 = true := by kernel_rfl
theorem ok147 : fnIs ctx g147 = true := by kernel_rfl
theorem ok148 : fnIs ctx g148 = true := by kernel_rfl
theorem ok149 : fnIs ctx g149 = true := by kernel_rfl
theorem ok150 : fnIs ctx g150 = true := by kernel_rfl
theorem ok151 : fnIs ctx g151 = true := by kernel_rfl
theorem ok152 : fnIs ctx g152 = true := by kernel_rfl
theorem ok153 : fnIs ctx g153 = true := by kernel_rfl
theorem ok154 : fnIs ctx g154 = true := by kernel_rfl
theorem ok155 : fnIs ctx g155 = true := by kernel_rfl
theorem ok156 : fnIs ctx g156 = true := by kernel_rfl
theorem ok157 : fnIs ctx g157 = true := by kernel_rfl
theorem ok158 : fnIs ctx g158 = true := by kernel_rfl
theorem ok159 : fnIs ctx g159 = true := by kernel_rfl
theorem ok160 : fnIs ctx g160 = true := by kernel_rfl
theorem ok161 : fnIs ctx g161 = true := by kernel_rfl
theorem ok162 : fnIs ctx g162 = true := by kernel_rfl
theorem ok163 : fnIs ctx g163 = true := by kernel_rfl
theorem ok164 : fnIs ctx g164 = true := by kernel_rfl
theorem ok165 : fnIs ctx g165 = true := by kernel_rfl
theorem ok166 : fnIs ctx g166 = true := by kernel_rfl
theorem ok167 : fnIs ctx g167 = true := by kernel_rfl
theorem ok168 : fnIs ctx g168 = true := by kernel_rfl
theorem ok169 : fnIs ctx g169 = true := by kernel_rfl
theorem ok170 : fnIs ctx g170 = true := by kernel_rfl
theorem ok171 : fnIs ctx g171 = true := by kernel_rfl
theorem ok172 : fnIs ctx g172 = true := by kernel_rfl
theorem ok173 : fnIs ctx g173 = true := by kernel_rfl
theorem ok174 : fnIs ctx g174 = true := by kernel_rfl
theorem ok175 : fnIs ctx g175 = true := by kernel_rfl
theorem ok176 : fnIs ctx g176 = true := by kernel_rfl
theorem ok177 : fnIs ctx g177 = true := by kernel_rfl
theorem ok178 : fnIs ctx g178 = true := by kernel_rfl
theorem ok179 : fnIs ctx g179 = true := by kernel_rfl
theorem ok180 : fnIs ctx g180 = true := by kernel_rfl
theorem ok181 : fnIs ctx g181 = true := by kernel_rfl
theorem ok182 : fnIs ctx g182 = true := by kernel_rfl
theorem ok183 : fnIs ctx g183 = true := by kernel_rfl
theorem ok184 : fnIs ctx g184 = true := by kernel_rfl
theorem ok185 : fnIs ctx g185 = true := by kernel_rfl
theorem ok186 : fnIs ctx g186 = true := by kernel_rfl
theorem ok187 : fnIs ctx g187 = true := by kernel_rfl
theorem ok188 : fnIs ctx g188 = true := by kernel_rfl
theorem ok189 : fnIs ctx g189 = true := by kernel_rfl
theorem ok190 : fnIs ctx g190 = true := by kernel_rfl
theorem ok191 : fnIs ctx g191 = true := by kernel_rfl
theorem ok192 : fnIs ctx g192 = true := by kernel_rfl
theorem ok193 : fnIs ctx g193 = true := by kernel_rfl
theorem ok194 : fnIs ctx g194 = true := by kernel_rfl
theorem ok195 : fnIs ctx g195 = true := by kernel_rfl
theorem ok196 : fnIs ctx g196 = true := by kernel_rfl
theorem ok197 : fnIs ctx g197 = true := by kernel_rfl
theorem ok198 : fnIs ctx g198 = true := by kernel_rfl
theorem ok199 : fnIs ctx g199 = true := by kernel_rfl
theorem ok200 : fnIs ctx g200 = true := by kernel_rfl
theorem ok201 : fnIs ctx g201 = true := by kernel_rfl
theorem ok202 : fnIs ctx g202 = true := by kernel_rfl
theorem ok203 : fnIs ctx g203 = true := by kernel_rfl
theorem ok204 : fnIs ctx g204 = true := by kernel_rfl
theorem ok205 : fnIs ctx g205 = true := by kernel_rfl
theorem ok206 : fnIs ctx g206 = true := by kernel_rfl
theorem ok207 : fnIs ctx g207 = true := by kernel_rfl
theorem ok208 : fnIs ctx g208 = true := by kernel_rfl
theorem ok209 : fnIs ctx g209 = true := by kernel_rfl
theorem ok210 : fnIs ctx g210 = true := by kernel_rfl
theorem ok211 : fnIs ctx g211 = true := by kernel_rfl
theorem ok212 : fnIs ctx g212 = true := by kernel_rfl
theorem ok213 : fnIs ctx g213 = true := by kernel_rfl
theorem ok214 : fnIs ctx g214 = true := by kernel_rfl
theorem ok215 : fnIs ctx g215 = true := by kernel_rfl
theorem ok216 : fnIs ctx g216 = true := by kernel_rfl
theorem ok217 : fnIs ctx g217 = true := by kernel_rfl
theorem ok218 : fnIs ctx g218 = true := by kernel_rfl
theorem ok219 : fnIs ctx g219 = true := by kernel_rfl
theorem ok220 : fnIs ctx g220 = true := by kernel_rfl
theorem ok221 : fnIs ctx g221 = true := by kernel_rfl
theorem ok222 : fnIs ctx g222 = true := by kernel_rfl
theorem ok223 : fnIs ctx g223 = true := by kernel_rfl
theorem ok224 : fnIs ctx g224 = true := by kernel_rfl
theorem ok225 : fnIs ctx g225 = true := by kernel_rfl
theorem ok226 : fnIs ctx g226 = true := by kernel_rfl
theorem ok227 : fnIs ctx g227 = true := by kernel_rfl
theorem ok228 : fnIs ctx g228 = true := by kernel_rfl
theorem ok229 : fnIs ctx g229 = true := by kernel_rfl
theorem ok230 : fnIs ctx g230 = true := by kernel_rfl
theorem ok231 : fnIs ctx g231 = true := by kernel_rfl
theorem ok232 : fnIs ctx g232 = true := by kernel_rfl
theorem ok233 : fnIs ctx g233 = true := by kernel_rfl
theorem ok234 : fnIs ctx g234 = true := by kernel_rfl
theorem ok235 : fnIs ctx g235 = true := by kernel_rfl
theorem ok236 : fnIs ctx g236 = true := by kernel_rfl
theorem ok237 : fnIs ctx g237 = true := by kernel_rfl
theorem ok238 : fnIs ctx g238 = true := by kernel_rfl
theorem ok239 : fnIs ctx g239 = true := by kernel_rfl
theorem ok240 : fnIs ctx g240 = true := by kernel_rfl
theorem ok241 : fnIs ctx g241 = true := by kernel_rfl
theorem ok242 : fnIs ctx g242 = true := by kernel_rfl
theorem ok243 : fnIs ctx g243 = true := by kernel_rfl
theorem ok244 : fnIs ctx g244 = true := by kernel_rfl
theorem ok245 : fnIs ctx g245 = true := by kernel_rfl
theorem ok246 : fnIs ctx g246 = true := by kernel_rfl
theorem ok247 : fnIs ctx g247 = true := by kernel_rfl
theorem ok248 : fnIs ctx g248 = true := by kernel_rfl
theorem ok249 : fnIs ctx g249 = true := by kernel_rfl
theorem ok250 : fnIs ctx g250 = true := by kernel_rfl
theorem ok251 : fnIs ctx g251 = true := by kernel_rfl
theorem ok252 : fnIs ctx g252 = true := by kernel_rfl
theorem ok253 : fnIs ctx g253 = true := by kernel_rfl
theorem ok254 : fnIs ctx g254 = true := by kernel_rfl
theorem ok255 : fnIs ctx g255 = true := by kernel_rfl
theorem ok256 : fnIs ctx g256 = true := by kernel_rfl
theorem ok257 : fnIs ctx g257 = true := by kernel_rfl
theorem ok258 : fnIs ctx g258 = true := by kernel_rfl
theorem ok259 : fnIs ctx g259 = true := by kernel_rfl
theorem ok260 : fnIs ctx g260 = true := by kernel_rfl
theorem ok261 : fnIs ctx g261 = true := by kernel_rfl
theorem ok262 : fnIs ctx g262 = true := by kernel_rfl
theorem ok263 : fnIs ctx g263 = true := by kernel_rfl
theorem ok264 : fnIs ctx g264 = true := by kernel_rfl
theorem ok265 : fnIs ctx g265 = true := by kernel_rfl
theorem ok266 : fnIs ctx g266 = true := by kernel_rfl
theorem ok267 : fnIs ctx g267 = true := by kernel_rfl
theorem ok268 : fnIs ctx g268 = true := by kernel_rfl
theorem ok269 : fnIs ctx g269 = true := by kernel_rfl
theorem ok270 : fnIs ctx g270 = true := by kernel_rfl
theorem ok271 : fnIs ctx g271 = true := by kernel_rfl
theorem ok272 : fnIs ctx g272 = true := by kernel_rfl
theorem ok274 : fnIs ctx g274 = true := by kernel_rfl
theorem ok275 : fnIs ctx g275 = true := by kernel_rfl
theorem ok276 : fnIs ctx g276 = true := by kernel_rfl
theorem ok277 : fnIs ctx g277 = true := by kernel_rfl
theorem ok278 : fnIs ctx g278 = true := by kernel_rfl
theorem ok279 : fnIs ctx g279 = true := by kernel_rfl
theorem ok280 : fnIs ctx g280 = true := by kernel_rfl
theorem ok281 : fnIs ctx g281 = true := by kernel_rfl
theorem ok282 : fnIs ctx g282 = true := by kernel_rfl
theorem ok283 : fnIs ctx g283 = true := by kernel_rfl
theorem ok284 : fnIs ctx g284 = true := by kernel_rfl
theorem ok285 : fnIs ctx g285 = true := by kernel_rfl
theorem ok286 : fnIs ctx g286 = true := by kernel_rfl
theorem ok287 : fnIs ctx g287 = true := by kernel_rfl
theorem ok288 : fnIs ctx g288 = true := by kernel_rfl
theorem ok289 : fnIs ctx g289 = true := by kernel_rfl
theorem ok290 : fnIs ctx g290 = true := by kernel_rfl
theorem ok291 : fnIs ctx g291 = true := by kernel_rfl
theorem ok292 : fnIs ctx g292 = true := by kernel_rfl
theorem ok293 : fnIs ctx g293 = true := by kernel_rfl
theorem ok294 : fnIs ctx g294 = true := by kernel_rfl
theorem ok295 : fnIs ctx g295 = true := by kernel_rfl
theorem ok296 : fnIs ctx g296 = true := by kernel_rfl
theorem ok298 : fnIs ctx g298 = true := by kernel_rfl
theorem ok299 : fnIs ctx g299 = true := by kernel_rfl
theorem ok300 : fnIs ctx g300 = true := by kernel_rfl
theorem ok301 : fnIs ctx g301 = true := by kernel_rfl
theorem ok302 : fnIs ctx g302 = true := by kernel_rfl
theorem ok303 : fnIs ctx g303 = true := by kernel_rfl
theorem ok304 : fnIs ctx g304 = true := by kernel_rfl
theorem ok305 : fnIs ctx g305 = true := by kernel_rfl
theorem ok306 : fnIs ctx g306 = true := by kernel_rfl
theorem ok307 : fnIs ctx g307 = true := by kernel_rfl
theorem ok308 : fnIs ctx g308 = true := by kernel_rfl
theorem ok309 : fnIs ctx g309 = true := by kernel_rfl
theorem ok310 : fnIs ctx g310 = true := by kernel_rfl
theorem ok311 : fnIs ctx g311 = true := by kernel_rfl
theorem ok312 : fnIs ctx g312 = true := by kernel_rfl
theorem ok313 : fnIs ctx g313 = true := by kernel_rfl
theorem ok314 : fnIs ctx g314 = true := by kernel_rfl
theorem ok315 : fnIs ctx g315 = true := by kernel_rfl
theorem ok316 : fnIs ctx g316 = true := by kernel_rfl
theorem ok317 : fnIs ctx g317 = true := by kernel_rfl
theorem ok318 : fnIs ctx g318 = true := by kernel_rfl
theorem ok319 : fnIs ctx g319 = true := by kernel_rfl
theorem ok320 : fnIs ctx g320 = true := by kernel_rfl
theorem ok321 : fnIs ctx g321 = true := by kernel_rfl
theorem ok322 : fnIs ctx g322 = true := by kernel_rfl
theorem ok323 : fnIs ctx g323 = true := by kernel_rfl
theorem ok324 : fnIs ctx g324 = true := by kernel_rfl
theorem ok325 : fnIs ctx g325 = true := by kernel_rfl
theorem ok326 : fnIs ctx g326 = true := by kernel_rfl
theorem ok327 : fnIs ctx g327 = true := by kernel_rfl
theorem ok328 : fnIs ctx g328 = true := by kernel_rfl
theorem ok329 : fnIs ctx g329 = true := by kernel_rfl
theorem ok330 : fnIs ctx g330 = true := by kernel_rfl
theorem ok331 : fnIs ctx g331 = true := by kernel_rfl
theorem ok332 : fnIs ctx g332 = true := by kernel_rfl
theorem ok333 : fnIs ctx g333 = true := by kernel_rfl
theorem ok334 : fnIs ctx g334 = true := by kernel_rfl
theorem ok335 : fnIs ctx g335 = true := by kernel_rfl
theorem ok336 : fnIs ctx g336 = true := by kernel_rfl
theorem ok337 : fnIs ctx g337 = true := by kernel_rfl
theorem ok338 : fnIs ctx g338 = true := by kernel_rfl
theorem ok339 : fnIs ctx g339 = true := by kernel_rfl
theorem ok340 : fnIs ctx g340 = true := by kernel_rfl
theorem ok341 : fnIs ctx g341 = true := by kernel_rfl
theorem ok342 : fnIs ctx g342 = true := by kernel_rfl
theorem ok343 : fnIs ctx g343 = true := by kernel_rfl
theorem ok344 : fnIs ctx g344 = true := by kernel_rfl
theorem ok345 : fnIs ctx g345 = true := by kernel_rfl
theorem ok346 : fnIs ctx g346 = true := by kernel_rfl
theorem ok347 : fnIs ctx g347 = true := by kernel_rfl
theorem ok348 : fnIs ctx g348 = true := by kernel_rfl
theorem ok349 : fnIs ctx g349 = true := by kernel_rfl
theorem ok350 : fnIs ctx g350 = true := by kernel_rfl
theorem ok351 : fnIs ctx g351 = true := by kernel_rfl
theorem ok352 : fnIs ctx g352 = true := by kernel_rfl
theorem ok353 : fnIs ctx g353 = true := by kernel_rfl
theorem ok354 : fnIs ctx g354 = true := by kernel_rfl
theorem ok355 : fnIs ctx g355 = true := by kernel_rfl
theorem ok356 : fnIs ctx g356 = true := by kernel_rfl
theorem ok357 : fnIs ctx g357 = true := by kernel_rfl
theorem ok358 : fnIs ctx g358 = true := by kernel_rfl
theorem ok359 : fnIs ctx g359 = true := by kernel_rfl
theorem ok360 : fnIs ctx g360 = true := by kernel_rfl
theorem ok361 : fnIs ctx g361 = true := by kernel_rfl
theorem ok362 : fnIs ctx g362 = true := by kernel_rfl
theorem ok363 : fnIs ctx g363 = true := by kernel_rfl
theorem ok364 : fnIs ctx g364 = true := by kernel_rfl
theorem ok365 : fnIs ctx g365 = true := by kernel_rfl
theorem ok366 : fnIs ctx g366 = true := by kernel_rfl
theorem ok367 : fnIs ctx g367 = true := by kernel_rfl
theorem ok368 : fnIs ctx g368 = true := by kernel_rfl
theorem ok369 : fnIs ctx g369 = true := by kernel_rfl
theorem ok370 : fnIs ctx g370 = true := by kernel_rfl
theorem ok371 : fnIs ctx g371 = true := by kernel_rfl
theorem ok372 : fnIs ctx g372 = true := by kernel_rfl
theorem ok373 : fnIs ctx g373 = true := by kernel_rfl
theorem ok374 : fnIs ctx g374 = true := by kernel_rfl
theorem ok375 : fnIs ctx g375 = true := by kernel_rfl
theorem ok376 : fnIs ctx g376 = true := by kernel_rfl
theorem ok377 : fnIs ctx g377 = true := by kernel_rfl
theorem ok378 : fnIs ctx g378 = true := by kernel_rfl
theorem ok379 : fnIs ctx g379 = true := by kernel_rfl
theorem ok380 : fnIs ctx g380 = true := by kernel_rfl
theorem ok381 : fnIs ctx g381 = true := by kernel_rfl
theorem ok382 : fnIs ctx g382 = true := by kernel_rfl
theorem ok383 : fnIs ctx g383 = true := by kernel_rfl
theorem ok384 : fnIs ctx g384 = true := by kernel_rfl
theorem ok385 : fnIs ctx g385 = true := by kernel_rfl
theorem ok386 : fnIs ctx g386 = true := by kernel_rfl
theorem ok387 : fnIs ctx g387 = true := by kernel_rfl
theorem ok388 : fnIs ctx g388 = true := by kernel_rfl
theorem ok389 : fnIs ctx g389 = true := by kernel_rfl
theorem ok390 : fnIs ctx g390 = true := by kernel_rfl
theorem ok391 : fnIs ctx g391 = true := by kernel_rfl
theorem ok392 : fnIs ctx g392 = true := by kernel_rfl
theorem ok393 : fnIs ctx g393 = true := by kernel_rfl
theorem ok394 : fnIs ctx g394 = true := by kernel_rfl
theorem ok395 : fnIs ctx g395 = true := by kernel_rfl
theorem ok396 : fnIs ctx g396 = true := by kernel_rfl
theorem ok397 : fnIs ctx g397 = true := by kernel_rfl
theorem ok398 : fnIs ctx g398 = true := by kernel_rfl
theorem ok399 : fnIs ctx g399 = true := by kernel_rfl
theorem ok400 : fnIs ctx g400 = true := by kernel_rfl
theorem ok401 : fnIs ctx g401 = true := by kernel_rfl
theorem ok402 : fnIs ctx g402 = true := by kernel_rfl
theorem ok403 : fnIs ctx g403 = true := by kernel_rfl
theorem ok404 : fnIs ctx g404 = true := by kernel_rfl
theorem ok405 : fnIs ctx g405 = true := by kernel_rfl
theorem ok406 : fnIs ctx g406 = true := by kernel_rfl
theorem ok407 : fnIs ctx g407 = true := by kernel_rfl
theorem ok408 : fnIs ctx g408 = true := by kernel_rfl
theorem ok409 : fnIs ctx g409 = true := by kernel_rfl
theorem ok410 : fnIs ctx g410 = true := by kernel_rfl
theorem ok411 : fnIs ctx g411 = true := by kernel_rfl
theorem ok412 : fnIs ctx g412 = true := by kernel_rfl
theorem ok413 : fnIs ctx g413 = true := by kernel_rfl
theorem ok414 : fnIs ctx g414 = true := by kernel_rfl
theorem ok415 : fnIs ctx g415 = true := by kernel_rfl
theorem ok416 : fnIs ctx g416 = true := by kernel_rfl
theorem ok417 : fnIs ctx g417 = true := by kernel_rfl
theorem ok418 : fnIs ctx g418 = true := by kernel_rfl
theorem ok419 : fnIs ctx g419 = true := by kernel_rfl
theorem ok420 : fnIs ctx g420 = true := by kernel_rfl
theorem ok421 : fnIs ctx g421 = true := by kernel_rfl
theorem ok422 : fnIs ctx g422 = true := by kernel_rfl
theorem ok423 : fnIs ctx g423 = true := by kernel_rfl
theorem ok424 : fnIs ctx g424 = true := by kernel_rfl
theorem ok425 : fnIs ctx g425 = true := by kernel_rfl
theorem ok426 : fnIs ctx g426 = true := by kernel_rfl
theorem ok427 : fnIs ctx g427 = true := by kernel_rfl
theorem ok443 : fnIs ctx g443 = true := by kernel_rfl
theorem ok444 : fnIs ctx g444 = true := by kernel_rfl
theorem ok445 : fnIs ctx g445 = true := by kernel_rfl
theorem ok446 : fnIs ctx g446 = true := by kernel_rfl
theorem ok447 : fnIs ctx g447 = true := by kernel_rfl
theorem ok448 : fnIs ctx g448 = true := by kernel_rfl
theorem ok449 : fnIs ctx g449 = true := by kernel_rfl
theorem ok452 : fnIs ctx g452 = true := by kernel_rfl
theorem ok453 : fnIs ctx g453 = true := by kernel_rfl
theorem funsOk : Tree.All (fun _ fi => fnIs ctx fi = true) 1 0 funs :=
  Tree.all_none (Tree.all_none (Tree.all_some ok3 (Tree.all_some ok7 (Tree.all_some ok15 (Tree.all_some ok31 (Tree.all_some ok63 (Tree.all_some ok127 (Tree.all_some ok255 Tree.all_nil Tree.all_nil) (Tree.all_some ok383 Tree.all_nil Tree.all_nil)) (Tree.all_some ok191 (Tree.all_some ok319 Tree.all_nil Tree.all_nil) (Tree.all_some ok447 Tree.all_nil Tree.all_nil))) (Tree.all_some ok95 (Tree.all_some ok159 (Tree.all_some ok287 Tree.all_nil Tree.all_nil) (Tree.all_some ok415 Tree.all_nil Tree.all_nil)) (Tree.all_some ok223 (Tree.all_some ok351 Tree.all_nil Tree.all_nil) Tree.all_nil))) (Tree.all_some ok47 (Tree.all_some ok79 (Tree.all_some ok143 (Tree.all_some ok271 Tree.all_nil Tree.all_nil) (Tree.all_some ok399 Tree.all_nil Tree.all_nil)) (Tree.all_some ok207 (Tree.all_some ok335 Tree.all_nil Tree.all_nil) Tree.all_nil)) (Tree.all_some ok111 (Tree.all_some ok175 (Tree.all_some ok303 Tree.all_nil Tree.all_nil) Tree.all_nil) (Tree.all_some ok239 (Tree.all_some ok367 Tree.all_nil Tree.all_nil) Tree.all_nil)))) (Tree.all_some ok23 (Tree.all_some ok39 (Tree.all_some ok71 (Tree.all_some ok135 (Tree.all_some ok263 Tree.all_nil Tree.all_nil) (Tree.all_some ok391 Tree.all_nil Tree.all_nil)) (Tree.all_some ok199 (Tree.all_some ok327 Tree.all_nil Tree.all_nil) Tree.all_nil)) (Tree.all_some ok103 (Tree.all_some ok167 (Tree.all_some ok295 Tree.all_nil Tree.all_nil) (Tree.all_some ok423 Tree.all_nil Tree.all_nil)) (Tree.all_some ok231 (Tree.all_some ok359 Tree.all_nil Tree.all_nil) Tree.all_nil))) (Tree.all_some ok55 (Tree.all_some ok87 (Tree.all_some ok151 (Tree.all_some ok279 Tree.all_nil Tree.all_nil) (Tree.all_some ok407 Tree.all_nil Tree.all_nil)) (Tree.all_some ok215 (Tree.all_some ok343 Tree.all_nil Tree.all_nil) Tree.all_nil)) (Tree.all_some ok119 (Tree.all_some ok183 (Tree.all_some ok311 Tree.all_nil Tree.all_nil) Tree.all_nil) (Tree.all_some ok247 (Tree.all_some ok375 Tree.all_nil Tree.all_nil) Tree.all_nil))))) (Tree.all_some ok11 (Tree.all_some ok19 (Tree.all_some ok35 (Tree.all_some ok67 (Tree.all_some ok131 (Tree.all_some ok259 Tree.all_nil Tree.all_nil) (Tree.all_some ok387 Tree.all_nil Tree.all_nil)) (Tree.all_some ok195 (Tree.all_some ok323 Tree.all_nil Tree.all_nil) Tree.all_nil)) (Tree.all_some ok99 (Tree.all_some ok163 (Tree.all_some ok291 Tree.all_nil Tree.all_nil) (Tree.all_some ok419 Tree.all_nil Tree.all_nil)) (Tree.all_some ok227 (Tree.all_some ok355 Tree.all_nil Tree.all_nil) Tree.all_nil))) (Tree.all_some ok51 (Tree.all_some ok83 (Tree.all_some ok147 (Tree.all_some ok275 Tree.all_nil Tree.all_nil) (Tree.all_some ok403 Tree.all_nil Tree.all_nil)) (Tree.all_some ok211 (Tree.all_some ok339 Tree.all_nil Tree.all_nil) Tree.all_nil)) (Tree.all_some ok115 (Tree.all_some ok179 (Tree.all_some ok307 Tree.all_nil Tree.all_nil) Tree.all_nil) (Tree.all_some ok243 (Tree.all_some ok371 Tree.all_nil Tree.all_nil) Tree.all_nil)))) (Tree.all_some ok27 (Tree.all_some ok43 (Tree.all_some ok75 (Tree.all_some ok139 (Tree.all_some ok267 Tree.all_nil Tree.all_nil) (Tree.all_some ok395 Tree.all_nil Tree.all_nil)) (Tree.all_some ok203 (Tree.all_some ok331 Tree.all_nil Tree.all_nil) Tree.all_nil)) (Tree.all_some ok107 (Tree.all_some ok171 (Tree.all_some ok299 Tree.all_nil Tree.all_nil) (Tree.all_some ok427 Tree.all_nil Tree.all_nil)) (Tree.all_some ok235 (Tree.all_some ok363 Tree.all_nil Tree.all_nil) Tree.all_nil))) (Tree.all_some ok59 (Tree.all_some ok91 (Tree.all_some ok155 (Tree.all_some ok283 Tree.all_nil Tree.all_nil) (Tree.all_some ok411 Tree.all_nil Tree.all_nil)) (Tree.all_some ok219 (Tree.all_some ok347 Tree.all_nil Tree.all_nil) Tree.all_nil)) (Tree.all_some ok123 (Tree.all_some ok187 (Tree.all_some ok315 Tree.all_nil Tree.all_nil) (Tree.all_some ok443 Tree.all_nil Tree.all_nil)) (Tree.all_some ok251 (Tree.all_some ok379 Tree.all_nil Tree.all_nil) Tree.all_nil)))))) (Tree.all_some ok5 (Tree.all_some ok9 (Tree.all_some ok17 (Tree.all_some ok33 (Tree.all_some ok65 (Tree.all_some ok129 (Tree.all_some ok257 Tree.all_nil Tree.all_nil) (Tree.all_some ok385 Tree.all_nil Tree.all_nil)) (Tree.all_some ok193 (Tree.all_some ok321 Tree.all_nil Tree.all_nil) (Tree.all_some ok449 Tree.all_nil Tree.all_nil))) (Tree.all_some ok97 (Tree.all_some ok161 (Tree.all_some ok289 Tree.all_nil Tree.all_nil) (Tree.all_some ok417 Tree.all_nil Tree.all_nil)) (Tree.all_some ok225 (Tree.all_some ok353 Tree.all_nil Tree.all_nil) Tree.all_nil))) (Tree.all_some ok49 (Tree.all_some ok81 (Tree.all_some ok145 Tree.all_nil (Tree.all_some ok401 Tree.all_nil Tree.all_nil)) (Tree.all_some ok209 (Tree.all_some ok337 Tree.all_nil Tree.all_nil) Tree.all_nil)) (Tree.all_some ok113 (Tree.all_some ok177 (Tree.all_some ok305 Tree.all_nil Tree.all_nil) Tree.all_nil) (Tree.all_some ok241 (Tree.all_some ok369 Tree.all_nil Tree.all_nil) Tree.all_nil)))) (Tree.all_some ok25 (Tree.all_some ok41 (Tree.all_some ok73 (Tree.all_some ok137 (Tree.all_some ok265 Tree.all_nil Tree.all_nil) (Tree.all_some ok393 Tree.all_nil Tree.all_nil)) (Tree.all_some ok201 (Tree.all_some ok329 Tree.all_nil Tree.all_nil) Tree.all_nil)) (Tree.all_some ok105 (Tree.all_some ok169 Tree.all_nil (Tree.all_some ok425 Tree.all_nil Tree.all_nil)) (Tree.all_some ok233 (Tree.all_some ok361 Tree.all_nil Tree.all_nil) Tree.all_nil))) (Tree.all_some ok57 (Tree.all_some ok89 (Tree.all_some ok153 (Tree.all_some ok281 Tree.all_nil Tree.all_nil) (Tree.all_some ok409 Tree.all_nil Tree.all_nil)) (Tree.all_some ok217 (Tree.all_some ok345 Tree.all_nil Tree.all_nil) Tree.all_nil)) (Tree.all_some ok121 (Tree.all_some ok185 (Tree.all_some ok313 Tree.all_nil Tree.all_nil) Tree.all_nil) (Tree.all_some ok249 (Tree.all_some ok377 Tree.all_nil Tree.all_nil) Tree.all_nil))))) (Tree.all_some ok13 (Tree.all_some ok21 (Tree.all_some ok37 (Tree.all_some ok69 (Tree.all_some ok133 (Tree.all_some ok261 Tree.all_nil Tree.all_nil) (Tree.all_some ok389 Tree.all_nil Tree.all_nil)) (Tree.all_some ok197 (Tree.all_some ok325 Tree.all_nil Tree.all_nil) (Tree.all_some ok453 Tree.all_nil Tree.all_nil))) (Tree.all_some ok101 (Tree.all_some ok165 (Tree.all_some ok293 Tree.all_nil Tree.all_nil) (Tree.all_some ok421 Tree.all_nil Tree.all_nil)) (Tree.all_some ok229 (Tree.all_some ok357 Tree.all_nil Tree.all_nil) Tree.all_nil))) (Tree.all_some ok53 (Tree.all_some ok85 (Tree.all_some ok149 (Tree.all_some ok277 Tree.all_nil Tree.all_nil) (Tree.all_some ok405 Tree.all_nil Tree.all_nil)) (Tree.all_some ok213 (Tree.all_some ok341 Tree.all_nil Tree.all_nil) Tree.all_nil)) (Tree.all_some ok117 (Tree.all_some ok181 (Tree.all_some ok309 Tree.all_nil Tree.all_nil) Tree.all_nil) (Tree.all_some ok245 (Tree.all_some ok373 Tree.all_nil Tree.all_nil) Tree.all_nil)))) (Tree.all_some ok29 (Tree.all_some ok45 (Tree.all_some ok77 (Tree.all_some ok141 (Tree.all_some ok269 Tree.all_nil Tree.all_nil) (Tree.all_some ok397 Tree.all_nil Tree.all_nil)) (Tree.all_some ok205 (Tree.all_some ok333 Tree.all_nil Tree.all_nil) Tree.all_nil)) (Tree.all_some ok109 (Tree.all_some ok173 (Tree.all_some ok301 Tree.all_nil Tree.all_nil) Tree.all_nil) (Tree.all_some ok237 (Tree.all_some ok365 Tree.all_nil Tree.all_nil) Tree.all_nil))) (Tree.all_some ok61 (Tree.all_some ok93 (Tree.all_some ok157 (Tree.all_some ok285 Tree.all_nil Tree.all_nil) (Tree.all_some ok413 Tree.all_nil Tree.all_nil)) (Tree.all_some ok221 (Tree.all_some ok349 Tree.all_nil Tree.all_nil) Tree.all_nil)) (Tree.all_some ok125 (Tree.all_some ok189 (Tree.all_some ok317 Tree.all_nil Tree.all_nil) (Tree.all_some ok445 Tree.all_nil Tree.all_nil)) (Tree.all_some ok253 (Tree.all_some ok381 Tree.all_nil Tree.all_nil) Tree.all_nil))))))) (Tree.all_some ok2 (Tree.all_some ok4 (Tree.all_some ok8 (Tree.all_some ok16 (Tree.all_some ok32 (Tree.all_some ok64 (Tree.all_some ok128 (Tree.all_some ok256 Tree.all_nil Tree.all_nil) (Tree.all_some ok384 Tree.all_nil Tree.all_nil)) (Tree.all_some ok192 (Tree.all_some ok320 Tree.all_nil Tree.all_nil) (Tree.all_some ok448 Tree.all_nil Tree.all_nil))) (Tree.all_some ok96 (Tree.all_some ok160 (Tree.all_some ok288 Tree.all_nil Tree.all_nil) (Tree.all_some ok416 Tree.all_nil Tree.all_nil)) (Tree.all_some ok224 (Tree.all_some ok352 Tree.all_nil Tree.all_nil) Tree.all_nil))) (Tree.all_some ok48 (Tree.all_some ok80 (Tree.all_some ok144 (Tree.all_some ok272 Tree.all_nil Tree.all_nil) (Tree.all_some ok400 Tree.all_nil Tree.all_nil)) (Tree.all_some ok208 (Tree.all_some ok336 Tree.all_nil Tree.all_nil) Tree.all_nil)) (Tree.all_some ok112 (Tree.all_some ok176 (Tree.all_some ok304 Tree.all_nil Tree.all_nil) Tree.all_nil) (Tree.all_some ok240 (Tree.all_some ok368 Tree.all_nil Tree.all_nil) Tree.all_nil)))) (Tree.all_some ok24 (Tree.all_some ok40 (Tree.all_some ok72 (Tree.all_some ok136 (Tree.all_some ok264 Tree.all_nil Tree.all_nil) (Tree.all_some ok392 Tree.all_nil Tree.all_nil)) (Tree.all_some ok200 (Tree.all_some ok328 Tree.all_nil Tree.all_nil) Tree.all_nil)) (Tree.all_some ok104 (Tree.all_some ok168 (Tree.all_some ok296 Tree.all_nil Tree.all_nil) (Tree.all_some ok424 Tree.all_nil Tree.all_nil)) (Tree.all_some ok232 (Tree.all_some ok360 Tree.all_nil Tree.all_nil) Tree.all_nil))) (Tree.all_some ok56 (Tree.all_some ok88 (Tree.all_some ok152 (Tree.all_some ok280 Tree.all_nil Tree.all_nil) (Tree.all_some ok408 Tree.all_nil Tree.all_nil)) (Tree.all_some ok216 (Tree.all_some ok344 Tree.all_nil Tree.all_nil) Tree.all_nil)) (Tree.all_some ok120 (Tree.all_some ok184 (Tree.all_some ok312 Tree.all_nil Tree.all_nil) Tree.all_nil) (Tree.all_some ok248 (Tree.all_some ok376 Tree.all_nil Tree.all_nil) Tree.all_nil))))) (Tree.all_some ok12 (Tree.all_some ok20 (Tree.all_some ok36 (Tree.all_some ok68 (Tree.all_some ok132 (Tree.all_some ok260 Tree.all_nil Tree.all_nil) (Tree.all_some ok388 Tree.all_nil Tree.all_nil)) (Tree.all_some ok196 (Tree.all_some ok324 Tree.all_nil Tree.all_nil) (Tree.all_some ok452 Tree.all_nil Tree.all_nil))) (Tree.all_some ok100 (Tree.all_some ok164 (Tree.all_some ok292 Tree.all_nil Tree.all_nil) (Tree.all_some ok420 Tree.all_nil Tree.all_nil)) (Tree.all_some ok228 (Tree.all_some ok356 Tree.all_nil Tree.all_nil) Tree.all_nil))) (Tree.all_some ok52 (Tree.all_some ok84 (Tree.all_some ok148 (Tree.all_some ok276 Tree.all_nil Tree.all_nil) (Tree.all_some ok404 Tree.all_nil Tree.all_nil)) (Tree.all_some ok212 (Tree.all_some ok340 Tree.all_nil Tree.all_nil) Tree.all_nil)) (Tree.all_some ok116 (Tree.all_some ok180 (Tree.all_some ok308 Tree.all_nil Tree.all_nil) Tree.all_nil) (Tree.all_some ok244 (Tree.all_some ok372 Tree.all_nil Tree.all_nil) Tree.all_nil)))) (Tree.all_some ok28 (Tree.all_some ok44 (Tree.all_some ok76 (Tree.all_some ok140 (Tree.all_some ok268 Tree.all_nil Tree.all_nil) (Tree.all_some ok396 Tree.all_nil Tree.all_nil)) (Tree.all_some ok204 (Tree.all_some ok332 Tree.all_nil Tree.all_nil) Tree.all_nil)) (Tree.all_some ok108 (Tree.all_some ok172 (Tree.all_some ok300 Tree.all_nil Tree.all_nil) Tree.all_nil) (Tree.all_some ok236 (Tree.all_some ok364 Tree.all_nil Tree.all_nil) Tree.all_nil))) (Tree.all_some ok60 (Tree.all_some ok92 (Tree.all_some ok156 (Tree.all_some ok284 Tree.all_nil Tree.all_nil) (Tree.all_some ok412 Tree.all_nil Tree.all_nil)) (Tree.all_some ok220 (Tree.all_some ok348 Tree.all_nil Tree.all_nil) Tree.all_nil)) (Tree.all_some ok124 (Tree.all_some ok188 (Tree.all_some ok316 Tree.all_nil Tree.all_nil) (Tree.all_some ok444 Tree.all_nil Tree.all_nil)) (Tree.all_some ok252 (Tree.all_some ok380 Tree.all_nil Tree.all_nil) Tree.all_nil)))))) (Tree.all_some ok6 (Tree.all_some ok10 (Tree.all_some ok18 (Tree.all_some ok34 (Tree.all_some ok66 (Tree.all_some ok130 (Tree.all_some ok258 Tree.all_nil Tree.all_nil) (Tree.all_some ok386 Tree.all_nil Tree.all_nil)) (Tree.all_some ok194 (Tree.all_some ok322 Tree.all_nil Tree.all_nil) Tree.all_nil)) (Tree.all_some ok98 (Tree.all_some ok162 (Tree.all_some ok290 Tree.all_nil Tree.all_nil) (Tree.all_some ok418 Tree.all_nil Tree.all_nil)) (Tree.all_some ok226 (Tree.all_some ok354 Tree.all_nil Tree.all_nil) Tree.all_nil))) (Tree.all_some ok50 (Tree.all_some ok82 (Tree.all_some ok146 (Tree.all_some ok274 Tree.all_nil Tree.all_nil) (Tree.all_some ok402 Tree.all_nil Tree.all_nil)) (Tree.all_some ok210 (Tree.all_some ok338 Tree.all_nil Tree.all_nil) Tree.all_nil)) (Tree.all_some ok114 (Tree.all_some ok178 (Tree.all_some ok306 Tree.all_nil Tree.all_nil) Tree.all_nil) (Tree.all_some ok242 (Tree.all_some ok370 Tree.all_nil Tree.all_nil) Tree.all_nil)))) (Tree.all_some ok26 (Tree.all_some ok42 (Tree.all_some ok74 (Tree.all_some ok138 (Tree.all_some ok266 Tree.all_nil Tree.all_nil) (Tree.all_some ok394 Tree.all_nil Tree.all_nil)) (Tree.all_some ok202 (Tree.all_some ok330 Tree.all_nil Tree.all_nil) Tree.all_nil)) (Tree.all_some ok106 (Tree.all_some ok170 (Tree.all_some ok298 Tree.all_nil Tree.all_nil) (Tree.all_some ok426 Tree.all_nil Tree.all_nil)) (Tree.all_some ok234 (Tree.all_some ok362 Tree.all_nil Tree.all_nil) Tree.all_nil))) (Tree.all_some ok58 (Tree.all_some ok90 (Tree.all_some ok154 (Tree.all_some ok282 Tree.all_nil Tree.all_nil) (Tree.all_some ok410 Tree.all_nil Tree.all_nil)) (Tree.all_some ok218 (Tree.all_some ok346 Tree.all_nil Tree.all_nil) Tree.all_nil)) (Tree.all_some ok122 (Tree.all_some ok186 (Tree.all_some ok314 Tree.all_nil Tree.all_nil) Tree.all_nil) (Tree.all_some ok250 (Tree.all_some ok378 Tree.all_nil Tree.all_nil) Tree.all_nil))))) (Tree.all_some ok14 (Tree.all_some ok22 (Tree.all_some ok38 (Tree.all_some ok70 (Tree.all_some ok134 (Tree.all_some ok262 Tree.all_nil Tree.all_nil) (Tree.all_some ok390 Tree.all_nil Tree.all_nil)) (Tree.all_some ok198 (Tree.all_some ok326 Tree.all_nil Tree.all_nil) Tree.all_nil)) (Tree.all_some ok102 (Tree.all_some ok166 (Tree.all_some ok294 Tree.all_nil Tree.all_nil) (Tree.all_some ok422 Tree.all_nil Tree.all_nil)) (Tree.all_some ok230 (Tree.all_some ok358 Tree.all_nil Tree.all_nil) Tree.all_nil))) (Tree.all_some ok54 (Tree.all_some ok86 (Tree.all_some ok150 (Tree.all_some ok278 Tree.all_nil Tree.all_nil) (Tree.all_some ok406 Tree.all_nil Tree.all_nil)) (Tree.all_some ok214 (Tree.all_some ok342 Tree.all_nil Tree.all_nil) Tree.all_nil)) (Tree.all_some ok118 (Tree.all_some ok182 (Tree.all_some ok310 Tree.all_nil Tree.all_nil) Tree.all_nil) (Tree.all_some ok246 (Tree.all_some ok374 Tree.all_nil Tree.all_nil) Tree.all_nil)))) (Tree.all_some ok30 (Tree.all_some ok46 (Tree.all_some ok78 (Tree.all_some ok142 (Tree.all_some ok270 Tree.all_nil Tree.all_nil) (Tree.all_some ok398 Tree.all_nil Tree.all_nil)) (Tree.all_some ok206 (Tree.all_some ok334 Tree.all_nil Tree.all_nil) Tree.all_nil)) (Tree.all_some ok110 (Tree.all_some ok174 (Tree.all_some ok302 Tree.all_nil Tree.all_nil) Tree.all_nil) (Tree.all_some ok238 (Tree.all_some ok366 Tree.all_nil Tree.all_nil) Tree.all_nil))) (Tree.all_some ok62 (Tree.all_some ok94 (Tree.all_some ok158 (Tree.all_some ok286 Tree.all_nil Tree.all_nil) (Tree.all_some ok414 Tree.all_nil Tree.all_nil)) (Tree.all_some ok222 (Tree.all_some ok350 Tree.all_nil Tree.all_nil) Tree.all_nil)) (Tree.all_some ok126 (Tree.all_some ok190 (Tree.all_some ok318 Tree.all_nil Tree.all_nil) (Tree.all_some ok446 Tree.all_nil Tree.all_nil)) (Tree.all_some ok254 (Tree.all_some ok382 Tree.all_nil Tree.all_nil) Tree.all_nil)))))))
theorem same273 (x : Value) (w : World) : (callFunc 273 #[x]).run Tryz.prog w = .ok (.value x) w := by kernel_rfl
theorem good : Good Tryz.prog ctx :=
  good_of mixed typesOk funsIn funsOk methsOk eqsOk
    (fun f hf x w => by
      have : f = 273 := by simpa [ctx, idents] using hf
      subst this; exact same273 x w)
    (fun f s h => by cases h)
end Go.Proofs.YtiiabmpobgoajaaGreat.Tab
