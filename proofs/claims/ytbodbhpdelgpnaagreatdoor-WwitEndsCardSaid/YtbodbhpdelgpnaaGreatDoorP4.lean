/- A part of the proof. -/
import Derived.Test.YtbodbhpdelgpnaaGreatDoorP3
import Derived.Test.YtbodbhpdelgpnaaGreatDoorProg
import Derived.Shelf.Unicode.DecodeSlow
import Derived.Lib.LaidTab
import Derived.Shelf.Strconv.Itoa3
set_option linter.unusedVariables false
set_option linter.unusedSimpArgs false
set_option linter.unusedSectionVars false
set_option maxRecDepth 100000
set_option maxHeartbeats 8000000
namespace Go.Proofs.YtbodbhpdelgpnaaGreatDoor
open Go Ab
def tab:Tab:=[
 (1,⟨.func,1,8,[.nilFunc]⟩),
 (2,⟨.int .i64,1,8,[.int .i64 0]⟩),
 (3,⟨.int .i64,1,8,[.int .i64 0]⟩),
 (4,⟨.bool,1,1,[.bool false]⟩),
 (5,⟨.int .u8,1,1,[.int .u8 0]⟩),
 (6,⟨.int .u8,1,1,[.int .u8 0]⟩),
 (7,⟨.struct [⟨0,1,false⟩,⟨1,1,false⟩,⟨2,1,false⟩,⟨3,1,false⟩],4,24,[.int .i64 0,.int .i64 0,.bool false,.int .u8 0]⟩),
 (8,⟨.struct [⟨0,1,false⟩,⟨1,1,false⟩,⟨2,1,false⟩,⟨3,1,false⟩],4,24,[.int .i64 0,.int .i64 0,.bool false,.int .u8 0]⟩),
 (9,⟨.str,1,16,[.string ⟨#[]⟩]⟩),
 (10,⟨.str,1,16,[.string ⟨#[]⟩]⟩),
 (11,⟨.str,1,16,[.string ⟨#[]⟩]⟩),
 (12,⟨.int .u64,1,8,[.int .u64 0]⟩),
 (13,⟨.struct [⟨0,1,false⟩,⟨1,1,false⟩],2,24,[.string ⟨#[]⟩,.int .u64 0]⟩),
 (14,⟨.struct [⟨0,1,false⟩,⟨1,1,false⟩],2,24,[.string ⟨#[]⟩,.int .u64 0]⟩),
 (15,⟨.ptr,1,8,[.pointer none]⟩),
 (16,⟨.ptr,1,8,[.pointer none]⟩),
 (17,⟨.ptr,1,8,[.pointer none]⟩),
 (18,⟨.struct [⟨0,1,false⟩],1,8,[.pointer none]⟩),
 (19,⟨.struct [⟨0,1,false⟩],1,8,[.pointer none]⟩),
 (20,⟨.iface true,1,16,[.nilIface]⟩),
 (21,⟨.int .i32,1,4,[.int .i32 0]⟩),
 (22,⟨.slice 49,1,24,[.slice none 0 0]⟩),
 (23,⟨.struct [⟨0,1,false⟩],1,24,[.slice none 0 0]⟩),
 (24,⟨.struct [⟨0,1,false⟩],1,24,[.slice none 0 0]⟩),
 (25,⟨.slice 9,1,24,[.slice none 0 0]⟩),
 (26,⟨.slice 25,1,24,[.slice none 0 0]⟩),
 (27,⟨.struct [⟨0,1,false⟩,⟨1,1,false⟩,⟨2,1,false⟩],3,56,[.int .i64 0,.slice none 0 0,.slice none 0 0]⟩),
 (28,⟨.struct [⟨0,1,false⟩,⟨1,1,false⟩,⟨2,1,false⟩],3,56,[.int .i64 0,.slice none 0 0,.slice none 0 0]⟩),
 (29,⟨.func,1,8,[.nilFunc]⟩),
 (30,⟨.func,1,8,[.nilFunc]⟩),
 (31,⟨.func,1,8,[.nilFunc]⟩),
 (32,⟨.int .i64,1,8,[.int .i64 0]⟩),
 (34,⟨.func,1,8,[.nilFunc]⟩),
 (36,⟨.func,1,8,[.nilFunc]⟩),
 (37,⟨.func,1,8,[.nilFunc]⟩),
 (38,⟨.func,1,8,[.nilFunc]⟩),
 (39,⟨.func,1,8,[.nilFunc]⟩),
 (40,⟨.func,1,8,[.nilFunc]⟩),
 (41,⟨.func,1,8,[.nilFunc]⟩),
 (42,⟨.func,1,8,[.nilFunc]⟩),
 (43,⟨.slice 5,1,24,[.slice none 0 0]⟩),
 (45,⟨.func,1,8,[.nilFunc]⟩),
 (46,⟨.func,1,8,[.nilFunc]⟩),
 (47,⟨.slice 3,1,24,[.slice none 0 0]⟩),
 (48,⟨.struct [⟨0,1,false⟩,⟨1,1,false⟩,⟨2,1,false⟩,⟨3,1,false⟩,⟨4,1,false⟩],5,88,[.string ⟨#[]⟩,.int .i64 0,.slice none 0 0,.slice none 0 0,.string ⟨#[]⟩]⟩),
 (49,⟨.struct [⟨0,1,false⟩,⟨1,1,false⟩,⟨2,1,false⟩,⟨3,1,false⟩,⟨4,1,false⟩],5,88,[.string ⟨#[]⟩,.int .i64 0,.slice none 0 0,.slice none 0 0,.string ⟨#[]⟩]⟩),
 (50,⟨.func,1,8,[.nilFunc]⟩),
 (51,⟨.int .u16,1,2,[.int .u16 0]⟩),
 (52,⟨.struct [⟨0,1,true⟩,⟨1,3,true⟩,⟨4,3,true⟩,⟨7,1,false⟩,⟨8,1,false⟩],9,144,[.slice none 0 0,.int .i64 0,.slice none 0 0,.slice none 0 0,.int .i64 0,.slice none 0 0,.slice none 0 0,.int .u8 0,.int .u16 0]⟩),
 (53,⟨.struct [⟨0,1,true⟩,⟨1,3,true⟩,⟨4,3,true⟩,⟨7,1,false⟩,⟨8,1,false⟩],9,144,[.slice none 0 0,.int .i64 0,.slice none 0 0,.slice none 0 0,.int .i64 0,.slice none 0 0,.slice none 0 0,.int .u8 0,.int .u16 0]⟩),
 (54,⟨.func,1,8,[.nilFunc]⟩),
 (55,⟨.func,1,8,[.nilFunc]⟩),
 (56,⟨.func,1,8,[.nilFunc]⟩),
 (57,⟨.func,1,8,[.nilFunc]⟩),
 (58,⟨.func,1,8,[.nilFunc]⟩),
 (59,⟨.func,1,8,[.nilFunc]⟩),
 (60,⟨.func,1,8,[.nilFunc]⟩),
 (61,⟨.func,1,8,[.nilFunc]⟩),
 (62,⟨.struct [⟨0,1,false⟩,⟨1,1,false⟩,⟨2,1,false⟩,⟨3,1,false⟩,⟨4,1,false⟩],5,88,[.int .i64 0,.slice none 0 0,.slice none 0 0,.slice none 0 0,.int .i64 0]⟩),
 (63,⟨.struct [⟨0,1,false⟩,⟨1,1,false⟩,⟨2,1,false⟩,⟨3,1,false⟩,⟨4,1,false⟩],5,88,[.int .i64 0,.slice none 0 0,.slice none 0 0,.slice none 0 0,.int .i64 0]⟩),
 (64,⟨.func,1,8,[.nilFunc]⟩),
 (65,⟨.func,1,8,[.nilFunc]⟩),
 (66,⟨.func,1,8,[.nilFunc]⟩),
 (67,⟨.func,1,8,[.nilFunc]⟩),
 (68,⟨.func,1,8,[.nilFunc]⟩),
 (69,⟨.func,1,8,[.nilFunc]⟩),
 (70,⟨.func,1,8,[.nilFunc]⟩),
 (71,⟨.func,1,8,[.nilFunc]⟩),
 (72,⟨.func,1,8,[.nilFunc]⟩),
 (73,⟨.func,1,8,[.nilFunc]⟩),
 (74,⟨.func,1,8,[.nilFunc]⟩),
 (75,⟨.slice 118,1,24,[.slice none 0 0]⟩),
 (76,⟨.func,1,8,[.nilFunc]⟩),
 (77,⟨.slice 4,1,24,[.slice none 0 0]⟩),
 (78,⟨.array 2 77,2,48,[.slice none 0 0,.slice none 0 0]⟩),
 (80,⟨.func,1,8,[.nilFunc]⟩),
 (81,⟨.func,1,8,[.nilFunc]⟩),
 (83,⟨.func,1,8,[.nilFunc]⟩),
 (84,⟨.ptr,1,8,[.pointer none]⟩),
 (85,⟨.struct [⟨0,1,false⟩,⟨1,1,false⟩,⟨2,1,false⟩],3,40,[.slice none 0 0,.int .i64 0,.int .i64 0]⟩),
 (86,⟨.struct [⟨0,1,false⟩,⟨1,1,false⟩,⟨2,1,false⟩],3,40,[.slice none 0 0,.int .i64 0,.int .i64 0]⟩),
 (87,⟨.struct [⟨0,3,true⟩,⟨3,5,true⟩],8,128,[.slice none 0 0,.int .i64 0,.int .i64 0,.int .i64 0,.slice none 0 0,.slice none 0 0,.slice none 0 0,.int .i64 0]⟩),
 (88,⟨.struct [⟨0,3,true⟩,⟨3,5,true⟩],8,128,[.slice none 0 0,.int .i64 0,.int .i64 0,.int .i64 0,.slice none 0 0,.slice none 0 0,.slice none 0 0,.int .i64 0]⟩),
 (89,⟨.func,1,8,[.nilFunc]⟩),
 (91,⟨.func,1,8,[.nilFunc]⟩),
 (92,⟨.func,1,8,[.nilFunc]⟩),
 (94,⟨.func,1,8,[.nilFunc]⟩),
 (95,⟨.func,1,8,[.nilFunc]⟩),
 (97,⟨.func,1,8,[.nilFunc]⟩),
 (98,⟨.ptr,1,8,[.pointer none]⟩),
 (99,⟨.struct [⟨0,1,false⟩,⟨1,1,false⟩],2,32,[.pointer none,.slice none 0 0]⟩),
 (100,⟨.struct [⟨0,1,false⟩,⟨1,1,false⟩],2,32,[.pointer none,.slice none 0 0]⟩),
 (101,⟨.iface false,1,16,[.nilIface]⟩),
 (102,⟨.iface false,1,16,[.nilIface]⟩),
 (104,⟨.func,1,8,[.nilFunc]⟩),
 (105,⟨.func,1,8,[.nilFunc]⟩),
 (106,⟨.func,1,8,[.nilFunc]⟩),
 (108,⟨.func,1,8,[.nilFunc]⟩),
 (109,⟨.func,1,8,[.nilFunc]⟩),
 (110,⟨.func,1,8,[.nilFunc]⟩),
 (111,⟨.func,1,8,[.nilFunc]⟩),
 (112,⟨.func,1,8,[.nilFunc]⟩),
 (113,⟨.func,1,8,[.nilFunc]⟩),
 (114,⟨.func,1,8,[.nilFunc]⟩),
 (115,⟨.func,1,8,[.nilFunc]⟩),
 (116,⟨.slice 168,1,24,[.slice none 0 0]⟩),
 (117,⟨.struct [⟨0,1,false⟩,⟨1,1,false⟩],2,32,[.int .i64 0,.slice none 0 0]⟩),
 (118,⟨.struct [⟨0,1,false⟩,⟨1,1,false⟩],2,32,[.int .i64 0,.slice none 0 0]⟩),
 (120,⟨.func,1,8,[.nilFunc]⟩),
 (122,⟨.func,1,8,[.nilFunc]⟩),
 (123,⟨.func,1,8,[.nilFunc]⟩),
 (124,⟨.func,1,8,[.nilFunc]⟩),
 (126,⟨.func,1,8,[.nilFunc]⟩),
 (128,⟨.func,1,8,[.nilFunc]⟩),
 (129,⟨.ptr,1,8,[.pointer none]⟩),
 (130,⟨.func,1,8,[.nilFunc]⟩),
 (131,⟨.func,1,8,[.nilFunc]⟩),
 (132,⟨.func,1,8,[.nilFunc]⟩),
 (133,⟨.func,1,8,[.nilFunc]⟩),
 (134,⟨.func,1,8,[.nilFunc]⟩),
 (135,⟨.func,1,8,[.nilFunc]⟩),
 (136,⟨.func,1,8,[.nilFunc]⟩),
 (137,⟨.func,1,8,[.nilFunc]⟩),
 (138,⟨.func,1,8,[.nilFunc]⟩),
 (139,⟨.ptr,1,8,[.pointer none]⟩),
 (140,⟨.struct [⟨0,1,false⟩,⟨1,1,false⟩],2,16,[.int .i64 0,.int .i64 0]⟩),
 (141,⟨.struct [⟨0,1,false⟩,⟨1,1,false⟩],2,16,[.int .i64 0,.int .i64 0]⟩),
 (143,⟨.ptr,1,8,[.pointer none]⟩),
 (144,⟨.map 3 4,1,8,[.map none]⟩),
 (145,⟨.map 9 144,1,8,[.map none]⟩),
 (146,⟨.struct [⟨0,1,true⟩,⟨1,1,false⟩,⟨2,1,false⟩,⟨3,1,false⟩],4,64,[.slice none 0 0,.slice none 0 0,.map none,.int .i64 0]⟩),
 (147,⟨.struct [⟨0,1,true⟩,⟨1,1,false⟩,⟨2,1,false⟩,⟨3,1,false⟩],4,64,[.slice none 0 0,.slice none 0 0,.map none,.int .i64 0]⟩),
 (148,⟨.func,1,8,[.nilFunc]⟩),
 (149,⟨.func,1,8,[.nilFunc]⟩),
 (150,⟨.func,1,8,[.nilFunc]⟩),
 (151,⟨.func,1,8,[.nilFunc]⟩),
 (152,⟨.func,1,8,[.nilFunc]⟩),
 (153,⟨.func,1,8,[.nilFunc]⟩),
 (154,⟨.iface false,1,16,[.nilIface]⟩),
 (155,⟨.iface false,1,16,[.nilIface]⟩),
 (156,⟨.func,1,8,[.nilFunc]⟩),
 (157,⟨.func,1,8,[.nilFunc]⟩),
 (158,⟨.func,1,8,[.nilFunc]⟩),
 (159,⟨.func,1,8,[.nilFunc]⟩),
 (160,⟨.func,1,8,[.nilFunc]⟩),
 (161,⟨.func,1,8,[.nilFunc]⟩),
 (162,⟨.func,1,8,[.nilFunc]⟩),
 (163,⟨.func,1,8,[.nilFunc]⟩),
 (165,⟨.func,1,8,[.nilFunc]⟩),
 (166,⟨.func,1,8,[.nilFunc]⟩),
 (167,⟨.array 24 5,24,24,[.int .u8 0,.int .u8 0,.int .u8 0,.int .u8 0,.int .u8 0,.int .u8 0,.int .u8 0,.int .u8 0,.int .u8 0,.int .u8 0,.int .u8 0,.int .u8 0,.int .u8 0,.int .u8 0,.int .u8 0,.int .u8 0,.int .u8 0,.int .u8 0,.int .u8 0,.int .u8 0,.int .u8 0,.int .u8 0,.int .u8 0,.int .u8 0]⟩),
 (168,⟨.int .u64,1,8,[.int .u64 0]⟩),
 (169,⟨.func,1,8,[.nilFunc]⟩),
 (170,⟨.func,1,8,[.nilFunc]⟩),
 (172,⟨.func,1,8,[.nilFunc]⟩),
 (174,⟨.func,1,8,[.nilFunc]⟩),
 (175,⟨.func,1,8,[.nilFunc]⟩),
 (176,⟨.func,1,8,[.nilFunc]⟩),
 (177,⟨.func,1,8,[.nilFunc]⟩),
 (178,⟨.func,1,8,[.nilFunc]⟩),
 (179,⟨.func,1,8,[.nilFunc]⟩),
 (180,⟨.func,1,8,[.nilFunc]⟩),
 (181,⟨.array 256 4,256,256,[.bool false,.bool false,.bool false,.bool false,.bool false,.bool false,.bool false,.bool false,.bool false,.bool false,.bool false,.bool false,.bool false,.bool false,.bool false,.bool false,.bool false,.bool false,.bool false,.bool false,.bool false,.bool false,.bool false,.bool false,.bool false,.bool false,.bool false,.bool false,.bool false,.bool false,.bool false,.bool false,.bool false,.bool false,.bool false,.bool false,.bool false,.bool false,.bool false,.bool false,.bool false,.bool false,.bool false,.bool false,.bool false,.bool false,.bool false,.bool false,.bool false,.bool false,.bool false,.bool false,.bool false,.bool false,.bool false,.bool false,.bool false,.bool false,.bool false,.bool false,.bool false,.bool false,.bool false,.bool false,.bool false,.bool false,.bool false,.bool false,.bool false,.bool false,.bool false,.bool false,.bool false,.bool false,.bool false,.bool false,.bool false,.bool false,.bool false,.bool false,.bool false,.bool false,.bool false,.bool false,.bool false,.bool false,.bool false,.bool false,.bool false,.bool false,.bool false,.bool false,.bool false,.bool false,.bool false,.bool false,.bool false,.bool false,.bool false,.bool false,.bool false,.bool false,.bool false,.bool false,.bool false,.bool false,.bool false,.bool false,.bool false,.bool false,.bool false,.bool false,.bool false,.bool false,.bool false,.bool false,.bool false,.bool false,.bool false,.bool false,.bool false,.bool false,.bool false,.bool false,.bool false,.bool false,.bool false,.bool false,.bool false,.bool false,.bool false,.bool false,.bool false,.bool false,.bool false,.bool false,.bool false,.bool false,.bool false,.bool false,.bool false,.bool false,.bool false,.bool false,.bool false,.bool false,.bool false,.bool false,.bool false,.bool false,.bool false,.bool false,.bool false,.bool false,.bool false,.bool false,.bool false,.bool false,.bool false,.bool false,.bool false,.bool false,.bool false,.bool false,.bool false,.bool false,.bool false,.bool false,.bool false,.bool false,.bool false,.bool false,.bool false,.bool false,.bool false,.bool false,.bool false,.bool false,.bool false,.bool false,.bool false,.bool false,.bool false,.bool false,.bool false,.bool false,.bool false,.bool false,.bool false,.bool false,.bool false,.bool false,.bool false,.bool false,.bool false,.bool false,.bool false,.bool false,.bool false,.bool false,.bool false,.bool false,.bool false,.bool false,.bool false,.bool false,.bool false,.bool false,.bool false,.bool false,.bool false,.bool false,.bool false,.bool false,.bool false,.bool false,.bool false,.bool false,.bool false,.bool false,.bool false,.bool false,.bool false,.bool false,.bool false,.bool false,.bool false,.bool false,.bool false,.bool false,.bool false,.bool false,.bool false,.bool false,.bool false,.bool false,.bool false,.bool false,.bool false,.bool false,.bool false,.bool false,.bool false,.bool false,.bool false,.bool false,.bool false,.bool false,.bool false,.bool false,.bool false,.bool false,.bool false,.bool false,.bool false,.bool false]⟩),
 (182,⟨.array 256 4,256,256,[.bool false,.bool false,.bool false,.bool false,.bool false,.bool false,.bool false,.bool false,.bool false,.bool false,.bool false,.bool false,.bool false,.bool false,.bool false,.bool false,.bool false,.bool false,.bool false,.bool false,.bool false,.bool false,.bool false,.bool false,.bool false,.bool false,.bool false,.bool false,.bool false,.bool false,.bool false,.bool false,.bool false,.bool false,.bool false,.bool false,.bool false,.bool false,.bool false,.bool false,.bool false,.bool false,.bool false,.bool false,.bool false,.bool false,.bool false,.bool false,.bool false,.bool false,.bool false,.bool false,.bool false,.bool false,.bool false,.bool false,.bool false,.bool false,.bool false,.bool false,.bool false,.bool false,.bool false,.bool false,.bool false,.bool false,.bool false,.bool false,.bool false,.bool false,.bool false,.bool false,.bool false,.bool false,.bool false,.bool false,.bool false,.bool false,.bool false,.bool false,.bool false,.bool false,.bool false,.bool false,.bool false,.bool false,.bool false,.bool false,.bool false,.bool false,.bool false,.bool false,.bool false,.bool false,.bool false,.bool false,.bool false,.bool false,.bool false,.bool false,.bool false,.bool false,.bool false,.bool false,.bool false,.bool false,.bool false,.bool false,.bool false,.bool false,.bool false,.bool false,.bool false,.bool false,.bool false,.bool false,.bool false,.bool false,.bool false,.bool false,.bool false,.bool false,.bool false,.bool false,.bool false,.bool false,.bool false,.bool false,.bool false,.bool false,.bool false,.bool false,.bool false,.bool false,.bool false,.bool false,.bool false,.bool false,.bool false,.bool false,.bool false,.bool false,.bool false,.bool false,.bool false,.bool false,.bool false,.bool false,.bool false,.bool false,.bool false,.bool false,.bool false,.bool false,.bool false,.bool false,.bool false,.bool false,.bool false,.bool false,.bool false,.bool false,.bool false,.bool false,.bool false,.bool false,.bool false,.bool false,.bool false,.bool false,.bool false,.bool false,.bool false,.bool false,.bool false,.bool false,.bool false,.bool false,.bool false,.bool false,.bool false,.bool false,.bool false,.bool false,.bool false,.bool false,.bool false,.bool false,.bool false,.bool false,.bool false,.bool false,.bool false,.bool false,.bool false,.bool false,.bool false,.bool false,.bool false,.bool false,.bool false,.bool false,.bool false,.bool false,.bool false,.bool false,.bool false,.bool false,.bool false,.bool false,.bool false,.bool false,.bool false,.bool false,.bool false,.bool false,.bool false,.bool false,.bool false,.bool false,.bool false,.bool false,.bool false,.bool false,.bool false,.bool false,.bool false,.bool false,.bool false,.bool false,.bool false,.bool false,.bool false,.bool false,.bool false,.bool false,.bool false,.bool false,.bool false,.bool false,.bool false,.bool false,.bool false,.bool false,.bool false,.bool false,.bool false,.bool false,.bool false,.bool false,.bool false,.bool false,.bool false,.bool false,.bool false,.bool false]⟩),
 (184,⟨.func,1,8,[.nilFunc]⟩),
 (185,⟨.func,1,8,[.nilFunc]⟩),
 (186,⟨.ptr,1,8,[.pointer none]⟩),
 (187,⟨.int .u64,1,8,[.int .u64 0]⟩),
 (188,⟨.func,1,8,[.nilFunc]⟩),
 (189,⟨.struct [],0,0,[]⟩),
 (190,⟨.struct [],0,0,[]⟩),
 (191,⟨.struct [],0,0,[]⟩),
 (192,⟨.struct [],0,0,[]⟩),
 (193,⟨.struct [],0,0,[]⟩),
 (194,⟨.map 9 155,1,8,[.map none]⟩),
 (196,⟨.struct [],0,0,[]⟩),
 (197,⟨.struct [],0,0,[]⟩),
 (198,⟨.func,1,8,[.nilFunc]⟩),
 (199,⟨.func,1,8,[.nilFunc]⟩),
 (200,⟨.func,1,8,[.nilFunc]⟩),
 (201,⟨.func,1,8,[.nilFunc]⟩),
 (202,⟨.func,1,8,[.nilFunc]⟩),
 (203,⟨.func,1,8,[.nilFunc]⟩),
 (204,⟨.func,1,8,[.nilFunc]⟩),
 (205,⟨.func,1,8,[.nilFunc]⟩),
 (206,⟨.array 20 168,20,160,[.int .u64 0,.int .u64 0,.int .u64 0,.int .u64 0,.int .u64 0,.int .u64 0,.int .u64 0,.int .u64 0,.int .u64 0,.int .u64 0,.int .u64 0,.int .u64 0,.int .u64 0,.int .u64 0,.int .u64 0,.int .u64 0,.int .u64 0,.int .u64 0,.int .u64 0,.int .u64 0]⟩),
 (207,⟨.int .u32,1,4,[.int .u32 0]⟩),
 (208,⟨.array 65 5,65,65,[.int .u8 0,.int .u8 0,.int .u8 0,.int .u8 0,.int .u8 0,.int .u8 0,.int .u8 0,.int .u8 0,.int .u8 0,.int .u8 0,.int .u8 0,.int .u8 0,.int .u8 0,.int .u8 0,.int .u8 0,.int .u8 0,.int .u8 0,.int .u8 0,.int .u8 0,.int .u8 0,.int .u8 0,.int .u8 0,.int .u8 0,.int .u8 0,.int .u8 0,.int .u8 0,.int .u8 0,.int .u8 0,.int .u8 0,.int .u8 0,.int .u8 0,.int .u8 0,.int .u8 0,.int .u8 0,.int .u8 0,.int .u8 0,.int .u8 0,.int .u8 0,.int .u8 0,.int .u8 0,.int .u8 0,.int .u8 0,.int .u8 0,.int .u8 0,.int .u8 0,.int .u8 0,.int .u8 0,.int .u8 0,.int .u8 0,.int .u8 0,.int .u8 0,.int .u8 0,.int .u8 0,.int .u8 0,.int .u8 0,.int .u8 0,.int .u8 0,.int .u8 0,.int .u8 0,.int .u8 0,.int .u8 0,.int .u8 0,.int .u8 0,.int .u8 0,.int .u8 0]⟩),
 (209,⟨.func,1,8,[.nilFunc]⟩),
 (210,⟨.func,1,8,[.nilFunc]⟩),
 (212,⟨.func,1,8,[.nilFunc]⟩),
 (213,⟨.func,1,8,[.nilFunc]⟩),
 (215,⟨.func,1,8,[.nilFunc]⟩),
 (216,⟨.func,1,8,[.nilFunc]⟩),
 (217,⟨.func,1,8,[.nilFunc]⟩),
 (218,⟨.func,1,8,[.nilFunc]⟩),
 (219,⟨.func,1,8,[.nilFunc]⟩),
 (220,⟨.func,1,8,[.nilFunc]⟩),
 (221,⟨.func,1,8,[.nilFunc]⟩),
 (223,⟨.func,1,8,[.nilFunc]⟩),
 (224,⟨.func,1,8,[.nilFunc]⟩),
 (225,⟨.func,1,8,[.nilFunc]⟩),
 (226,⟨.func,1,8,[.nilFunc]⟩),
 (227,⟨.func,1,8,[.nilFunc]⟩),
 (229,⟨.func,1,8,[.nilFunc]⟩),
 (230,⟨.func,1,8,[.nilFunc]⟩),
 (231,⟨.func,1,8,[.nilFunc]⟩),
 (232,⟨.array 32 5,32,32,[.int .u8 0,.int .u8 0,.int .u8 0,.int .u8 0,.int .u8 0,.int .u8 0,.int .u8 0,.int .u8 0,.int .u8 0,.int .u8 0,.int .u8 0,.int .u8 0,.int .u8 0,.int .u8 0,.int .u8 0,.int .u8 0,.int .u8 0,.int .u8 0,.int .u8 0,.int .u8 0,.int .u8 0,.int .u8 0,.int .u8 0,.int .u8 0,.int .u8 0,.int .u8 0,.int .u8 0,.int .u8 0,.int .u8 0,.int .u8 0,.int .u8 0,.int .u8 0]⟩),
 (233,⟨.array 64 5,64,64,[.int .u8 0,.int .u8 0,.int .u8 0,.int .u8 0,.int .u8 0,.int .u8 0,.int .u8 0,.int .u8 0,.int .u8 0,.int .u8 0,.int .u8 0,.int .u8 0,.int .u8 0,.int .u8 0,.int .u8 0,.int .u8 0,.int .u8 0,.int .u8 0,.int .u8 0,.int .u8 0,.int .u8 0,.int .u8 0,.int .u8 0,.int .u8 0,.int .u8 0,.int .u8 0,.int .u8 0,.int .u8 0,.int .u8 0,.int .u8 0,.int .u8 0,.int .u8 0,.int .u8 0,.int .u8 0,.int .u8 0,.int .u8 0,.int .u8 0,.int .u8 0,.int .u8 0,.int .u8 0,.int .u8 0,.int .u8 0,.int .u8 0,.int .u8 0,.int .u8 0,.int .u8 0,.int .u8 0,.int .u8 0,.int .u8 0,.int .u8 0,.int .u8 0,.int .u8 0,.int .u8 0,.int .u8 0,.int .u8 0,.int .u8 0,.int .u8 0,.int .u8 0,.int .u8 0,.int .u8 0,.int .u8 0,.int .u8 0,.int .u8 0,.int .u8 0]⟩),
 (234,⟨.array 256 5,256,256,[.int .u8 0,.int .u8 0,.int .u8 0,.int .u8 0,.int .u8 0,.int .u8 0,.int .u8 0,.int .u8 0,.int .u8 0,.int .u8 0,.int .u8 0,.int .u8 0,.int .u8 0,.int .u8 0,.int .u8 0,.int .u8 0,.int .u8 0,.int .u8 0,.int .u8 0,.int .u8 0,.int .u8 0,.int .u8 0,.int .u8 0,.int .u8 0,.int .u8 0,.int .u8 0,.int .u8 0,.int .u8 0,.int .u8 0,.int .u8 0,.int .u8 0,.int .u8 0,.int .u8 0,.int .u8 0,.int .u8 0,.int .u8 0,.int .u8 0,.int .u8 0,.int .u8 0,.int .u8 0,.int .u8 0,.int .u8 0,.int .u8 0,.int .u8 0,.int .u8 0,.int .u8 0,.int .u8 0,.int .u8 0,.int .u8 0,.int .u8 0,.int .u8 0,.int .u8 0,.int .u8 0,.int .u8 0,.int .u8 0,.int .u8 0,.int .u8 0,.int .u8 0,.int .u8 0,.int .u8 0,.int .u8 0,.int .u8 0,.int .u8 0,.int .u8 0,.int .u8 0,.int .u8 0,.int .u8 0,.int .u8 0,.int .u8 0,.int .u8 0,.int .u8 0,.int .u8 0,.int .u8 0,.int .u8 0,.int .u8 0,.int .u8 0,.int .u8 0,.int .u8 0,.int .u8 0,.int .u8 0,.int .u8 0,.int .u8 0,.int .u8 0,.int .u8 0,.int .u8 0,.int .u8 0,.int .u8 0,.int .u8 0,.int .u8 0,.int .u8 0,.int .u8 0,.int .u8 0,.int .u8 0,.int .u8 0,.int .u8 0,.int .u8 0,.int .u8 0,.int .u8 0,.int .u8 0,.int .u8 0,.int .u8 0,.int .u8 0,.int .u8 0,.int .u8 0,.int .u8 0,.int .u8 0,.int .u8 0,.int .u8 0,.int .u8 0,.int .u8 0,.int .u8 0,.int .u8 0,.int .u8 0,.int .u8 0,.int .u8 0,.int .u8 0,.int .u8 0,.int .u8 0,.int .u8 0,.int .u8 0,.int .u8 0,.int .u8 0,.int .u8 0,.int .u8 0,.int .u8 0,.int .u8 0,.int .u8 0,.int .u8 0,.int .u8 0,.int .u8 0,.int .u8 0,.int .u8 0,.int .u8 0,.int .u8 0,.int .u8 0,.int .u8 0,.int .u8 0,.int .u8 0,.int .u8 0,.int .u8 0,.int .u8 0,.int .u8 0,.int .u8 0,.int .u8 0,.int .u8 0,.int .u8 0,.int .u8 0,.int .u8 0,.int .u8 0,.int .u8 0,.int .u8 0,.int .u8 0,.int .u8 0,.int .u8 0,.int .u8 0,.int .u8 0,.int .u8 0,.int .u8 0,.int .u8 0,.int .u8 0,.int .u8 0,.int .u8 0,.int .u8 0,.int .u8 0,.int .u8 0,.int .u8 0,.int .u8 0,.int .u8 0,.int .u8 0,.int .u8 0,.int .u8 0,.int .u8 0,.int .u8 0,.int .u8 0,.int .u8 0,.int .u8 0,.int .u8 0,.int .u8 0,.int .u8 0,.int .u8 0,.int .u8 0,.int .u8 0,.int .u8 0,.int .u8 0,.int .u8 0,.int .u8 0,.int .u8 0,.int .u8 0,.int .u8 0,.int .u8 0,.int .u8 0,.int .u8 0,.int .u8 0,.int .u8 0,.int .u8 0,.int .u8 0,.int .u8 0,.int .u8 0,.int .u8 0,.int .u8 0,.int .u8 0,.int .u8 0,.int .u8 0,.int .u8 0,.int .u8 0,.int .u8 0,.int .u8 0,.int .u8 0,.int .u8 0,.int .u8 0,.int .u8 0,.int .u8 0,.int .u8 0,.int .u8 0,.int .u8 0,.int .u8 0,.int .u8 0,.int .u8 0,.int .u8 0,.int .u8 0,.int .u8 0,.int .u8 0,.int .u8 0,.int .u8 0,.int .u8 0,.int .u8 0,.int .u8 0,.int .u8 0,.int .u8 0,.int .u8 0,.int .u8 0,.int .u8 0,.int .u8 0,.int .u8 0,.int .u8 0,.int .u8 0,.int .u8 0,.int .u8 0,.int .u8 0,.int .u8 0,.int .u8 0,.int .u8 0,.int .u8 0,.int .u8 0,.int .u8 0,.int .u8 0,.int .u8 0,.int .u8 0,.int .u8 0,.int .u8 0,.int .u8 0,.int .u8 0,.int .u8 0,.int .u8 0,.int .u8 0,.int .u8 0]⟩),
 (235,⟨.struct [⟨0,1,false⟩,⟨1,1,false⟩],2,2,[.int .u8 0,.int .u8 0]⟩),
 (236,⟨.struct [⟨0,1,false⟩,⟨1,1,false⟩],2,2,[.int .u8 0,.int .u8 0]⟩),
 (237,⟨.array 16 236,32,32,[.int .u8 0,.int .u8 0,.int .u8 0,.int .u8 0,.int .u8 0,.int .u8 0,.int .u8 0,.int .u8 0,.int .u8 0,.int .u8 0,.int .u8 0,.int .u8 0,.int .u8 0,.int .u8 0,.int .u8 0,.int .u8 0,.int .u8 0,.int .u8 0,.int .u8 0,.int .u8 0,.int .u8 0,.int .u8 0,.int .u8 0,.int .u8 0,.int .u8 0,.int .u8 0,.int .u8 0,.int .u8 0,.int .u8 0,.int .u8 0,.int .u8 0,.int .u8 0]⟩),
 (238,⟨.struct [⟨0,1,false⟩,⟨1,1,false⟩,⟨2,1,false⟩,⟨3,1,false⟩],4,40,[.pointer none,.pointer none,.pointer none,.string ⟨#[]⟩]⟩),
 (239,⟨.struct [⟨0,1,false⟩,⟨1,1,false⟩,⟨2,1,false⟩,⟨3,1,false⟩],4,40,[.pointer none,.pointer none,.pointer none,.string ⟨#[]⟩]⟩),
 (240,⟨.array 0 16,0,0,[]⟩),
 (241,⟨.struct [⟨0,0,true⟩],0,0,[]⟩),
 (242,⟨.struct [⟨0,0,true⟩],0,0,[]⟩),
 (243,⟨.func,1,8,[.nilFunc]⟩),
 (244,⟨.int .u8,1,1,[.int .u8 0]⟩),
 (245,⟨.int .u8,1,1,[.int .u8 0]⟩),
 (246,⟨.func,1,8,[.nilFunc]⟩),
 (247,⟨.int .i32,1,4,[.int .i32 0]⟩),
 (248,⟨.int .i32,1,4,[.int .i32 0]⟩),
 (249,⟨.struct [⟨0,1,false⟩,⟨1,1,false⟩,⟨2,1,false⟩,⟨3,1,false⟩,⟨4,1,false⟩,⟨5,1,false⟩,⟨6,1,false⟩,⟨7,1,false⟩,⟨8,1,false⟩,⟨9,1,false⟩,⟨10,1,false⟩],11,48,[.int .u64 0,.int .u64 0,.int .u32 0,.int .u8 0,.int .u8 0,.int .u8 0,.int .u8 0,.nilFunc,.pointer none,.int .i32 0,.int .i32 0]⟩),
 (250,⟨.struct [⟨0,1,false⟩,⟨1,1,false⟩,⟨2,1,false⟩,⟨3,1,false⟩,⟨4,1,false⟩,⟨5,1,false⟩,⟨6,1,false⟩,⟨7,1,false⟩,⟨8,1,false⟩,⟨9,1,false⟩,⟨10,1,false⟩],11,48,[.int .u64 0,.int .u64 0,.int .u32 0,.int .u8 0,.int .u8 0,.int .u8 0,.int .u8 0,.nilFunc,.pointer none,.int .i32 0,.int .i32 0]⟩),
 (251,⟨.func,1,8,[.nilFunc]⟩),
 (252,⟨.func,1,8,[.nilFunc]⟩),
 (253,⟨.func,1,8,[.nilFunc]⟩),
 (254,⟨.func,1,8,[.nilFunc]⟩),
 (255,⟨.func,1,8,[.nilFunc]⟩),
 (256,⟨.func,1,8,[.nilFunc]⟩),
 (258,⟨.func,1,8,[.nilFunc]⟩),
 (259,⟨.func,1,8,[.nilFunc]⟩),
 (261,⟨.func,1,8,[.nilFunc]⟩),
 (262,⟨.func,1,8,[.nilFunc]⟩),
 (263,⟨.func,1,8,[.nilFunc]⟩),
 (265,⟨.map 9 263,1,8,[.map none]⟩),
 (266,⟨.func,1,8,[.nilFunc]⟩),
 (267,⟨.func,1,8,[.nilFunc]⟩),
 (268,⟨.func,1,8,[.nilFunc]⟩),
 (269,⟨.func,1,8,[.nilFunc]⟩),
 (270,⟨.func,1,8,[.nilFunc]⟩),
 (271,⟨.func,1,8,[.nilFunc]⟩),
 (272,⟨.func,1,8,[.nilFunc]⟩),
 (273,⟨.func,1,8,[.nilFunc]⟩),
 (274,⟨.func,1,8,[.nilFunc]⟩),
 (275,⟨.func,1,8,[.nilFunc]⟩),
 (277,⟨.map 9 275,1,8,[.map none]⟩),
 (278,⟨.func,1,8,[.nilFunc]⟩),
 (279,⟨.func,1,8,[.nilFunc]⟩),
 (281,⟨.func,1,8,[.nilFunc]⟩),
 (282,⟨.func,1,8,[.nilFunc]⟩),
 (283,⟨.func,1,8,[.nilFunc]⟩),
 (284,⟨.func,1,8,[.nilFunc]⟩),
 (285,⟨.func,1,8,[.nilFunc]⟩),
 (286,⟨.func,1,8,[.nilFunc]⟩),
 (287,⟨.func,1,8,[.nilFunc]⟩),
 (288,⟨.func,1,8,[.nilFunc]⟩)]
theorem tabOk:TabOk Tryz.prog tab:=(by kernel_rfl:tab.all (fun x=>rowOk Tryz.prog x.1 x.2)=true)
instance:Draws:=Draws.none
theorem glob_pow:Tryz.prog.globalNamed "internal/strconv.uint64pow10" = some 1:=by kernel_rfl
@[reducible] def gFirst:Nat:=4
@[reducible] def gAccept:Nat:=5
@[reducible] def gPow:Nat:=1
instance:Globals Tryz.prog where
 gl b:=b=4∨b=5∨b=1
 tb w:=Go.Lib.Utf8Tabs 4 5 w∧Go.Lib.TabIs Tryz.prog w "internal/strconv.uint64pow10" .u64 Go.Lib.pow10Tab
 lt w b h hb:=by
  rcases hb with rfl|rfl|rfl
  ·exact z32 (h.1.1 0 (by decide))
  ·exact z32 (h.1.2 0 (by decide)).1
  ·have h2:=h.2;unfold Go.Lib.TabIs Go.World.var? at h2;rw [glob_pow]at h2;cases hh:w.heap[1]? with
   | none=>simp [hh]at h2
   | some o=>exact(Array.getElem?_eq_some_iff.1 hh).1
 keep w w' h hk:=by
  have k1:=hk _ (.inl rfl);have k2:=hk _ (.inr (.inl rfl));have k3:=hk _ (.inr (.inr rfl));have kc:∀(g:Nat) (i:Nat),w'.heap[g]?=w.heap[g]?→w'.cell? ⟨g,i,none⟩=w.cell? ⟨g,i,none⟩:=fun g i e=>by
   unfold Go.World.cell?;rw [e]
  refine⟨⟨fun c hc=>(kc _ _ k1).trans (h.1.1 c hc),fun i hi=>⟨(kc _ _ k2).trans (h.1.2 i hi).1,(kc _ _ k2).trans (h.1.2 i hi).2⟩⟩,?_⟩;have h2:=h.2;unfold Go.Lib.TabIs Go.World.var? at h2 ⊢;rw [glob_pow]at h2 ⊢;simp only [Option.bind_some]at h2 ⊢;rw [k3];exact h2
theorem tb_utf{w:Go.World}(h:Globals.tb Tryz.prog w):Go.Lib.Utf8Tabs 4 5 w:=h.1
theorem tb_pow{w:Go.World}(h:Globals.tb Tryz.prog w):Go.Lib.TabIs Tryz.prog w "internal/strconv.uint64pow10" .u64 Go.Lib.pow10Tab:=h.2
end Go.Proofs.YtbodbhpdelgpnaaGreatDoor
namespace Ab
open Go
variable [Draws]
section
variable {P:Program}[Globals P]{T:Tab}{f:FuncId}{fn:Func}{n:Nat}{C:Cx}{R:AV→List (Option AObj)→Prop}{todo todo':List Item}{env env':Env}{objs objs':List (Option AObj)}{nd:Prop}
def VLs:List AV→List AV→Prop
 | [],[]=>True
 | a::r,b::s=>VLe a b∧VLs r s
 | _,_=>False
theorem VLs.rel{w:World}{ok:Nat→Prop}{π:List Value}:∀{az bs:List AV} {vs:List Value},VLs az bs→RelVs w ok π az vs→RelVs w ok π bs vs
 | [],[],_,_,h=>h
 | a::r,b::s,_,hv,.cons h t=>.cons (hv.1 _ _ _ _ h) (VLs.rel hv.2 t)
 | [],_::_,_,h,_=>h.elim
 | _::_,[],_,h,_=>h.elim
theorem VLs.refl:∀l:List AV,VLs l l
 | []=>trivial
 | a::r=>⟨.refl a,VLs.refl r⟩
def putD(dst:Option Tmp)(a:AV)(env:Env):Env:=match dst with|none=>env|some d=>(d,a)::env
theorem zgk{dst:Option Tmp}{a b:AV}{e:Env}(h:putE n dst a env=some e):putE n dst b env=some (putD dst b env):=by
 cases dst with
 | none=>rfl
 | some d=>
  simp only [putE]at h ⊢;cases hb:Nat.blt d n with
  | false=>rw [hb]at h;cases h
  | true=>rfl
def Xof(X:Nat→Prop)(π:List Value)(objs:List (Option AObj))(b:Nat):Prop:=X b∨∃i o h,nth objs i=some (some o)∧nth π i=some h∧blk h=some b
theorem z8o{X:Nat→Prop}{π:List Value}{b:Nat}:okOf (Xof X π objs) [] [] b↔okOf X π objs b:=by
 constructor
 ·rintro⟨h1,_⟩;exact⟨fun hx=>h1 (.inl hx),fun i o h ho hp e=>h1 (.inr ⟨i,o,h,ho,hp,e⟩)⟩
 ·rintro⟨h1,h2⟩;refine⟨?_,fun i o h ho=>by simp [nth]at ho⟩;rintro(hx|⟨i,o,h,ho,hp,e⟩)
  ·exact h1 hx
  ·exact h2 i o h ho hp e
theorem zay{X:Nat→Prop}{π:List Value}{w:World}(m:Mem X π objs w):Mem (Xof X π objs) [] [] w:=by
 refine⟨rfl,fun i o h=>by simp [nth]at h,fun i j o o' h h' b _ h1=>by simp [nth]at h1,fun i o h b h1=>by simp [nth]at h1,?_⟩;rintro b (hx|⟨i,o,h,ho,hp,e⟩)
 ·exact m.inX b hx
 ·exact m.lt ho hp e
theorem z59{π':List Value}{objs1:List (Option AObj)}{w w':World}(h:Hist [] [] w π' objs1 w'):Later w w':=
 ⟨h.os,h.tape,h.output,h.size,fun b hb=>h.heap b hb (fun i o k h1=>by simp [nth]at h1)⟩
theorem zd9{g:FuncId}{az bs:List AV}{dst:Option Tmp}{R':AV→List (Option AObj)→Prop}(hT:TabOk P T)(hf:P.funcs[f]?=some fn)(h:srun T n fn.results.toList 2000 True todo env objs=.call nd g az dst todo' env' objs')(hn:nd)
  (hc:ACall P g bs [] R') (hv:VLs az bs) (hd:refsBs 0 bs=true) (hdst:∃e,putE n dst .dead env'=some e) (hr:∀r o,R' r o→refsB 0 r=true) (k:∀r o,R' r o→ASat P f n C todo' (putD dst r env') objs' R) (hG:GOk P C.π C.objs C.w:=by with_reducible assumption):ASat P f n C todo env objs R:=by
 suffices hcc:Cont P f n C R (.call nd g az dst todo' env' objs')from(z1j hT hf 2000 True todo env objs (by rw [h];exact hcc)).2
 refine⟨hn,hdst,fun π w tmps hs hm hh he vs hvs=>?_⟩;have h1:RelVs w (okOf (Xof C.X π objs') [] []) [] bs vs:=(hv.rel hvs).cut (m:=0) (fun b o u a1 a2=>⟨z8o.2 a1,a2⟩) (fun j _ hj=>absurd hj (Nat.not_lt_zero j)) hd;refine(hc _ _ w vs (hG.hist hh).nil (zay hm) h1).mono ?_;rintro e w' ⟨v,r,o,π',rfl,hR,hm',hrel,hhist⟩;refine .inl ⟨v,rfl,?_⟩;have hl:=z59 hhist;have htr:=hl.tr hm;obtain⟨e,hput⟩:=hdst;have hrv:RelV w' (okOf C.X π objs') π r v:=by
  refine hrel.cut (m:=0) (fun b o u a1 a2=>⟨?_,a2⟩) (fun j _ hj=>absurd hj (Nat.not_lt_zero j)) (hr r o hR);exact z8o.1 ⟨a1.1,fun i o h h1=>by simp [nth]at h1⟩
 obtain⟨p1,p2⟩:=z5m (z5c he htr) hs (zgk hput) hrv;exact k r o hR π w' _ p2 htr.mem (z22 hh htr) p1
theorem z45{t s:Nat}{e:TypeId}(hl:look env t=some (.d (.v (.slice none 0 0)))∨∃s',look env t=some (.e0 s'))(rd:Nat→D)(k:ASat P f n C todo ((t,.gs objs.length)::env) (objs++[some (.grow e s [] rd)]) R):ASat P f n C todo env objs R:=by
 intro π w tmps hn hm hh he;obtain⟨A,hA⟩:∃A,tmps.getD t undef=.slice A 0 0:=by
  rcases hl with hl|⟨s',hl⟩
  ·have:=he t _ hl;revert this;generalize tmps.getD t undef=v;intro h;cases h with|d h=>cases h;exact⟨none,rfl⟩
  ·have:=he t _ hl;revert this;generalize tmps.getD t undef=v;intro h;cases h;exact⟨_,rfl⟩
 have htr:Tr C.X π objs w none (π++[.slice A 0 0]) (objs++[some (.grow e s [] rd)]) w:=z4r hm rfl rfl ⟨rfl,z17 (Nat.le_refl _)⟩ (Nat.le_refl _) (fun _ _=>rfl) _ _ (by intro b e;cases A<;>cases e) .gnil;refine k _ w tmps hn htr.mem (z22 hh htr) fun u c hu=>?_;simp only [look]at hu;split at hu
 ·rename_i e;have e':t=u:=by simpa using e
  cases hu;subst e';rw [hA];exact .gs (z5n hm.len _)
 ·exact z5c he htr u c hu
end
end Ab
namespace Ab
open Go
variable [Draws]
mutual
def AV.ren(ρ:Nat→Nat):AV→AV
 | .gs j=>.gs (ρ j)
 | .ge j s e o=>.ge (ρ j) s e o
 | .ag cs=>.ag (AV.rens ρ cs)
 | .tp cs=>.tp (AV.rens ρ cs)
 | .fn f cs=>.fn f (AV.rens ρ cs)
 | .ifc t x=>.ifc t (AV.ren ρ x)
 | .d x=>.d x
 | .ro x=>.ro x
 | .ptr j o=>.ptr (ρ j) o
 | .mp j=>.mp (ρ j)
 | .e0 s=>.e0 s
 | .lit b=>.lit b
 | .und=>.und
 | .orc b=>.orc b
 | .dead=>.dead
def AV.rens(ρ:Nat→Nat):List AV→List AV
 | []=>[]
 | x::r=>AV.ren ρ x::AV.rens ρ r
end
def renEs(ρ:Nat→Nat):List (Value×AV)→List (Value×AV)
 | []=>[]
 | (k,x)::r=>(k,x.ren ρ)::renEs ρ r
def AObj.ren(ρ:Nat→Nat):AObj→AObj
 | .cells e cs=>.cells e (AV.rens ρ cs)
 | .grow e s xs rd=>.grow e s xs rd
 | .siter s p=>.siter s p
 | .hold a v=>.hold (a.ren ρ) v
 | .map es=>.map (renEs ρ es)
mutual
theorem RelV.ren{w w':World}{ok ok':Nat→Prop}{π π':List Value}{ρ:Nat→Nat}(hk:Keeps w ok w' ok')(hp:∀j h,nth π j=some h→nth π' (ρ j)=some h){a:AV}{v:Value}:RelV w ok π a v→RelV w' ok' π' (a.ren ρ) v
 | .d h=>by simp only [AV.ren];exact .d (h.mono hk)
 | .ro h hm=>by simp only [AV.ren];exact .ro (h.mono hk) (z2w hk hm)
 | .ptr h=>by simp only [AV.ren];exact .ptr (hp _ _ h)
 | .gs h=>by simp only [AV.ren];exact .gs (hp _ _ h)
 | .ge h=>by simp only [AV.ren];exact .ge (hp _ _ h)
 | .mp h=>by simp only [AV.ren];exact .mp (hp _ _ h)
 | .e0=>by simp only [AV.ren];exact .e0
 | .lit=>by simp only [AV.ren];exact .lit
 | .und=>by simp only [AV.ren];exact .und
 | .orc=>by simp only [AV.ren];exact .orc
 | .ag h hf=>by simp only [AV.ren];exact .ag (h.ren hk hp) hf
 | .tp h=>by simp only [AV.ren];exact .tp (h.ren hk hp)
 | .fn h=>by simp only [AV.ren];exact .fn (h.ren hk hp)
 | .ifc h=>by simp only [AV.ren];exact .ifc (h.ren hk hp)
 | .dead=>by simp only [AV.ren];exact .dead
theorem RelVs.ren{w w':World}{ok ok':Nat→Prop}{π π':List Value}{ρ:Nat→Nat}(hk:Keeps w ok w' ok')(hp:∀j h,nth π j=some h→nth π' (ρ j)=some h){a:List AV}{v:List Value}:RelVs w ok π a v→RelVs w' ok' π' (AV.rens ρ a) v
 | .nil=>.nil
 | .cons h t=>.cons (h.ren hk hp) (t.ren hk hp)
end
theorem RelEs.ren{w w':World}{ok ok':Nat→Prop}{π π':List Value}{ρ:Nat→Nat}(hk:Keeps w ok w' ok')(hp:∀j h,nth π j=some h→nth π' (ρ j)=some h):∀{a:List (Value×AV)} {v:List MapEntry},RelEs w ok π a v→RelEs w' ok' π' (renEs ρ a) v
 | _,_,.nil=>.nil
 | _,_,.cons h t=>.cons (h.ren hk hp) (t.ren hk hp)
theorem RelO.ren{w w':World}{ok ok':Nat→Prop}{π π':List Value}{ρ:Nat→Nat}(hk:Keeps w ok w' ok')(hp:∀j h,nth π j=some h→nth π' (ρ j)=some h){o:AObj}{h:Value}(hh:∀b,blk h=some b→w'.heap[b]?=w.heap[b]?):RelO w ok π o h→RelO w' ok' π' (o.ren ρ) h
 | .cells hb h hf=>.cells ((hh _ rfl).trans hb) (h.ren hk hp) hf
 | .gnil=>.gnil
 | .grow hb hz h hu hc hm ho hr=>.grow ((hh _ rfl).trans hb) hz (h.mono hk) hu hc hm ho hr
 | .map hb h=>.map ((hh _ rfl).trans hb) (h.ren hk hp)
 | .hold h=>.hold (h.ren hk hp)
 | .siter hb=>.siter ((hh _ rfl).trans hb)
mutual
theorem RelV.unren{w w':World}{ok ok':Nat→Prop}{π π':List Value}{ρ:Nat→Nat}{m:Nat}(hk:Keeps w ok w' ok')(hp:∀j h,j<m→nth π (ρ j)=some h→nth π' j=some h):∀(a:AV) {v:Value},refsB m a=true→RelV w ok π (a.ren ρ) v→RelV w' ok' π' a v
 | .d x,_,_,h=>by simp only [AV.ren]at h;cases h with|d h=>exact .d (h.mono hk)
 | .ro x,_,_,h=>by simp only [AV.ren]at h;cases h with|ro h hm=>exact .ro (h.mono hk) (z2w hk hm)
 | .ptr j o,_,hr,h=>by simp only [AV.ren]at h;cases h with|ptr h=>exact .ptr (hp _ _ (by simpa [refsB,Nat.blt_eq]using hr) h)
 | .gs j,_,hr,h=>by simp only [AV.ren]at h;cases h with|gs h=>exact .gs (hp _ _ (by simpa [refsB,Nat.blt_eq]using hr) h)
 | .ge j s e o,_,hr,h=>by simp only [AV.ren]at h;cases h with|ge h=>exact .ge (hp _ _ (by simpa [refsB,Nat.blt_eq]using hr) h)
 | .mp j,_,hr,h=>by simp only [AV.ren]at h;cases h with|mp h=>exact .mp (hp _ _ (by simpa [refsB,Nat.blt_eq]using hr) h)
 | .e0 s,_,_,h=>by simp only [AV.ren]at h;cases h;exact .e0
 | .lit b,_,_,h=>by simp only [AV.ren]at h;cases h;exact .lit
 | .und,_,_,h=>by simp only [AV.ren]at h;cases h;exact .und
 | .orc b,_,_,h=>by simp only [AV.ren]at h;cases h;exact .orc
 | .dead,_,_,h=>by simp only [AV.ren]at h;exact .dead
 | .ag cs,_,hr,h=>by simp only [AV.ren]at h;cases h with|ag h hf=>exact .ag (RelVs.unren hk hp cs (by simpa [refsB]using hr) h) hf
 | .tp cs,_,hr,h=>by simp only [AV.ren]at h;cases h with|tp h=>exact .tp (RelVs.unren hk hp cs (by simpa [refsB]using hr) h)
 | .fn f cs,_,hr,h=>by simp only [AV.ren]at h;cases h with|fn h=>exact .fn (RelVs.unren hk hp cs (by simpa [refsB]using hr) h)
 | .ifc t x,_,hr,h=>by simp only [AV.ren]at h;cases h with|ifc h=>exact .ifc (RelV.unren hk hp x (by simpa [refsB]using hr) h)
theorem RelVs.unren{w w':World}{ok ok':Nat→Prop}{π π':List Value}{ρ:Nat→Nat}{m:Nat}(hk:Keeps w ok w' ok')(hp:∀j h,j<m→nth π (ρ j)=some h→nth π' j=some h):∀(a:List AV) {v:List Value},refsBs m a=true→RelVs w ok π (AV.rens ρ a) v→RelVs w' ok' π' a v
 | [],_,_,h=>by simp only [AV.rens]at h;cases h;exact .nil
 | x::r,_,hr,h=>by
  simp only [AV.rens]at h;simp only [refsBs]at hr;split at hr
  ·rename_i hx;cases h with|cons h t=>exact .cons (RelV.unren hk hp x hx h) (RelVs.unren hk hp r hr t)
  ·cases hr
end
theorem RelEs.unren{w w':World}{ok ok':Nat→Prop}{π π':List Value}{ρ:Nat→Nat}{m:Nat}(hk:Keeps w ok w' ok')(hp:∀j h,j<m→nth π (ρ j)=some h→nth π' j=some h):∀(a:List (Value×AV)) {v:List MapEntry},refsM m a=true→RelEs w ok π (renEs ρ a) v→RelEs w' ok' π' a v
 | [],_,_,h=>by simp only [renEs]at h;cases h;exact .nil
 | (k,x)::r,_,hr,h=>by
  simp only [renEs]at h;simp only [refsM]at hr;split at hr
  ·rename_i hx;cases h with|cons h t=>exact .cons (RelV.unren hk hp x hx h) (RelEs.unren hk hp r hr t)
  ·cases hr
theorem RelO.unren{w w':World}{ok ok':Nat→Prop}{π π':List Value}{ρ:Nat→Nat}{m:Nat}(hk:Keeps w ok w' ok')(hp:∀j h,j<m→nth π (ρ j)=some h→nth π' j=some h):∀(o:AObj) {h:Value},z6a m o=true→(∀b,blk h=some b→w'.heap[b]?=w.heap[b]?)→RelO w ok π (o.ren ρ) h→RelO w' ok' π' o h
 | .cells e cs,_,hr,hh,h=>by simp only [AObj.ren]at h;cases h with|cells hb h hf=>exact .cells ((hh _ rfl).trans hb) (RelVs.unren hk hp cs hr h) hf
 | .grow e s xs rd,_,hr,hh,h=>by
  simp only [AObj.ren]at h;cases h with
  | gnil=>exact .gnil
  | grow hb hz h hu hc hm ho hr=>exact .grow ((hh _ rfl).trans hb) hz (h.mono hk) hu hc hm ho hr
 | .map es,_,hr,hh,h=>by simp only [AObj.ren]at h;cases h with|map hb h=>exact .map ((hh _ rfl).trans hb) (RelEs.unren hk hp es hr h)
 | .siter s p,_,hr,hh,h=>by simp only [AObj.ren]at h;cases h with|siter hb=>exact .siter ((hh _ rfl).trans hb)
 | .hold a v,_,hr,hh,h=>by simp only [AObj.ren]at h;cases h with|hold h=>exact .hold (RelV.unren hk hp a hr h)
mutual
def AV.dropS(q:Nat→Bool):AV→AV
 | .gs j=>match q j with|true=>.dead|false=>.gs j
 | .ge j s e o=>match q j with|true=>.dead|false=>.ge j s e o
 | .ag cs=>.ag (AV.dropSs q cs)
 | .tp cs=>.tp (AV.dropSs q cs)
 | .fn f cs=>.fn f (AV.dropSs q cs)
 | .ifc t x=>.ifc t (AV.dropS q x)
 | .d x=>.d x
 | .ro x=>.ro x
 | .ptr j o=>.ptr j o
 | .mp j=>.mp j
 | .e0 s=>.e0 s
 | .lit b=>.lit b
 | .und=>.und
 | .orc b=>.orc b
 | .dead=>.dead
def AV.dropSs(q:Nat→Bool):List AV→List AV
 | []=>[]
 | x::r=>AV.dropS q x::AV.dropSs q r
end
def zbe(q:Nat→Bool):List (Value×AV)→List (Value×AV)
 | []=>[]
 | (k,x)::r=>(k,x.dropS q)::zbe q r
def AObj.dropS(q:Nat→Bool):AObj→AObj
 | .cells e cs=>.cells e (AV.dropSs q cs)
 | .grow e s xs rd=>.grow e s xs rd
 | .siter s p=>.siter s p
 | .hold a v=>.hold (a.dropS q) v
 | .map es=>.map (zbe q es)
def z3p(q:Nat→Bool):Env→Env
 | []=>[]
 | (t,a)::r=>(t,a.dropS q)::z3p q r
theorem z7q(q:Nat→Bool):∀(env:Env) (t:Nat),look (z3p q env) t=(look env t).map (AV.dropS q)
 | [],t=>rfl
 | (k,a)::r,t=>by
  simp only [z3p,look];split
  ·rfl
  ·exact z7q q r t
mutual
theorem RelV.dropS{w w':World}{ok ok':Nat→Prop}{π π':List Value}{q:Nat→Bool}(hk:Keeps w ok w' ok')(hp:∀j h,nth π j=some h→q j=false∨isSl h=false→nth π' j=some h){a:AV}{v:Value}:RelV w ok π a v→RelV w' ok' π' (a.dropS q) v
 | .d h=>by simp only [AV.dropS];exact .d (h.mono hk)
 | .ro h hm=>by simp only [AV.dropS];exact .ro (h.mono hk) (z2w hk hm)
 | .ptr h=>by simp only [AV.dropS];exact .ptr (hp _ _ h (.inr rfl))
 | .gs (i:=j) h=>by
  simp only [AV.dropS];split
  ·exact .dead
  ·rename_i e;exact .gs (hp _ _ h (.inl e))
 | .ge (i:=j) h=>by
  simp only [AV.dropS];split
  ·exact .dead
  ·rename_i e;exact .ge (hp _ _ h (.inl e))
 | .mp h=>by simp only [AV.dropS];exact .mp (hp _ _ h (.inr rfl))
 | .e0=>by simp only [AV.dropS];exact .e0
 | .lit=>by simp only [AV.dropS];exact .lit
 | .und=>by simp only [AV.dropS];exact .und
 | .orc=>by simp only [AV.dropS];exact .orc
 | .ag h hf=>by simp only [AV.dropS];exact .ag (h.dropS hk hp) hf
 | .tp h=>by simp only [AV.dropS];exact .tp (h.dropS hk hp)
 | .fn h=>by simp only [AV.dropS];exact .fn (h.dropS hk hp)
 | .ifc h=>by simp only [AV.dropS];exact .ifc (h.dropS hk hp)
 | .dead=>by simp only [AV.dropS];exact .dead
theorem RelVs.dropS{w w':World}{ok ok':Nat→Prop}{π π':List Value}{q:Nat→Bool}(hk:Keeps w ok w' ok')(hp:∀j h,nth π j=some h→q j=false∨isSl h=false→nth π' j=some h){a:List AV}{v:List Value}:RelVs w ok π a v→RelVs w' ok' π' (AV.dropSs q a) v
 | .nil=>.nil
 | .cons h t=>.cons (h.dropS hk hp) (t.dropS hk hp)
end
theorem RelEs.dropS{w w':World}{ok ok':Nat→Prop}{π π':List Value}{q:Nat→Bool}(hk:Keeps w ok w' ok')(hp:∀j h,nth π j=some h→q j=false∨isSl h=false→nth π' j=some h):∀{a:List (Value×AV)} {v:List MapEntry},RelEs w ok π a v→RelEs w' ok' π' (zbe q a) v
 | _,_,.nil=>.nil
 | _,_,.cons h t=>.cons (h.dropS hk hp) (t.dropS hk hp)
theorem RelO.dropS{w w':World}{ok ok':Nat→Prop}{π π':List Value}{q:Nat→Bool}(hk:Keeps w ok w' ok')(hp:∀j h,nth π j=some h→q j=false∨isSl h=false→nth π' j=some h){o:AObj}{h:Value}(hh:∀b,blk h=some b→w'.heap[b]?=w.heap[b]?):RelO w ok π o h→RelO w' ok' π' (o.dropS q) h
 | .cells hb h hf=>.cells ((hh _ rfl).trans hb) (h.dropS hk hp) hf
 | .gnil=>.gnil
 | .grow hb hz h hu hc hm ho hr=>.grow ((hh _ rfl).trans hb) hz (h.mono hk) hu hc hm ho hr
 | .map hb h=>.map ((hh _ rfl).trans hb) (h.dropS hk hp)
 | .hold h=>.hold (h.dropS hk hp)
 | .siter hb=>.siter ((hh _ rfl).trans hb)
end Ab
namespace Ab
open Go
variable [Draws]
def rho(ι:List Nat)(base j:Nat):Nat:=match nth ι j with|some i=>i|none=>base+(j-ι.length)
def posOf:List Nat→Nat→Option Nat
 | [],_=>none
 | k::r,i=>match Nat.beq k i with|true=>some 0|false=>match posOf r i with|some p=>some (p+1)|none=>none
def memN(ι:List Nat)(i:Nat):Bool:=match posOf ι i with|some _=>true|none=>false
def z3m:List Nat→Bool
 | []=>true
 | k::r=>match memN r k with|true=>false|false=>z3m r
def skipN{α:Type}:Nat→List α→List α
 | 0,l=>l
 | _+1,[]=>[]
 | n+1,_::r=>skipN n r
theorem zau{α:Type}:∀(n:Nat) (l:List α) (i:Nat),nth (skipN n l) i=nth l (n+i)
 | 0,l,i=>by simp [skipN]
 | n+1,[],i=>by simp [skipN,nth]
 | n+1,_::r,i=>by rw [skipN,zau n r i,show n+1+i=(n+i)+1 by omega,nth]
theorem z86:∀{ι:List Nat} {i j:Nat},posOf ι i=some j→nth ι j=some i
 | [],_,_,h=>by simp [posOf]at h
 | k::r,i,j,h=>by
  simp only [posOf]at h;split at h
  ·rename_i e;cases h;simp only [nth,Option.some.injEq];exact Nat.eq_of_beq_eq_true e
  ·split at h
   ·rename_i hp;cases h;simp only [nth];exact z86 hp
   ·cases h
theorem z6s:∀{ι:List Nat} {i j:Nat},z3m ι=true→nth ι j=some i→posOf ι i=some j
 | [],_,_,_,h=>by simp [nth]at h
 | k::r,i,0,hd,h=>by
  simp only [nth,Option.some.injEq]at h;subst h;simp [posOf]
 | k::r,i,j+1,hd,h=>by
  simp only [nth]at h;simp only [z3m]at hd;split at hd
  ·cases hd
  ·rename_i hm;have ih:=z6s hd h;simp only [posOf];split
   ·rename_i e;have e':k=i:=Nat.eq_of_beq_eq_true e;subst e';simp [memN,ih]at hm
   ·simp [ih]
theorem z9a{ι:List Nat}{base i j:Nat}(h:nth ι j=some i):rho ι base j=i:=by simp [rho,h]
theorem zl4{ι:List Nat}{base j:Nat}(h:ι.length≤j):rho ι base j=base+(j-ι.length):=by
 have:nth ι j=none:=by rw [z1k];exact List.getElem?_eq_none h
 simp [rho,this]
def zgn(ι:List Nat)(base:Nat)(o':List (Option AObj))(i:Nat)(own:Option AObj):Option AObj:=
 match posOf ι i with
 | some j=>match nth o' j with|some (some o)=>some (o.ren (rho ι base))|_=>none
 | none=>match own with|some o=>some (o.dropS (memN ι))|none=>none
def zce(ι:List Nat)(base:Nat)(o':List (Option AObj)):Nat→List (Option AObj)→List (Option AObj)
 | _,[]=>[]
 | i,x::r=>zgn ι base o' i x::zce ι base o' (i+1) r
def renT(ρ:Nat→Nat):List (Option AObj)→List (Option AObj)
 | []=>[]
 | some o::r=>some (o.ren ρ)::renT ρ r
 | none::r=>none::renT ρ r
def z35(ι:List Nat)(o' objs:List (Option AObj)):List (Option AObj):=zce ι objs.length o' 0 objs++renT (rho ι objs.length) (skipN ι.length o')
def z5o(ι:List Nat)(π0:List Value)(i:Nat)(h:Value):Value:=match posOf ι i with|some j=>(match nth π0 j with|some k=>k|none=>h)|none=>h
def z7p(ι:List Nat)(π0:List Value):Nat→List Value→List Value
 | _,[]=>[]
 | i,h::r=>z5o ι π0 i h::z7p ι π0 (i+1) r
def z2c(ι:List Nat)(π0 π:List Value):List Value:=z7p ι π0 0 π++skipN ι.length π0
theorem zcd{ι:List Nat}{base:Nat}{o':List (Option AObj)}:∀(l:List (Option AObj)) (k i:Nat),nth (zce ι base o' k l) i=(nth l i).map (zgn ι base o' (k+i))
 | [],_,_=>rfl
 | x::r,k,0=>rfl
 | x::r,k,i+1=>by rw [zce,nth,zcd r (k+1) i,nth,show k+1+i=k+(i+1)by omega]
theorem zax{ι:List Nat}{π0:List Value}:∀(l:List Value) (k i:Nat),nth (z7p ι π0 k l) i=(nth l i).map (z5o ι π0 (k+i))
 | [],_,_=>rfl
 | x::r,k,0=>rfl
 | x::r,k,i+1=>by rw [z7p,nth,zax r (k+1) i,nth,show k+1+i=k+(i+1)by omega]
theorem z8u{ι:List Nat}{base:Nat}{o':List (Option AObj)}:∀(l:List (Option AObj)) (k:Nat),(zce ι base o' k l).length=l.length
 | [],_=>rfl
 | x::r,k=>by simp [zce,z8u r (k+1)]
theorem z7o{ι:List Nat}{π0:List Value}:∀(l:List Value) (k:Nat),(z7p ι π0 k l).length=l.length
 | [],_=>rfl
 | x::r,k=>by simp [z7p,z7o r (k+1)]
theorem zdd{ρ:Nat→Nat}:∀(l:List (Option AObj)),(renT ρ l).length=l.length
 | []=>rfl
 | some o::r=>by simp [renT,zdd r]
 | none::r=>by simp [renT,zdd r]
theorem zdc{ρ:Nat→Nat}:∀(l:List (Option AObj)) {i:Nat} {o:AObj},nth (renT ρ l) i=some (some o)→∃o1,nth l i=some (some o1)∧o=o1.ren ρ
 | [],_,_,h=>by simp [renT,nth]at h
 | some o1::r,0,o,h=>by simp [renT,nth]at h;exact⟨o1,by simp [nth],h.symm⟩
 | none::r,0,o,h=>by simp [renT,nth]at h
 | some _::r,i+1,o,h=>by simp only [renT,nth]at h ⊢;exact zdc r h
 | none::r,i+1,o,h=>by simp only [renT,nth]at h ⊢;exact zdc r h
theorem zen{α:Type}:∀(n:Nat) (l:List α),(skipN n l).length=l.length-n
 | 0,l=>by simp [skipN]
 | n+1,[]=>by simp [skipN]
 | n+1,_::r=>by simp [skipN,zen n r]
def subR(ρ:Nat→Nat)(objs:List (Option AObj)):List Nat→List (Option AObj)→Prop
 | [],[]=>True
 | i::r,some o0::s=>(∃o,nth objs i=some (some o)∧OLe o (o0.ren ρ))∧subR ρ objs r s
 | _,_=>False
theorem zhn{ρ:Nat→Nat}{objs:List (Option AObj)}:∀{ι:List Nat} {s:List (Option AObj)},subR ρ objs ι s→ι.length=s.length
 | [],[],_=>rfl
 | i::r,some o0::s,h=>by simp [zhn h.2]
 | [],_::_,h=>h.elim
 | _::_,[],h=>h.elim
 | _::_,none::_,h=>h.elim
theorem z9n{ρ:Nat→Nat}{objs:List (Option AObj)}:∀{ι:List Nat} {s:List (Option AObj)} {j:Nat} {o0:AObj},subR ρ objs ι s→nth s j=some (some o0)→∃i o,nth ι j=some i∧nth objs i=some (some o)∧OLe o (o0.ren ρ)
 | [],[],_,_,_,h=>by simp [nth]at h
 | i::r,some o0::s,0,o1,hs,h=>by
  simp only [nth,Option.some.injEq]at h;subst h;obtain⟨o,h1,h2⟩:=hs.1;exact⟨i,o,rfl,h1,h2⟩
 | i::r,some o0::s,j+1,o1,hs,h=>z9n (ι:=r) (s:=s) hs.2 h
 | [],_::_,_,_,h,_=>h.elim
 | _::_,[],_,_,h,_=>h.elim
 | _::_,none::_,_,_,h,_=>h.elim
theorem zkl{ρ:Nat→Nat}{objs:List (Option AObj)}:∀{ι:List Nat} {s:List (Option AObj)} {j i:Nat},subR ρ objs ι s→nth ι j=some i→∃o0 o,nth s j=some (some o0)∧nth objs i=some (some o)
 | [],[],_,_,_,h=>by simp [nth]at h
 | i::r,some o0::s,0,i1,hs,h=>by
  simp only [nth,Option.some.injEq]at h;subst h;obtain⟨o,h1,h2⟩:=hs.1;exact⟨o0,o,rfl,h1⟩
 | i::r,some o0::s,j+1,i1,hs,h=>zkl (ι:=r) (s:=s) hs.2 h
 | [],_::_,_,_,h,_=>h.elim
 | _::_,[],_,_,h,_=>h.elim
 | _::_,none::_,_,_,h,_=>h.elim
section
variable {X:Nat→Prop}{π:List Value}{objs:List (Option AObj)}{w:World}
def lendX(X:Nat→Prop)(π:List Value)(objs:List (Option AObj))(ι:List Nat)(b:Nat):Prop:=X b∨∃i o h,posOf ι i=none∧nth objs i=some (some o)∧nth π i=some h∧blk h=some b
def lendP(π:List Value):List Nat→List Value
 | []=>[]
 | i::r=>(match nth π i with|some h=>h|none=>undef)::lendP π r
theorem z2d{π:List Value}:∀{ι:List Nat} {j i:Nat},nth ι j=some i→i<π.length→nth (lendP π ι) j=nth π i
 | [],_,_,h,_=>by simp [nth]at h
 | k::r,0,i,h,hl=>by
  simp only [nth,Option.some.injEq]at h;subst h;simp only [lendP,nth];cases e:nth π k with
  | some x=>rfl
  | none=>rw [z1k]at e;have:=List.getElem?_eq_none_iff.1 e;omega
 | k::r,j+1,i,h,hl=>by simp only [lendP,nth]at h ⊢;exact z2d h hl
theorem zff{π:List Value}:∀(ι:List Nat),(lendP π ι).length=ι.length
 | []=>rfl
 | _::r=>by simp [lendP,zff r]
variable {ι:List Nat}{objs0:List (Option AObj)}
theorem z6g(m:Mem X π objs w)(hs:subR (rho ι objs.length) objs ι objs0){j:Nat}{o0:AObj}{h:Value}(h1:nth objs0 j=some (some o0))(h2:nth (lendP π ι) j=some h):
  ∃i o,nth ι j=some i∧nth objs i=some (some o)∧nth π i=some h∧OLe o (o0.ren (rho ι objs.length)):=by
 obtain⟨i,o,a1,a2,a3⟩:=z9n hs h1;have hi:i<π.length:=by rw [m.len];exact z1r a2
 rw [z2d a1 hi]at h2;exact⟨i,o,a1,a2,h2,a3⟩
theorem z3z(m:Mem X π objs w)(hs:subR (rho ι objs.length) objs ι objs0):Keeps w (okOf X π objs) w (okOf (lendX X π objs ι) (lendP π ι) objs0):=by
 refine fun b o u h1 h2=>⟨⟨?_,fun j o0 h a1 a2=>?_⟩,h2⟩
 ·rintro(hx|⟨i,o,h,_,h3,h4,h5⟩)
  ·exact h1.1 hx
  ·exact h1.2 i o h h3 h4 h5
 ·obtain⟨i,o,_,b2,b3,_⟩:=z6g m hs a1 a2;exact h1.2 i o h b2 b3
theorem z8b{P:Program}[Globals P]{ρ:Nat→Nat}(g:GOk P π objs w)(m:Mem X π objs w)(hs:subR ρ objs ι objs0):GOk P (lendP π ι) objs0 w:=g.sub fun j o k b h1 h2 h3=>by
 obtain⟨i,o',a1,a2,_⟩:=z9n hs h1;refine⟨i,o',a2,?_⟩;rw [z2d a1 (by rw [m.len];exact z1r a2)]at h2;exact h2
theorem z8a(m:Mem X π objs w)(hs:subR (rho ι objs.length) objs ι objs0)(hnd:z3m ι=true)(hro:refsO ι.length objs0=true):Mem (lendX X π objs ι) (lendP π ι) objs0 w:=by
 refine⟨by rw [zff,zhn hs],?_,?_,?_,?_⟩
 ·intro j o0 h1;obtain⟨i,o,a1,a2,a3⟩:=z9n hs h1;have hi:i<π.length:=by rw [m.len];exact z1r a2
  obtain⟨h,b1,b2⟩:=m.obj i o a2;refine⟨h,by rw [z2d a1 hi];exact b1,?_⟩;refine RelO.unren (m:=ι.length) (z3z m hs) ?_ o0 (z67 hro h1) (fun _ _=>rfl) (a3 _ _ _ _ b2);intro j' h' hj' hh';obtain⟨i',hi'⟩:∃i',nth ι j'=some i':=by
   rw [z1k];exact⟨ι[j'],List.getElem?_eq_getElem hj'⟩
  rw [z9a hi']at hh';rw [z2d hi' (z1r hh')];exact hh'
 ·intro j j' o1 o2 h1 h2 b hne a1 a2 a3 a4 a5;obtain⟨i,o,b1,b2,b3,_⟩:=z6g m hs a1 a3;obtain⟨i',o',c1,c2,c3,_⟩:=z6g m hs a2 a4;refine m.dist i i' o o' h1 h2 b ?_ b2 c2 b3 c3 a5;intro e;subst e;have:=z6s hnd b1;rw [z6s hnd c1]at this;cases this;exact hne rfl
 ·intro j o0 h b a1 a2 a3;obtain⟨i,o,b1,b2,b3,_⟩:=z6g m hs a1 a2;rintro(hx|⟨i',o',h',c1,c2,c3,c4⟩)
  ·exact m.ext i o h b b2 b3 a3 hx
  ·have hne:i'≠i:=by
    intro e;subst e;rw [z6s hnd b1]at c1;cases c1
   exact m.dist i' i o' o h' h b hne c2 b2 c3 b3 c4 a3
 ·rintro b (hx|⟨i',o',h',c1,c2,c3,c4⟩)
  ·exact m.inX b hx
  ·exact m.lt c2 c3 c4
structure Lended(X:Nat→Prop)(π:List Value)(objs:List (Option AObj))(w:World)(ι:List Nat)(π0:List Value)(o':List (Option AObj))(w':World):Prop where
 mem:Mem X (z2c ι π0 π) (z35 ι o' objs) w'
 keep:∀a v,RelV w (okOf X π objs) π a v→RelV w' (okOf X (z2c ι π0 π) (z35 ι o' objs)) (z2c ι π0 π) (a.dropS (memN ι)) v
 back:∀a v,RelV w' (okOf (lendX X π objs ι) π0 o') π0 a v→RelV w' (okOf X (z2c ι π0 π) (z35 ι o' objs)) (z2c ι π0 π) (a.ren (rho ι objs.length)) v
 hist:Hist π objs w (z2c ι π0 π) (z35 ι o' objs) w'
theorem z6v{π0:List Value}{i:Nat}{h:Value}(hp:nth π i=some h):nth (z2c ι π0 π) i=some (z5o ι π0 i h):=by
 refine z48 ?_;rw [zax,hp,Nat.zero_add];rfl
theorem zjg{π0:List Value}{j:Nat}(hj:ι.length≤j):nth (z2c ι π0 π) (π.length+(j-ι.length))=nth π0 j:=by
 unfold z2c;have:=z3t (l:=z7p ι π0 0 π) (r:=skipN ι.length π0) (m:=j-ι.length);rw [z7o]at this;rw [this,zau,show ι.length+(j-ι.length)=j by omega]
theorem zjf(m:Mem X π objs w)(hs:subR (rho ι objs.length) objs ι objs0)(hnd:z3m ι=true){π0:List Value}{j:Nat}{h:Value}(hj:nth π0 j=some h):nth (z2c ι π0 π) (rho ι objs.length j)=some h:=by
 rcases Nat.lt_or_ge j ι.length with hlt|hge
 ·obtain⟨i,hi⟩:∃i,nth ι j=some i:=by rw [z1k];exact⟨ι[j],List.getElem?_eq_getElem hlt⟩
  rw [z9a hi];obtain⟨o0,o,_,h2⟩:=zkl hs hi;obtain⟨k,hk,_⟩:=m.obj i o h2;rw [z6v hk];simp [z5o,z6s hnd hi,hj]
 ·rw [zl4 hge,←m.len,zjg hge];exact hj
theorem z2r(m:Mem X π objs w)(hnd:z3m ι=true){o':List (Option AObj)}{i:Nat}{o:AObj}(h:nth (z35 ι o' objs) i=some (some o)):
  (posOf ι i=none∧i<objs.length∧∃o1,nth objs i=some (some o1)∧o=o1.dropS (memN ι))∨(∃j o1,rho ι objs.length j=i∧nth o' j=some (some o1)∧o=o1.ren (rho ι objs.length)∧(nth ι j=some i∨(ι.length≤j∧objs.length≤i))):=by
 rcases z1w h with h1|⟨h1,h2⟩
 ·rw [zcd,Nat.zero_add]at h1;cases hx:nth objs i with
  | none=>rw [hx]at h1;cases h1
  | some x=>
   rw [hx]at h1;simp only [Option.map_some,Option.some.injEq]at h1;unfold zgn at h1;split at h1
   ·rename_i j hj;split at h1
    ·rename_i o1 ho1;cases h1;exact .inr ⟨j,o1,z9a (z86 hj),ho1,rfl,.inl (z86 hj)⟩
    ·cases h1
   ·rename_i hp;split at h1
    ·rename_i o1;cases h1;exact .inl ⟨hp,z1r hx,o1,rfl,rfl⟩
    ·cases h1
 ·rw [z8u]at h1 h2;obtain⟨o1,h3,h4⟩:=zdc _ h2;rw [zau]at h3;refine .inr ⟨ι.length+(i-objs.length),o1,?_,h3,h4,.inr ⟨by omega,h1⟩⟩;rw [zl4 (by omega)];omega
theorem lended(m:Mem X π objs w)(hs:subR (rho ι objs.length) objs ι objs0)(hnd:z3m ι=true){π0:List Value}{o':List (Option AObj)}{w':World}
  (m':Mem (lendX X π objs ι) π0 o' w') (hh:Hist (lendP π ι) objs0 w π0 o' w'):Lended X π objs w ι π0 o' w':=by
 have hrho:∀{j:Nat} {h:Value},nth π0 j=some h→nth (z2c ι π0 π) (rho ι objs.length j)=some h:=fun hj=>zjf m hs hnd hj
 -- a lent object's handle behind the call
 have hget:∀{j i:Nat} {o1:AObj} {h:Value},nth o' j=some (some o1)→rho ι objs.length j=i→nth (z2c ι π0 π) i=some h→nth π0 j=some h:=by
  intro j i o1 h h1 h2 h3;obtain⟨k,h4,_⟩:=m'.obj j o1 h1;have:=hrho h4;rw [h2,h3]at this;cases this;exact h4
 have hown:∀{i:Nat} {o1:AObj} {h:Value},posOf ι i=none→nth objs i=some (some o1)→nth (z2c ι π0 π) i=some h→nth π i=some h:=by
  intro i o1 h h1 h2 h3;obtain⟨k,h4,_⟩:=m.obj i o1 h2;rw [z6v h4]at h3;simp only [z5o,h1,Option.some.injEq]at h3;subst h3;exact h4
 -- blocks of the callee's that were the caller's
 have hold0:∀{i:Nat} {o1:AObj} {h:Value} {b:Nat},nth objs i=some (some o1)→nth π i=some h→blk h=some b→posOf ι i=none→w'.heap[b]?=w.heap[b]?:=by
  intro i o1 h b h1 h2 h3 h4;refine hh.heap b (m.lt h1 h2 h3) ?_;intro j o0 k a1 a2 a3;obtain⟨i',o,b1,b2,b3,_⟩:=z6g m hs a1 a2;have hne:i≠i':=by
   intro e;subst e;rw [z6s hnd b1]at h4;cases h4
  exact m.dist i i' o1 o h k b hne h1 b2 h2 b3 h3 a3
 have howned:∀{j:Nat} {o1:AObj} {h:Value} {b:Nat},nth o' j=some (some o1)→nth π0 j=some h→blk h=some b→w.heap.size≤b∨∃i o h',nth objs i=some (some o)∧nth π i=some h'∧blk h'=some b:=by
  intro j o1 h b h1 h2 h3;rcases hh.own j o1 h b h1 h2 h3 with h4|⟨j',o0,h',a1,a2,a3⟩
  ·exact .inl h4
  ·obtain⟨i,o,_,b2,b3,_⟩:=z6g m hs a1 a2;exact .inr ⟨i,o,h',b2,b3,a3⟩
 have hkeep:Keeps w (okOf X π objs) w' (okOf X (z2c ι π0 π) (z35 ι o' objs)):=by
  intro b o u h1 h2;have hb:=z32 h2;refine⟨⟨h1.1,fun i o1 h a1 a2 a3=>?_⟩,?_⟩
  ·rcases z2r m hnd a1 with⟨b1,_,o2,b2,_⟩|⟨j,o2,b1,b2,_,_⟩
   ·exact h1.2 i o2 h b2 (hown b1 b2 a2) a3
   ·have hj:=hget b2 b1 a2;rcases howned b2 hj a3 with c1|⟨i',o3,h',c1,c2,c3⟩
    ·exact absurd hb (Nat.not_lt.2 c1)
    ·exact h1.2 i' o3 h' c1 c2 c3
  ·unfold World.cell? at h2 ⊢;rw [hh.heap b hb ?_]
   ·exact h2
   ·intro j o0 k a1 a2 a3;obtain⟨i',o2,b1,b2,b3,_⟩:=z6g m hs a1 a2;exact h1.2 i' o2 k b2 b3 a3
 have hkeep0:Keeps w' (okOf (lendX X π objs ι) π0 o') w' (okOf X (z2c ι π0 π) (z35 ι o' objs)):=by
  refine fun b o u h1 h2=>⟨⟨fun hx=>h1.1 (.inl hx),fun i o1 h a1 a2 a3=>?_⟩,h2⟩
  rcases z2r m hnd a1 with⟨b1,_,o2,b2,_⟩|⟨j,o2,b1,b2,_,_⟩
  ·exact h1.1 (.inr ⟨i,o2,h,b1,b2,hown b1 b2 a2,a3⟩)
  ·exact h1.2 j o2 h b2 (hget b2 b1 a2) a3
 have hp:∀j h,nth π j=some h→memN ι j=false∨isSl h=false→nth (z2c ι π0 π) j=some h:=by
  intro i h h1 h2;rw [z6v h1];unfold z5o;cases hpo:posOf ι i with
  | none=>rfl
  | some j=>
   have hsl:isSl h=false:=by
    rcases h2 with h2|h2
    ·simp [memN,hpo]at h2
    ·exact h2
   have hi:=z86 hpo;have:=hh.hand j h (by rw [z2d hi (z1r h1)];exact h1) hsl;simp [this]
 refine⟨⟨?_,?_,?_,?_,?_⟩,fun a v h=>h.dropS hkeep hp,fun a v h=>h.ren hkeep0 (fun j k hj=>hrho hj),⟨hh.os,hh.tape,hh.output,hh.size,?_,?_,?_⟩⟩
 ·simp only [z2c,z35,List.length_append,z7o,z8u,zdd,zen,m.len,m'.len]
 ·intro i o h;rcases z2r m hnd h with⟨b1,_,o2,b2,rfl⟩|⟨j,o2,b1,b2,rfl,_⟩
  ·obtain⟨k,h4,h5⟩:=m.obj i o2 b2;refine⟨k,?_,h5.dropS hkeep hp (fun b hb=>hold0 b2 h4 hb b1)⟩;rw [z6v h4];simp [z5o,b1]
  ·obtain⟨k,h4,h5⟩:=m'.obj j o2 b2;exact⟨k,by rw [←b1];exact hrho h4,h5.ren hkeep0 (fun j k hj=>hrho hj) (fun _ _=>rfl)⟩
 ·intro i j o1 o2 h1 h2 b hne a1 a2 a3 a4 a5 a6;rcases z2r m hnd a1 with⟨b1,_,p1,b2,_⟩|⟨j1,p1,b1,b2,_,_⟩<;>rcases z2r m hnd a2 with⟨c1,_,p2,c2,_⟩|⟨j2,p2,c1,c2,_,_⟩
  ·exact m.dist i j p1 p2 h1 h2 b hne b2 c2 (hown b1 b2 a3) (hown c1 c2 a4) a5 a6
  ·exact m'.ext j2 p2 h2 b c2 (hget c2 c1 a4) a6 (.inr ⟨i,p1,h1,b1,b2,hown b1 b2 a3,a5⟩)
  ·exact m'.ext j1 p1 h1 b b2 (hget b2 b1 a3) a5 (.inr ⟨j,p2,h2,c1,c2,hown c1 c2 a4,a6⟩)
  ·refine m'.dist j1 j2 p1 p2 h1 h2 b ?_ b2 c2 (hget b2 b1 a3) (hget c2 c1 a4) a5 a6;intro e;subst e;exact hne (b1.symm.trans c1)
 ·intro i o1 h b a1 a2 a3 hx;rcases z2r m hnd a1 with⟨b1,_,p1,b2,_⟩|⟨j1,p1,b1,b2,_,_⟩
  ·exact m.ext i p1 h b b2 (hown b1 b2 a2) a3 hx
  ·exact m'.ext j1 p1 h b b2 (hget b2 b1 a2) a3 (.inl hx)
 ·intro b hx;have:=m.inX b hx;have:=hh.size;omega
 ·intro b hb hn;refine hh.heap b hb ?_;intro j o0 k a1 a2 a3;obtain⟨i',o2,b1,b2,b3,_⟩:=z6g m hs a1 a2;exact hn i' o2 k b2 b3 a3
 ·intro i o1 h b a1 a2 a3;rcases z2r m hnd a1 with⟨b1,_,p1,b2,_⟩|⟨j1,p1,b1,b2,_,_⟩
  ·exact .inr ⟨i,p1,h,b2,hown b1 b2 a2,a3⟩
  ·exact howned b2 (hget b2 b1 a2) a3
 ·intro i h h1 h2;exact hp i h h1 (.inr h2)
end
section
variable {P:Program}[Globals P]{T:Tab}{f:FuncId}{fn:Func}{n:Nat}{C:Cx}{R:AV→List (Option AObj)→Prop}{todo todo':List Item}{env env':Env}{objs objs':List (Option AObj)}{nd:Prop}
theorem zet(ι:List Nat){g:FuncId}{az bs:List AV}{objs0:List (Option AObj)}{dst:Option Tmp}{R':AV→List (Option AObj)→Prop}(hT:TabOk P T)(hf:P.funcs[f]?=some fn)(h:srun T n fn.results.toList 2000 True todo env objs=.call nd g az dst todo' env' objs')(hn:nd)
  (hc:ACall P g bs objs0 R') (hs:subR (rho ι objs'.length) objs' ι objs0) (hv:VLs az (AV.rens (rho ι objs'.length) bs)) (hnd:z3m ι=true) (hd:refsBs ι.length bs=true) (hro:refsO ι.length objs0=true) (hdst:∃e,putE n dst .dead env'=some e)
  (k:∀r o,R' r o→ASat P f n C todo' (putD dst (r.ren (rho ι objs'.length)) (z3p (memN ι) env')) (z35 ι o objs') R) (hG:GOk P C.π C.objs C.w:=by with_reducible assumption):ASat P f n C todo env objs R:=by
 suffices hcc:Cont P f n C R (.call nd g az dst todo' env' objs')from(z1j hT hf 2000 True todo env objs (by rw [h];exact hcc)).2
 refine⟨hn,hdst,fun π w tmps hs1 hm hh he vs hvs=>?_⟩;have hargs:RelVs w (okOf (lendX C.X π objs' ι) (lendP π ι) objs0) (lendP π ι) bs vs:=by
  refine RelVs.unren (m:=ι.length) (z3z hm hs) ?_ bs hd (hv.rel hvs);intro j' h' hj' hh';obtain⟨i',hi'⟩:∃i',nth ι j'=some i':=by
   rw [z1k];exact⟨ι[j'],List.getElem?_eq_getElem hj'⟩
  rw [z9a hi']at hh';rw [z2d hi' (z1r hh')];exact hh'
 refine(hc _ _ w vs (z8b (hG.hist hh) hm hs) (z8a hm hs hnd hro) hargs).mono ?_;rintro e w' ⟨v,r,o,π',rfl,hR,hm',hrel,hhist⟩;refine .inl ⟨v,rfl,?_⟩;have L:=lended hm hs hnd hm' hhist;obtain⟨e,hput⟩:=hdst;have he':z13 w' (okOf C.X (z2c ι π' π) (z35 ι o objs')) (z2c ι π' π) (z3p (memN ι) env') tmps:=by
  intro t a ht;rw [z7q]at ht;cases hl:look env' t with
  | none=>rw [hl]at ht;cases ht
  | some b=>
   rw [hl]at ht;simp only [Option.map_some,Option.some.injEq]at ht;subst ht;exact L.keep _ _ (he t b hl)
 have hput':putE n dst .dead (z3p (memN ι) env')=some (putD dst .dead (z3p (memN ι) env')):=by
  cases dst with
  | none=>rfl
  | some d=>
   simp only [putE]at hput ⊢;cases hb:Nat.blt d n with
   | false=>rw [hb]at hput;cases hput
   | true=>rfl
 obtain⟨p1,p2⟩:=z5m he' hs1 (zgk hput') (L.back _ _ hrel);exact k r o hR _ w' _ p2 L.mem (hh.trans L.hist) p1
mutual
def AV.frz(i:Nat)(x:D):AV→AV
 | .gs j=>match Nat.beq j i with|true=>.d x|false=>.gs j
 | .ge j s e o=>match Nat.beq j i with|true=>.dead|false=>.ge j s e o
 | .ag cs=>.ag (AV.frzs i x cs)
 | .tp cs=>.tp (AV.frzs i x cs)
 | .fn f cs=>.fn f (AV.frzs i x cs)
 | .ifc t y=>.ifc t (AV.frz i x y)
 | .d x=>.d x
 | .ro x=>.ro x
 | .ptr j o=>.ptr j o
 | .mp j=>.mp j
 | .e0 s=>.e0 s
 | .lit b=>.lit b
 | .und=>.und
 | .orc b=>.orc b
 | .dead=>.dead
def AV.frzs(i:Nat)(x:D):List AV→List AV
 | []=>[]
 | y::r=>AV.frz i x y::AV.frzs i x r
end
def frzEs(i:Nat)(x:D):List (Value×AV)→List (Value×AV)
 | []=>[]
 | (k,y)::r=>(k,y.frz i x)::frzEs i x r
def AObj.frz(i:Nat)(x:D):AObj→AObj
 | .cells e cs=>.cells e (AV.frzs i x cs)
 | .grow e s xs rd=>.grow e s xs rd
 | .siter s p=>.siter s p
 | .hold a v=>.hold (a.frz i x) v
 | .map es=>.map (frzEs i x es)
def frzO(i:Nat)(x:D):Nat→List (Option AObj)→List (Option AObj)
 | _,[]=>[]
 | k,o::r=>(match Nat.beq k i with|true=>none|false=>match o with|some o=>some (o.frz i x)|none=>none)::frzO i x (k+1) r
def frzE(i:Nat)(x:D):Env→Env
 | []=>[]
 | (t,a)::r=>(t,a.frz i x)::frzE i x r
theorem zaz(i:Nat)(x:D):∀(env:Env) (t:Nat),look (frzE i x env) t=(look env t).map (AV.frz i x)
 | [],t=>rfl
 | (k,a)::r,t=>by
  simp only [frzE,look];split
  ·rfl
  ·exact zaz i x r t
mutual
theorem RelV.frz{w w':World}{ok ok':Nat→Prop}{π:List Value}{i:Nat}{x:D}(hk:Keeps w ok w' ok')(hx:∀h,nth π i=some h→isSl h=true→RelD w' ok' x h){a:AV}{v:Value}:RelV w ok π a v→RelV w' ok' π (a.frz i x) v
 | .d h=>by simp only [AV.frz];exact .d (h.mono hk)
 | .ro h hm=>by simp only [AV.frz];exact .ro (h.mono hk) (z2w hk hm)
 | .ptr h=>by simp only [AV.frz];exact .ptr h
 | .gs (i:=j) h=>by
  simp only [AV.frz];split
  ·rename_i e;have:=Nat.eq_of_beq_eq_true e;subst this;exact .d (hx _ h rfl)
  ·exact .gs h
 | .ge (i:=j) h=>by
  simp only [AV.frz];split
  ·exact .dead
  ·exact .ge h
 | .mp h=>by simp only [AV.frz];exact .mp h
 | .e0=>by simp only [AV.frz];exact .e0
 | .lit=>by simp only [AV.frz];exact .lit
 | .und=>by simp only [AV.frz];exact .und
 | .orc=>by simp only [AV.frz];exact .orc
 | .ag h hf=>by simp only [AV.frz];exact .ag (h.frz hk hx) hf
 | .tp h=>by simp only [AV.frz];exact .tp (h.frz hk hx)
 | .fn h=>by simp only [AV.frz];exact .fn (h.frz hk hx)
 | .ifc h=>by simp only [AV.frz];exact .ifc (h.frz hk hx)
 | .dead=>by simp only [AV.frz];exact .dead
theorem RelVs.frz{w w':World}{ok ok':Nat→Prop}{π:List Value}{i:Nat}{x:D}(hk:Keeps w ok w' ok')(hx:∀h,nth π i=some h→isSl h=true→RelD w' ok' x h){a:List AV}{v:List Value}:RelVs w ok π a v→RelVs w' ok' π (AV.frzs i x a) v
 | .nil=>.nil
 | .cons h t=>.cons (h.frz hk hx) (t.frz hk hx)
end
theorem RelEs.frz{w w':World}{ok ok':Nat→Prop}{π:List Value}{i:Nat}{x:D}(hk:Keeps w ok w' ok')(hx:∀h,nth π i=some h→isSl h=true→RelD w' ok' x h):∀{a:List (Value×AV)} {v:List MapEntry},RelEs w ok π a v→RelEs w' ok' π (frzEs i x a) v
 | _,_,.nil=>.nil
 | _,_,.cons h t=>.cons (h.frz hk hx) (t.frz hk hx)
theorem RelO.frz{w w':World}{ok ok':Nat→Prop}{π:List Value}{i:Nat}{x:D}(hk:Keeps w ok w' ok')(hx:∀h,nth π i=some h→isSl h=true→RelD w' ok' x h){o:AObj}{h:Value}(hh:∀b,blk h=some b→w'.heap[b]?=w.heap[b]?):RelO w ok π o h→RelO w' ok' π (o.frz i x) h
 | .cells hb h hf=>.cells ((hh _ rfl).trans hb) (h.frz hk hx) hf
 | .gnil=>.gnil
 | .grow hb hz h hu hc hm ho hr=>.grow ((hh _ rfl).trans hb) hz (h.mono hk) hu hc hm ho hr
 | .map hb h=>.map ((hh _ rfl).trans hb) (h.frz hk hx)
 | .hold h=>.hold (h.frz hk hx)
 | .siter hb=>.siter ((hh _ rfl).trans hb)
theorem ze1{i:Nat}{x:D}:∀{l:List (Option AObj)} {k j:Nat} {o:AObj},nth (frzO i x k l) j=some (some o)→k+j≠i∧∃o1,nth l j=some (some o1)∧o=o1.frz i x
 | [],_,_,_,h=>by simp [frzO,nth]at h
 | y::r,k,0,o,h=>by
  simp only [frzO,nth,Option.some.injEq]at h;split at h
  ·cases h
  ·rename_i e;split at h
   ·rename_i o1;cases h;refine⟨?_,o1,rfl,rfl⟩;intro e';have e2:k=i:=e';subst e2;simp at e
   ·cases h
 | y::r,k,j+1,o,h=>by
  simp only [frzO,nth]at h;obtain⟨h1,h2⟩:=ze1 h;exact⟨by omega,h2⟩
theorem ze2{i:Nat}{x:D}:∀(l:List (Option AObj)) (k:Nat),(frzO i x k l).length=l.length
 | [],_=>rfl
 | y::r,k=>by simp [frzO,ze2 r]
theorem zj(i:Nat){e:TypeId}{s:Nat}{xs:List D}{rd:Nat→D}(ho:nth objs i=some (some (.grow e s xs rd)))(k:ASat P f n C todo (frzE i (.sl s xs rd) env) (frzO i (.sl s xs rd) 0 objs) R):ASat P f n C todo env objs R:=by
 intro π w tmps hn hm hh he;have hold:∀{j:Nat} {o1:AObj},nth (frzO i (.sl s xs rd) 0 objs) j=some (some o1)→j≠i∧∃o2,nth objs j=some (some o2)∧o1=o2.frz i (.sl s xs rd):=by
  intro j o1 hj;obtain⟨h1,h2⟩:=ze1 hj;exact⟨by omega,h2⟩
 have hk:Keeps w (okOf C.X π objs) w (okOf C.X π (frzO i (.sl s xs rd) 0 objs)):=by
  refine fun b o u h1 h2=>⟨⟨h1.1,fun j o1 h hj hp=>?_⟩,h2⟩
  obtain⟨_,o2,h3,_⟩:=hold hj;exact h1.2 j o2 h h3 hp
 have hx:∀h,nth π i=some h→isSl h=true→RelD w (okOf C.X π (frzO i (.sl s xs rd) 0 objs)) (.sl s xs rd) h:=by
  intro h hp hsl;obtain⟨h',hp',hrel⟩:=hm.obj i _ ho;rw [hp]at hp';cases hp';cases hrel with
  | gnil=>exact .nil (Nat.zero_le _)
  | grow hb hz he hu hc hmx ho2 hr2=>
   refine .sl (he.mono hk) (fun q hq=>⟨⟨hm.ext i _ _ _ ho hp rfl,fun j o1 h hj hpj=>?_⟩,?_⟩) hc hmx hr2
   ·obtain⟨hne,o2,h3,_⟩:=hold hj;intro e;exact hm.dist j i o2 _ h _ _ hne h3 ho hpj hp e rfl
   ·rw [cell_of_heap hb];exact hu q hq
 refine k π w tmps hn ⟨by rw [ze2];exact hm.len,?_,?_,?_,hm.inX⟩ ⟨hh.os,hh.tape,hh.output,hh.size,hh.heap,?_,hh.hand⟩ ?_
 ·intro j o1 hj;obtain⟨_,o2,h3,rfl⟩:=hold hj;obtain⟨h,h5,h6⟩:=hm.obj j o2 h3;exact⟨h,h5,h6.frz hk hx (fun _ _=>rfl)⟩
 ·intro j j' o1 o2 h1 h2 b hne a1 a2;obtain⟨_,p1,b1,_⟩:=hold a1;obtain⟨_,p2,b2,_⟩:=hold a2;exact hm.dist j j' p1 p2 h1 h2 b hne b1 b2
 ·intro j o1 h b a1;obtain⟨_,p1,b1,_⟩:=hold a1;exact hm.ext j p1 h b b1
 ·intro j o1 h b a1;obtain⟨_,p1,b1,_⟩:=hold a1;exact hh.own j p1 h b b1
 ·intro t a ht;rw [zaz]at ht;cases hl:look env t with
  | none=>rw [hl]at ht;cases ht
  | some b=>
   rw [hl]at ht;simp only [Option.map_some,Option.some.injEq]at ht;subst ht;exact(he t b hl).frz hk hx
end
end Ab
namespace Ab
open Go
variable [Draws]
section
variable {P:Program}[Globals P]{T:Tab}{f:FuncId}{fn:Func}{n:Nat}{C:Cx}{R R1:AV→List (Option AObj)→Prop}{todo todo':List Item}{env env':Env}{objs objs':List (Option AObj)}{nd:Prop}
theorem zab{b:Code}{k:List Item}(h:ASat P f n C (.code b::.inLoop b::k) env objs R):ASat P f n C (.code (.loop b)::k) env objs R:=
 fun π w tmps hn hm hh he=>.loop (h π w tmps hn hm hh he)
theorem zac{b:Code}{k:List Item}(h:ASat P f n C (.code b::.inLoop b::k) env objs R):ASat P f n C (.inLoop b::k) env objs R:=
 fun π w tmps hn hm hh he=>.inLoop (h π w tmps hn hm hh he)
theorem Sat.mono'{D:List Deferred}{tmps:Array Value}{w:World}{Q Q':Ending→World→Prop}(h:Sat P f D todo tmps w Q)(hq:∀e w',Q e w'→Q' e w'):Sat P f D todo tmps w Q':=by
 intro kd cs;obtain⟨e,w',fr,h1,h2⟩:=h kd cs;exact⟨e,w',fr,hq _ _ h1,h2⟩
def Less(m:Nat)(R:AV→List (Option AObj)→Prop)(r:AV)(o:List (Option AObj)):Prop:=∃r2 o2,R r2 o2∧VLe r r2∧subO o2 o∧refsB o2.length r2=true∧refsO o2.length o2=true∧m≤o2.length
theorem zql{X:Nat→Prop}{π:List Value}{w:World}(hm:Mem X π objs w)(hO:subO objs' objs)(hro:refsO objs'.length objs'=true):
  Mem X (π.take objs'.length) objs' w∧(∀a b v,VLe a b→refsB objs'.length b=true→RelV w (okOf X π objs) π a v→RelV w (okOf X (π.take objs'.length) objs') (π.take objs'.length) b v) ∧
   (∀{π0:List Value} {objs0:List (Option AObj)} {w0:World},Hist π0 objs0 w0 π objs w→π0.length≤objs'.length→Hist π0 objs0 w0 (π.take objs'.length) objs' w):=by
 have hlen:=z9o hO;have hml:=hm.len;have hold:∀{i:Nat} {o:AObj} {h:Value},nth objs' i=some (some o)→nth (π.take objs'.length) i=some h→∃o',nth objs i=some (some o')∧OLe o' o∧nth π i=some h:=by
  intro i o h h1 h2;obtain⟨o',h3,h4⟩:=z6r hO h1;exact⟨o',h3,h4,(zav h2).2⟩
 have hk:Keeps w (okOf X π objs) w (okOf X (π.take objs'.length) objs'):=by
  intro b o u h1 h2;refine⟨⟨h1.1,fun i ob h h3 h4=>?_⟩,h2⟩;obtain⟨o',h5,_,h6⟩:=hold h3 h4;exact h1.2 i o' h h5 h6
 have hp:∀j h,j<objs'.length→nth π j=some h→nth (π.take objs'.length) j=some h:=fun j h hj h1=>z9s hj h1
 refine⟨⟨by rw [List.length_take];omega,?_,?_,?_,hm.inX⟩,fun a b v hab hr h=>(hab _ _ _ _ h).cut hk hp hr,fun {π0 objs0 w0} hh hle=>⟨hh.os,hh.tape,hh.output,hh.size,hh.heap,?_,?_⟩⟩
 ·intro i o ho;obtain⟨o',h3,h4⟩:=z6r hO ho;obtain⟨h,h5,h6⟩:=hm.obj i o' h3;exact⟨h,hp i h (z1r ho) h5,(h4 _ _ _ _ h6).cut hk hp (z67 hro ho) (fun _ _=>rfl)⟩
 ·intro i j o o' h h' b hne h1 h2 h3 h4;obtain⟨o1,a1,_,a2⟩:=hold h1 h3;obtain⟨o2,b1,_,b2⟩:=hold h2 h4;exact hm.dist i j o1 o2 h h' b hne a1 b1 a2 b2
 ·intro i o h b h1 h2;obtain⟨o1,a1,_,a2⟩:=hold h1 h2;exact hm.ext i o1 h b a1 a2
 ·intro i o h b h1 h2;obtain⟨o1,a1,_,a2⟩:=hold h1 h2;exact hh.own i o1 h b a1 a2
 ·intro i h h1 h2;have:=z1r h1;exact z9s (by omega) (hh.hand i h h1 h2)
theorem znk(hCl:C.π.length=C.objs.length)(h:ASat P f n C todo env objs R1)(hR:∀r o,R1 r o→Less C.objs.length R r o):ASat P f n C todo env objs R:=by
 intro π w tmps hs hm hh he;refine(h π w tmps hs hm hh he).mono' ?_;rintro e w' (⟨v,r,o,π',rfl,h1,h2,h3,h4⟩|hp)
 ·obtain⟨r2,o2,g1,g2,g3,g4,g5,g6⟩:=hR r o h1;obtain⟨m1,m2,m3⟩:=zql h2 g3 g5;exact .inl ⟨v,r2,o2,_,rfl,g1,m1,m2 _ _ _ g2 g4 h3,m3 h4 (by omega)⟩
 ·exact .inr hp
theorem zoh{r r2:AV}{o2:List (Option AObj)}{o0:List (Option AObj)}(hT:TabOk P T)(hf:P.funcs[f]?=some fn)(h:srun T n fn.results.toList 2000 True todo env objs=.ret nd r objs')(hn:nd)
  (hC:C.objs=o0) (hCl:C.π.length=C.objs.length) (hr:VLe r r2) (hO:subO o2 objs') (hb:refsB o2.length r2=true) (hro:refsO o2.length o2=true) (hl:o0.length≤o2.length) (hR:R r2 o2) (hds:C.ds=[]:=by with_reducible assumption):ASat P f n C todo env objs R:=
 znk hCl (zkq (R:=fun r' o'=>r'=r∧o'=objs') hT hf h hn ⟨rfl,rfl⟩ hds) (by rintro _ _ ⟨rfl,rfl⟩;exact⟨r2,o2,hR,hr,hO,hb,hro,by rw [hC];exact hl⟩)
theorem ACall.less{az:List AV}(h:ACall P f az objs R1)(hR:∀r o,R1 r o→Less objs.length R r o):ACall P f az objs R:=by
 intro X π w vs g m hv;refine(h X π w vs g m hv).mono ?_;rintro e w' ⟨v,r,o,π',rfl,h1,h2,h3,h4⟩;obtain⟨r2,o2,g1,g2,g3,g4,g5,g6⟩:=hR r o h1;obtain⟨m1,m2,m3⟩:=zql h2 g3 g5;exact⟨v,r2,o2,_,rfl,g1,m1,m2 _ _ _ g2 g4 h3,m3 h4 (by have:=m.len;simp only at this ⊢;omega)⟩
theorem z6e{α:Type}{l:List α}{i:Nat}{x:α}(h:nth l i=some x):za l i x=l:=by
 rw [z1t];rw [z1k]at h;exact List.ext_getElem? fun j=>by
  rw [List.getElem?_set];split
  ·rename_i e;subst e;split
   ·exact h.symm
   ·rename_i hlt;have:=(List.getElem?_eq_some_iff.1 h).1;omega
  ·rfl
theorem z2q(i k:Nat){e e':TypeId}{cs:List AV}{s:Nat}(rd:Nat→D)(ho:nth objs i=some (some (.cells e cs)))(hc:nth cs k=some (.d (.v (.slice none 0 0))))
  (kk:ASat P f n C todo env (za objs i (some (.cells e (za cs k (.gs objs.length))))++[some (.grow e' s [] rd)]) R):ASat P f n C todo env objs R:=by
 intro π w tmps hn hm hh he;have htr:Tr C.X π objs w none (π++[.slice none 0 0]) (objs++[some (.grow e' s [] rd)]) w:=z4r hm rfl rfl ⟨rfl,z17 (Nat.le_refl _)⟩ (Nat.le_refl _) (fun _ _=>rfl) _ _ (by intro b e;cases e) .gnil;have hm1:=htr.mem;have ho1:nth (objs++[some (.grow e' s [] rd)]) i=some (some (.cells e cs)):=z48 ho;have hset:za objs i (some (.cells e (za cs k (.gs objs.length))))++[some (.grow e' s [] rd)]=za (objs++[some (.grow e' s [] rd)]) i (some (.cells e (za cs k (.gs objs.length)))):=by
  rw [z1t objs,z1t (objs++_),List.set_append_left _ _ (z1r ho)]
 rw [hset]at kk;obtain⟨h,h5,h6⟩:=hm1.obj i _ ho1;cases h6 with
 | cells hb hcs hf=>
  rename_i b vs;obtain⟨v,hv1,hv2⟩:=hcs.get hc;have hv3:v=.slice none 0 0:=by cases hv2 with|d h=>cases h;rfl
  subst hv3;have htr2:=zeh (o':=.cells e (za cs k (.gs objs.length))) hm1 ho1 h5 (b:=b) rfl rfl rfl ⟨rfl,z17 (Nat.le_refl _)⟩ rfl (fun _ _=>rfl) ?_
  ·exact kk _ w tmps hn htr2.mem (z22 (z22 hh htr) htr2) (z5c (z5c he htr) htr2)
  ·have hrel:=hcs.set k (x:=.gs objs.length) (v:=.slice none 0 0) (.gs (z5n hm.len _));have hvs:vs.set k (.slice none 0 0)=vs:=by
    have:=z6e (l:=vs) (i:=k) (x:=.slice none 0 0) (by rw [z1k];exact hv1);rwa [z1t]at this
   rw [hvs]at hrel;refine .cells hb (hrel.mono (fun c off u h1 h2=>⟨(zdl ho1 c).2 h1,h2⟩) (fun _ _ h=>h)) hf
end
theorem z4m{α:Type}(e:α→D)(d:α)(l:List α):∀i,i<(l.map e).length→(l.map e)[i]?=some (e (l.getD i d)):=by
 intro i hi;rw [List.length_map]at hi;simp [List.getElem?_map,List.getD_eq_getElem?_getD,hi]
def eI(n:Int):D:=.v (.int .i64 n)
def eL{α:Type}(s:Nat)(e:α→D)(d:α)(l:List α):D:=.sl s (l.map e) (fun i=>e (l.getD i d))
@[reducible] def eIs(l:List Int):D:=eL 1 eI 0 l
def gL{α:Type}(t:TypeId)(s:Nat)(e:α→D)(d:α)(l:List α):AObj:=.grow t s (l.map e) (fun i=>e (l.getD i d))
theorem OLe.gL{α:Type}{t:TypeId}{s:Nat}{e:α→D}{d:α}{l:List α}{xs:List D}{rd:Nat→D}(h:xs=l.map e):OLe (.grow t s xs rd) (Ab.gL t s e d l):=.grow h (z4m e d l)
theorem VLe.eL{α:Type}{s:Nat}{e:α→D}{d:α}{l:List α}{xs:List D}{rd:Nat→D}(h:xs=l.map e):VLe (.d (.sl s xs rd)) (.d (Ab.eL s e d l)):=.sl h (z4m e d l)
end Ab
