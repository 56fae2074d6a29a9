/- The numbers of functions and types by name. No condition. -/
import Derived.Test.YteemmpkhdllapaaDoorZM1
import Derived.Test.YteemmpkhdllapaaDoorProg
namespace Go.Proofs.YteemmpkhdllapaaDoor
open Go.V

abbrev F.croftlaw7_SlabKnown : FuncId := 3
abbrev F.croftlaw7_begin : FuncId := 9
abbrev F.croftlaw7_lives : FuncId := 10
abbrev F.slab_Slab_Take : FuncId := 11
abbrev F.croftlaw7_ints : FuncId := 12
abbrev F.slab_Slab_Partial : FuncId := 13
abbrev F.slab_Slab_Size : FuncId := 14
abbrev F.slab_Slab_Give : FuncId := 15
abbrev F.croftlaw7_world_word : FuncId := 16
abbrev F.region_ground_Map : FuncId := 17
abbrev F.pagemap_Map_At : FuncId := 18
abbrev F.region_ground_Space : FuncId := 19
abbrev F.mem_Space_SetWord : FuncId := 20
abbrev F.pagemap_Map_Chain : FuncId := 21
abbrev F.pagemap_Map_First : FuncId := 22
abbrev F.pagemap_Map_Own : FuncId := 23
abbrev F.pagemap_Map_Slab : FuncId := 24
abbrev F.pagemap_Map_Run : FuncId := 25
abbrev F.region_Pool_Need : FuncId := 26
abbrev F.mem_Space_Regions : FuncId := 31
abbrev F.croftref2_May : FuncId := 34
abbrev F.region_New : FuncId := 35
abbrev F.slab_New : FuncId := 36
abbrev F.region_ground_Buddy : FuncId := 37
abbrev F.croftref7_New : FuncId := 38
abbrev F.slab_Open : FuncId := 39
abbrev F.slab_Slab_born : FuncId := 40
abbrev F.slab_Slab_base : FuncId := 41
abbrev F.mem_Space_Word : FuncId := 42
abbrev F.slab_Slab_unhang : FuncId := 43
abbrev F.slab_Slab_find : FuncId := 44
abbrev F.region_Pool_Give : FuncId := 45
abbrev F.slab_Slab_hang : FuncId := 46
abbrev F.mem_Space_SetWord_1 : FuncId := 47
abbrev F.mem_caught : FuncId := 48
abbrev F.mem_Space_look : FuncId := 49
abbrev F.mem_Space_put : FuncId := 50
abbrev F.pagemap_Map_slab : FuncId := 51
abbrev F.pagemap_within : FuncId := 52
abbrev F.pagemap_cells : FuncId := 53
abbrev F.pagemap_plain : FuncId := 54
abbrev F.buddy_Buddy_Take : FuncId := 55
abbrev F.mem_Space_Commit : FuncId := 56
abbrev F.pagemap_Map_Grow : FuncId := 57
abbrev F.buddy_Buddy_Feed : FuncId := 58
abbrev F.mem_Space_End : FuncId := 62
abbrev F.mem_Space_get : FuncId := 69
abbrev F.mem_New : FuncId := 70
abbrev F.pagemap_New : FuncId := 71
abbrev F.buddy_New : FuncId := 72
abbrev F.croftref5_New : FuncId := 73
abbrev F.pagemap_Map_Pages : FuncId := 74
abbrev F.mem_Space_Word_1 : FuncId := 75
abbrev F.buddy_Buddy_Give : FuncId := 76
abbrev F.links_List_Pop : FuncId := 77
abbrev F.buddy_Buddy_page : FuncId := 78
abbrev F.buddy_Buddy_turn : FuncId := 79
abbrev F.buddy_Buddy_cut : FuncId := 80
abbrev F.pagemap_Map_size : FuncId := 81
abbrev F.pagemap_Map_paired : FuncId := 82
abbrev F.buddy_Buddy_top : FuncId := 83
abbrev F.buddy_Buddy_address : FuncId := 84
abbrev F.links_List_Remove : FuncId := 86
abbrev F.mem_may : FuncId := 87
abbrev F.bits_NewSet : FuncId := 88
abbrev F.buddy_Open : FuncId := 89
abbrev F.buddy_Buddy_live : FuncId := 90
abbrev F.buddy_Buddy_enter : FuncId := 91
abbrev F.pagemap_Map_Flip : FuncId := 92
abbrev F.bits_Set_Resize : FuncId := 93
abbrev F.links_List_links : FuncId := 94
abbrev F.links_List_sound : FuncId := 95
abbrev F.bits_Of : FuncId := 96
abbrev F.links_New : FuncId := 97
abbrev F.links_List_Push : FuncId := 98
abbrev F.bits_Set_Flip : FuncId := 99
abbrev F.pagemap_Map_Pair : FuncId := 100
abbrev F.bits_fit : FuncId := 101
abbrev F.bits_Set_cut : FuncId := 102
abbrev F.bits_Set_has : FuncId := 103
abbrev F.bits_Set_Get : FuncId := 104
abbrev T.T_int : TypeId := 3
abbrev T.T_uint8 : TypeId := 5
abbrev T.T_uint64 : TypeId := 24
abbrev T.T_api_Config : TypeId := 26
abbrev T.T_api_Errno : TypeId := 28
abbrev T.T_croftref5_Buddy : TypeId := 35
abbrev T.T_croftref7_Slab : TypeId := 38
abbrev T.T_croftlaw7_world : TypeId := 40
abbrev T.T_sl_int : TypeId := 43
abbrev T.T_api_Page : TypeId := 49
abbrev T.T_region_Pool : TypeId := 58
abbrev T.T_sl_uint8 : TypeId := 87
abbrev T.T_slab_Slab : TypeId := 100
abbrev T.T_pagemap_Map : TypeId := 114
abbrev T.T_arr8_uint8 : TypeId := 118
abbrev T.T_mem_Space : TypeId := 135
abbrev T.T_mem_fault : TypeId := 144
abbrev T.T_buddy_Buddy : TypeId := 148
abbrev T.T_p_links_List : TypeId := 149
abbrev T.T_p_bits_Set : TypeId := 158
abbrev T.T_links_List : TypeId := 164
abbrev T.T_bits_Set : TypeId := 175
def LD_api_Page (h : Heap) (a : Addr) (X : Int → Int → Int → Int → Int → Int → Int → Int → Int → Int → Int → Prop) : Prop := ∃ n0 : Int, cellAt h a = some (.int .i64 n0) ∧ ∃ n1 : Int, cellAt h (a.add 1) = some (.int .i64 n1) ∧ ∃ n2 : Int, cellAt h (a.add 2) = some (.int .i64 n2) ∧ ∃ n3 : Int, cellAt h (a.add 3) = some (.int .i64 n3) ∧ ∃ n4 : Int, cellAt h (a.add 4) = some (.int .i64 n4) ∧ ∃ n5 : Int, cellAt h (a.add 5) = some (.int .i64 n5) ∧ ∃ n6 : Int, cellAt h (a.add 6) = some (.int .i64 n6) ∧ ∃ n7 : Int, cellAt h (a.add 7) = some (.int .u64 n7) ∧ ∃ n8 : Int, cellAt h (a.add 8) = some (.int .u64 n8) ∧ ∃ n9 : Int, cellAt h (a.add 9) = some (.int .u64 n9) ∧ ∃ n10 : Int, cellAt h (a.add 10) = some (.int .u64 n10) ∧ X n0 n1 n2 n3 n4 n5 n6 n7 n8 n9 n10
def EQ_api_Page (a0 : Int) (a1 : Int) (a2 : Int) (a3 : Int) (a4 : Int) (a5 : Int) (a6 : Int) (a7 : Int) (a8 : Int) (a9 : Int) (a10 : Int) (b0 : Int) (b1 : Int) (b2 : Int) (b3 : Int) (b4 : Int) (b5 : Int) (b6 : Int) (b7 : Int) (b8 : Int) (b9 : Int) (b10 : Int) : Bool := ((a0 == b0) && ((a1 == b1) && ((a2 == b2) && ((a3 == b3) && ((a4 == b4) && ((a5 == b5) && ((a6 == b6) && (((a7 == b7) && ((a8 == b8) && ((a9 == b9) && ((a10 == b10) && true)))) && true))))))))

def bodyOf (f : Func) : Code := match f.body with | some c => c | none => .skip
def seqL : Code → Code | .seq x _ => x | _ => .skip
def seqR : Code → Code | .seq _ y => y | _ => .skip
def opOf (c : Code) (i : Nat) : Oper := match c with | .region _ ops _ => (match ops.toList[i]? with | some o => o | none => default) | _ => default
theorem mixed : Tryd.prog.follows .mixedOrders = true := by kernel_rfl
end Go.Proofs.YteemmpkhdllapaaDoor
