/- The numbers of functions and types by name. No condition. -/
import Derived.Test.YtippbfnhgooepaaZM1
import Derived.Test.YtippbfnhgooepaaProg
namespace Go.Proofs.Ytippbfnhgooepaa
open Go.V

abbrev F.croftlaw6_RegionBack : FuncId := 12
abbrev F.croftlaw6_awake : FuncId := 13
abbrev F.region_Open : FuncId := 14
abbrev F.croftref2_May : FuncId := 15
abbrev F.croftref2_R : FuncId := 16
abbrev F.croftref6_Power : FuncId := 17
abbrev F.region_New : FuncId := 18
abbrev F.region_ground_Space : FuncId := 19
abbrev F.region_ground_Map : FuncId := 20
abbrev F.region_ground_Buddy : FuncId := 21
abbrev F.mem_Space_Regions : FuncId := 22
abbrev F.region_Pool_Need : FuncId := 23
abbrev F.pagemap_Map_Pages : FuncId := 24
abbrev F.buddy_Buddy_Heads : FuncId := 25
abbrev F.mem_Space_End : FuncId := 26
abbrev F.region_Pool_Trim : FuncId := 27
abbrev F.mem_Space_Write : FuncId := 31
abbrev F.mem_Space_Read : FuncId := 32
abbrev F.region_Pool_Give : FuncId := 34
abbrev F.croftref6_New : FuncId := 35
abbrev F.croftlaw6_played : FuncId := 37
abbrev F.croftlaw6_lists : FuncId := 39
abbrev F.buddy_Buddy_Free : FuncId := 40
abbrev F.croftlaw6_again : FuncId := 41
abbrev F.mem_New : FuncId := 42
abbrev F.pagemap_Open : FuncId := 43
abbrev F.mem_Space_Commit : FuncId := 44
abbrev F.buddy_Open : FuncId := 45
abbrev F.pagemap_New : FuncId := 46
abbrev F.buddy_New : FuncId := 47
abbrev F.buddy_Buddy_Take : FuncId := 48
abbrev F.pagemap_Map_Grow : FuncId := 49
abbrev F.buddy_Buddy_Feed : FuncId := 50
abbrev F.links_List_Head : FuncId := 51
abbrev F.buddy_Buddy_Pull : FuncId := 52
abbrev F.pagemap_Map_Shrink : FuncId := 53
abbrev F.mem_Space_Decommit : FuncId := 54
abbrev F.mem_Space_Write_1 : FuncId := 55
abbrev F.mem_caught : FuncId := 56
abbrev F.mem_Space_look : FuncId := 57
abbrev F.mem_Space_put : FuncId := 58
abbrev F.mem_Space_Read_1 : FuncId := 59
abbrev F.mem_Space_get : FuncId := 60
abbrev F.buddy_Buddy_Give : FuncId := 61
abbrev F.pagemap_Map_Plain : FuncId := 62
abbrev F.croftref6_Need : FuncId := 63
abbrev F.croftref6_Address : FuncId := 64
abbrev F.croftlaw6_which : FuncId := 65
abbrev F.croftref6_Give : FuncId := 66
abbrev F.croftref6_Trim : FuncId := 67
abbrev F.links_List_All : FuncId := 70
abbrev F.mem_may : FuncId := 71
abbrev F.pagemap_within : FuncId := 72
abbrev F.bits_Of : FuncId := 73
abbrev F.pagemap_fits : FuncId := 74
abbrev F.links_New : FuncId := 75
abbrev F.bits_NewSet : FuncId := 76
abbrev F.links_List_Pop : FuncId := 77
abbrev F.buddy_Buddy_page : FuncId := 78
abbrev F.buddy_Buddy_turn : FuncId := 79
abbrev F.buddy_Buddy_cut : FuncId := 80
abbrev F.pagemap_Map_size : FuncId := 81
abbrev F.pagemap_Map_paired : FuncId := 82
abbrev F.pagemap_Map_Run : FuncId := 83
abbrev F.buddy_Buddy_top : FuncId := 84
abbrev F.buddy_Buddy_address : FuncId := 85
abbrev F.pagemap_Map_At : FuncId := 86
abbrev F.links_List_Remove : FuncId := 87
abbrev F.buddy_Buddy_live : FuncId := 88
abbrev F.buddy_Buddy_enter : FuncId := 89
abbrev F.bits_Set_Words : FuncId := 90
abbrev F.croftref6_Take : FuncId := 91
abbrev F.croftref6_enter : FuncId := 92
abbrev F.croftref6_without : FuncId := 93
abbrev F.links_List_All_1 : FuncId := 94
abbrev F.links_List_walk : FuncId := 95
abbrev F.bits_fit : FuncId := 96
abbrev F.bits_Set_cut : FuncId := 97
abbrev F.pagemap_Map_Flip : FuncId := 98
abbrev F.bits_Set_Resize : FuncId := 99
abbrev F.pagemap_plain : FuncId := 100
abbrev F.links_List_links : FuncId := 101
abbrev F.links_List_sound : FuncId := 102
abbrev F.mem_Space_SetWord : FuncId := 103
abbrev F.links_List_Push : FuncId := 104
abbrev F.croftref6_push : FuncId := 105
abbrev F.links_List_walk_1 : FuncId := 106
abbrev F.links_List_room : FuncId := 107
abbrev F.bits_Set_Flip : FuncId := 108
abbrev F.pagemap_Map_Pair : FuncId := 109
abbrev F.mem_Space_Word : FuncId := 110
abbrev F.mem_Space_SetWord_1 : FuncId := 111
abbrev F.mem_Space_Byte : FuncId := 112
abbrev F.bits_Set_has : FuncId := 113
abbrev F.bits_Set_Get : FuncId := 114
abbrev F.mem_Space_Word_1 : FuncId := 115
abbrev F.mem_Space_Byte_1 : FuncId := 116
abbrev F.mem_Space_byteAt : FuncId := 117
abbrev T.T_int : TypeId := 3
abbrev T.T_uint8 : TypeId := 5
abbrev T.T_uint64 : TypeId := 22
abbrev T.T_api_Config : TypeId := 24
abbrev T.T_api_Page : TypeId := 29
abbrev T.T_sl_uint64 : TypeId := 31
abbrev T.T_api_Errno : TypeId := 33
abbrev T.T_sl_uint8 : TypeId := 36
abbrev T.T_region_Pool : TypeId := 49
abbrev T.T_croftlaw6_Op : TypeId := 61
abbrev T.T_croftref6_Pool : TypeId := 75
abbrev T.T_sl_int : TypeId := 85
abbrev T.T_mem_Space : TypeId := 104
abbrev T.T_pagemap_Map : TypeId := 109
abbrev T.T_buddy_Buddy : TypeId := 112
abbrev T.T_p_links_List : TypeId := 113
abbrev T.T_croftref6_Block : TypeId := 125
abbrev T.T_p_bits_Set : TypeId := 135
abbrev T.T_links_List : TypeId := 149
abbrev T.T_mem_fault : TypeId := 154
abbrev T.T2a204121 : TypeId := 162
abbrev T.T_bits_Set : TypeId := 166
abbrev T.T_arr8_uint8 : TypeId := 178
def LD_api_Page (h : Heap) (a : Addr) (X : Int → Int → Int → Int → Int → Int → Int → Int → Int → Int → Int → Prop) : Prop := ∃ n0 : Int, cellAt h a = some (.int .i64 n0) ∧ ∃ n1 : Int, cellAt h (a.add 1) = some (.int .i64 n1) ∧ ∃ n2 : Int, cellAt h (a.add 2) = some (.int .i64 n2) ∧ ∃ n3 : Int, cellAt h (a.add 3) = some (.int .i64 n3) ∧ ∃ n4 : Int, cellAt h (a.add 4) = some (.int .i64 n4) ∧ ∃ n5 : Int, cellAt h (a.add 5) = some (.int .i64 n5) ∧ ∃ n6 : Int, cellAt h (a.add 6) = some (.int .i64 n6) ∧ ∃ n7 : Int, cellAt h (a.add 7) = some (.int .u64 n7) ∧ ∃ n8 : Int, cellAt h (a.add 8) = some (.int .u64 n8) ∧ ∃ n9 : Int, cellAt h (a.add 9) = some (.int .u64 n9) ∧ ∃ n10 : Int, cellAt h (a.add 10) = some (.int .u64 n10) ∧ X n0 n1 n2 n3 n4 n5 n6 n7 n8 n9 n10
def EQ_api_Page (a0 : Int) (a1 : Int) (a2 : Int) (a3 : Int) (a4 : Int) (a5 : Int) (a6 : Int) (a7 : Int) (a8 : Int) (a9 : Int) (a10 : Int) (b0 : Int) (b1 : Int) (b2 : Int) (b3 : Int) (b4 : Int) (b5 : Int) (b6 : Int) (b7 : Int) (b8 : Int) (b9 : Int) (b10 : Int) : Bool := ((a0 == b0) && ((a1 == b1) && ((a2 == b2) && ((a3 == b3) && ((a4 == b4) && ((a5 == b5) && ((a6 == b6) && (((a7 == b7) && ((a8 == b8) && ((a9 == b9) && ((a10 == b10) && true)))) && true))))))))

def bodyOf (f : Func) : Code := match f.body with | some c => c | none => .skip
def seqL : Code → Code | .seq x _ => x | _ => .skip
def seqR : Code → Code | .seq _ y => y | _ => .skip
def opOf (c : Code) (i : Nat) : Oper := match c with | .region _ ops _ => (match ops.toList[i]? with | some o => o | none => default) | _ => default
theorem mixed : Try.prog.follows .mixedOrders = true := by kernel_rfl
end Go.Proofs.Ytippbfnhgooepaa
