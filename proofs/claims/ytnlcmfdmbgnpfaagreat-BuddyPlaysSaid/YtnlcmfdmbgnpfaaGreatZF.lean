/- The numbers of functions and types by name. No condition. -/
import Derived.Test.YtnlcmfdmbgnpfaaGreatZM1
import Derived.Test.YtnlcmfdmbgnpfaaGreatProg
namespace Go.Proofs.YtnlcmfdmbgnpfaaGreat
open Go.V

abbrev F.croftlaw5_BuddyPlays : FuncId := 3
abbrev F.croftlaw5_begin : FuncId := 4
abbrev F.croftlaw5_lives : FuncId := 5
abbrev F.croftlaw5_address : FuncId := 6
abbrev F.croftref5_Take : FuncId := 7
abbrev F.buddy_Buddy_Take : FuncId := 8
abbrev F.croftlaw5_world_at : FuncId := 9
abbrev F.croftlaw5_world_step : FuncId := 10
abbrev F.croftlaw5_world_looks : FuncId := 11
abbrev F.croftlaw5_usual : FuncId := 12
abbrev F.mem_New : FuncId := 13
abbrev F.pagemap_New : FuncId := 14
abbrev F.buddy_New : FuncId := 15
abbrev F.croftref5_New : FuncId := 16
abbrev F.buddy_Buddy_Feed : FuncId := 17
abbrev F.croftlaw5_world_come : FuncId := 18
abbrev F.buddy_Open : FuncId := 19
abbrev F.buddy_Buddy_Heads : FuncId := 20
abbrev F.croftlaw5_ints : FuncId := 21
abbrev F.croftref5_cut : FuncId := 22
abbrev F.croftref5_leave : FuncId := 23
abbrev F.links_List_Pop : FuncId := 24
abbrev F.buddy_Buddy_page : FuncId := 25
abbrev F.buddy_Buddy_turn : FuncId := 26
abbrev F.buddy_Buddy_cut : FuncId := 27
abbrev F.mem_Space_Regions : FuncId := 28
abbrev F.croftref5_Feed : FuncId := 29
abbrev F.croftref5_Pull : FuncId := 30
abbrev F.buddy_Buddy_Pull : FuncId := 31
abbrev F.croftref5_Top : FuncId := 32
abbrev F.croftref5_IsLive : FuncId := 33
abbrev F.croftlaw5_world_goes : FuncId := 34
abbrev F.croftref5_Give : FuncId := 35
abbrev F.croftlaw5_world_page : FuncId := 36
abbrev F.buddy_Buddy_Give : FuncId := 37
abbrev F.croftref5_Shrink : FuncId := 38
abbrev F.buddy_Buddy_Shrink : FuncId := 39
abbrev F.croftlaw5_world_heads : FuncId := 40
abbrev F.croftlaw5_apart : FuncId := 41
abbrev F.buddy_Buddy_Free : FuncId := 42
abbrev F.croftlaw5_world_free : FuncId := 43
abbrev F.croftlaw5_world_opened : FuncId := 44
abbrev F.mem_Space_Fill : FuncId := 45
abbrev F.croftlaw5_world_mapped : FuncId := 46
abbrev F.croftlaw5_world_linked : FuncId := 47
abbrev F.croftref2_May : FuncId := 48
abbrev F.mem_may : FuncId := 49
abbrev F.bits_NewSet : FuncId := 50
abbrev F.buddy_Buddy_top : FuncId := 51
abbrev F.buddy_Buddy_address : FuncId := 52
abbrev F.mem_Space_Commit : FuncId := 53
abbrev F.pagemap_Map_Grow : FuncId := 54
abbrev F.croftref5_Come : FuncId := 55
abbrev F.pagemap_Map_Pages : FuncId := 56
abbrev F.links_New : FuncId := 57
abbrev F.links_List_Head : FuncId := 58
abbrev F.croftref5_enter : FuncId := 59
abbrev F.croftref5_lives : FuncId := 60
abbrev F.croftref5_with : FuncId := 61
abbrev F.links_List_Remove : FuncId := 62
abbrev F.pagemap_Map_Flip : FuncId := 63
abbrev F.buddy_Buddy_enter : FuncId := 64
abbrev F.pagemap_Map_Run : FuncId := 65
abbrev F.croftref5_Is : FuncId := 66
abbrev F.pagemap_Map_At : FuncId := 67
abbrev F.mem_Space_Decommit : FuncId := 68
abbrev F.pagemap_Map_Shrink : FuncId := 69
abbrev F.croftref5_Go : FuncId := 70
abbrev F.croftref5_dies : FuncId := 71
abbrev F.buddy_Buddy_live : FuncId := 72
abbrev F.links_List_All : FuncId := 73
abbrev F.mem_Space_Fill_1 : FuncId := 74
abbrev F.mem_caught : FuncId := 75
abbrev F.mem_Space_look : FuncId := 76
abbrev F.mem_Space_byteAt : FuncId := 77
abbrev F.pagemap_Map_Plain : FuncId := 78
abbrev F.croftref5_Pages : FuncId := 79
abbrev F.croftref5_Pairs : FuncId := 80
abbrev F.croftlaw5_world_word : FuncId := 81
abbrev F.bits_Of : FuncId := 82
abbrev F.mem_Space_End : FuncId := 83
abbrev F.pagemap_Map_size : FuncId := 84
abbrev F.pagemap_Map_paired : FuncId := 85
abbrev F.links_List_links : FuncId := 86
abbrev F.links_List_sound : FuncId := 87
abbrev F.mem_Space_SetWord : FuncId := 88
abbrev F.pagemap_within : FuncId := 89
abbrev F.bits_Set_Flip : FuncId := 90
abbrev F.pagemap_Map_Pair : FuncId := 91
abbrev F.links_List_Push : FuncId := 92
abbrev F.pagemap_plain : FuncId := 93
abbrev F.links_List_All_1 : FuncId := 94
abbrev F.links_List_walk : FuncId := 95
abbrev F.bits_Set_Words : FuncId := 96
abbrev F.croftref5_paint : FuncId := 97
abbrev F.croftref5_Pair : FuncId := 98
abbrev F.mem_Space_Word : FuncId := 99
abbrev F.bits_fit : FuncId := 100
abbrev F.bits_Set_cut : FuncId := 101
abbrev F.bits_Set_Resize : FuncId := 102
abbrev F.mem_Space_SetWord_1 : FuncId := 103
abbrev F.mem_Space_put : FuncId := 104
abbrev F.bits_Set_has : FuncId := 105
abbrev F.bits_Set_Get : FuncId := 106
abbrev F.links_List_walk_1 : FuncId := 107
abbrev F.links_List_room : FuncId := 108
abbrev F.mem_Space_Word_1 : FuncId := 109
abbrev F.mem_Space_get : FuncId := 110
abbrev F.mem_Space_Byte : FuncId := 111
abbrev F.mem_Space_Byte_1 : FuncId := 112
abbrev T.T_int : TypeId := 3
abbrev T.T_uint8 : TypeId := 5
abbrev T.T_uint64 : TypeId := 22
abbrev T.T_api_Config : TypeId := 24
abbrev T.T_sl_uint64 : TypeId := 29
abbrev T.T_croftlaw5_Step : TypeId := 31
abbrev T.T_croftref5_Buddy : TypeId := 36
abbrev T.T_croftlaw5_world : TypeId := 43
abbrev T.T_api_Errno : TypeId := 44
abbrev T.T_sl_int : TypeId := 61
abbrev T.T_buddy_Buddy : TypeId := 66
abbrev T.T_p_links_List : TypeId := 67
abbrev T.T_croftref5_Run : TypeId := 87
abbrev T.T_mem_Space : TypeId := 92
abbrev T.T_pagemap_Map : TypeId := 96
abbrev T.T_p_bits_Set : TypeId := 97
abbrev T.T_links_List : TypeId := 106
abbrev T.T_api_Page : TypeId := 114
abbrev T.T_sl_uint8 : TypeId := 135
abbrev T.T2a204121 : TypeId := 142
abbrev T.T_mem_fault : TypeId := 144
abbrev T.T_bits_Set : TypeId := 151
abbrev T.T_arr8_uint8 : TypeId := 153
def LD_api_Page (h : Heap) (a : Addr) (X : Int → Int → Int → Int → Int → Int → Int → Int → Int → Int → Int → Prop) : Prop := ∃ n0 : Int, cellAt h a = some (.int .i64 n0) ∧ ∃ n1 : Int, cellAt h (a.add 1) = some (.int .i64 n1) ∧ ∃ n2 : Int, cellAt h (a.add 2) = some (.int .i64 n2) ∧ ∃ n3 : Int, cellAt h (a.add 3) = some (.int .i64 n3) ∧ ∃ n4 : Int, cellAt h (a.add 4) = some (.int .i64 n4) ∧ ∃ n5 : Int, cellAt h (a.add 5) = some (.int .i64 n5) ∧ ∃ n6 : Int, cellAt h (a.add 6) = some (.int .i64 n6) ∧ ∃ n7 : Int, cellAt h (a.add 7) = some (.int .u64 n7) ∧ ∃ n8 : Int, cellAt h (a.add 8) = some (.int .u64 n8) ∧ ∃ n9 : Int, cellAt h (a.add 9) = some (.int .u64 n9) ∧ ∃ n10 : Int, cellAt h (a.add 10) = some (.int .u64 n10) ∧ X n0 n1 n2 n3 n4 n5 n6 n7 n8 n9 n10
def EQ_api_Page (a0 : Int) (a1 : Int) (a2 : Int) (a3 : Int) (a4 : Int) (a5 : Int) (a6 : Int) (a7 : Int) (a8 : Int) (a9 : Int) (a10 : Int) (b0 : Int) (b1 : Int) (b2 : Int) (b3 : Int) (b4 : Int) (b5 : Int) (b6 : Int) (b7 : Int) (b8 : Int) (b9 : Int) (b10 : Int) : Bool := ((a0 == b0) && ((a1 == b1) && ((a2 == b2) && ((a3 == b3) && ((a4 == b4) && ((a5 == b5) && ((a6 == b6) && (((a7 == b7) && ((a8 == b8) && ((a9 == b9) && ((a10 == b10) && true)))) && true))))))))

def bodyOf (f : Func) : Code := match f.body with | some c => c | none => .skip
def seqL : Code → Code | .seq x _ => x | _ => .skip
def seqR : Code → Code | .seq _ y => y | _ => .skip
def opOf (c : Code) (i : Nat) : Oper := match c with | .region _ ops _ => (match ops.toList[i]? with | some o => o | none => default) | _ => default
theorem mixed : Tryz.prog.follows .mixedOrders = true := by kernel_rfl
variable {w₀ : World} {f : FuncId} {fn : Func} {args : List Value} {h : Heap} {K : Value → Heap → Prop} {R : Ending → Heap → Prop}
theorem cV (N : Nat) (ann : Ann) (hf : Tryz.prog.funcs[f]? = some fn) (H : Go.V.vc Tryz.prog w₀ N (bodyOf fn) ann (argE 0 args) h (endQ Tryz.prog fn.results.toList (callPost K fun _ _ => False))) (hb : fn.body = some (bodyOf fn) := by kernel_rfl) (hN : fn.ntmps = N := by kernel_rfl)
    (hl : Nat.ble args.length N = true := by kernel_rfl) (hn : noLab ann = true := by kernel_rfl) : CallV Tryz.prog w₀ f args h K := callsE_of_vc mixed hf hb hN hl hn H
theorem cE (N : Nat) (ann : Ann) (args : List Value) (hf : Tryz.prog.funcs[f]? = some fn) (H : Go.V.vc Tryz.prog w₀ N (bodyOf fn) ann (argE 0 args) h (endQ Tryz.prog fn.results.toList R)) (hb : fn.body = some (bodyOf fn) := by kernel_rfl) (hN : fn.ntmps = N := by kernel_rfl)
    (hl : Nat.ble args.length N = true := by kernel_rfl) (hn : noLab ann = true := by kernel_rfl) : CallsE Tryz.prog w₀ f args.toArray h R := callsE_of_vc mixed hf hb hN hl hn H
theorem cX (N : Nat) (ax : AX) (hf : Tryz.prog.funcs[f]? = some fn) (H : Go.V.vcX Tryz.prog w₀ N (bodyOf fn) ax [] (argE 0 args) h (endX Tryz.prog fn.results.toList K)) (hb : fn.body = some (bodyOf fn) := by kernel_rfl) (hN : fn.ntmps = N := by kernel_rfl)
    (hl : Nat.ble args.length N = true := by kernel_rfl) (hn : noLabX ax = true := by kernel_rfl) : CallV Tryz.prog w₀ f args h K := callV_of_vcX mixed hf hb hN hl hn H
end Go.Proofs.YtnlcmfdmbgnpfaaGreat
