/- Closed calls, by tables: what awake comes to (the rest). -/
import Derived.Test.YtoappddifbgegaaGreatPbW1
set_option linter.all false
set_option linter.all false
namespace Go.Ab
open Go.Proofs
namespace Aw
def t8:Tbl:=[(⟨⟨0,[],0⟩,[.agg c28,.agg c5],[]⟩,i 0,[some c28,some c5]),
 (⟨⟨0,[],0⟩,[.agg c6,.agg c5],[]⟩,i 0,[some c6,some c5]),
 (⟨⟨0,[],0⟩,[.agg c7,.agg c5],[]⟩,i 0,[some c7,some c5]),
 (⟨⟨0,[],0⟩,[.agg c25,.agg c5],[]⟩,i 0,[some c25,some c5])]
theorem r8x0:RW OD 8 t8 0:=by intro k r hk;cases hk;kernel_rfl
theorem r8x1:RW OD 8 t8 1:=by intro k r hk;cases hk;kernel_rfl
theorem r8x2:RW OD 8 t8 2:=by intro k r hk;cases hk;kernel_rfl
theorem r8x3:RW OD 8 t8 3:=by intro k r hk;cases hk;kernel_rfl
theorem ok8:RK OD 8 t8:=(BU (r8x0 _ _ rfl) (BU (r8x1 _ _ rfl) (BU (r8x2 _ _ rfl) (BU (r8x3 _ _ rfl) aW))))
def ps26:TL:=(8,t8)::OD
theorem pk26:MO ps26:=PC pk25 ok8
def t95:Tbl:=[(⟨⟨0,[],0⟩,[.ptr 5 0],[some c7,some c5,some c39,some c15,some [.nils,.nils,.nils],some [W,W,i 100,i 0,i 1,i 10,i 1000,i 0,i 0,c2,i 9,.nils,.nils,.nils,i 0,i 0,W,i 0,i 0,i 0,i 0,i 0,i 0,.nils,i 0,rl [97,98],(.lst [is [2,0]]),i 2,i 2,W,W,i 0,i 0,e,e,i 0,i 0,e,c59,e,W,i 0,(i (-1)),(i (-1)),rl [97,98],(.lst [is [0,2,0,10]]),i 0,i 0,i 1000,(.lst [c24]),.nils,.nils,.nils],some c8,some c3]⟩,i 0,[some c7,some c5,some c39,some c15,some [.nils,.nils,.nils],some c33,some c8,some c3,some [c59,e,W,i 0],some [e,c59,B,i 0],some [e,e],some [i 0,i 0,W],some [.sl 19 0 2 2 4],some [c1],some c41,some c42,N,some c17,some c43,some c53,some c42,some c42,some c42,N,some c43,some c43,some c43,some c53])]
theorem r95x0:∀ k r,t95[0]?=some (k,r)->yF Tryz.prog md28 (wH bC ps26) 10000 40 95 k.cfg k.args k.h=some r:=by
 intro k r hk;cases hk;kernel_rfl
def OE:TL:=(95,t95)::ps26
theorem pk27:MO OE:=nz pk26 (Gj (BP hfol hnam (qZ Cq pk26)) (yH (r95x0 _ _ rfl) BV))
def t55:Tbl:=[(⟨⟨0,[],0⟩,[.ptr 5 0],[some c28,some c5,some c57,some c15,some [.nils,.nils,.nils],some [W,W,i 100,i 0,i 1,i 10,i 1000,i 0,i 0,c2,i 1,rl [97],e,e,i 0,i 0,W,i 0,i 0,i 0,i 0,i 0,i 0,e,i 0,e,e,i 0,i 0,W,W,i 0,i 0,e,e,i 0,i 0,e,e,e,W,i 0,(i (-1)),(i (-1)),e,(.lst [is [0,0,0,10]]),i 0,i 0,i 1000,(.lst [c51]),.nils,.nils,.nils],some c18]⟩,i 0,[some c28,some c5,some c57,some c15,some [.nils,.nils,.nils],some [W,W,i 100,i 0,i 1,i 10,i 1000,i 0,i 0,c2,i 1,rl [97],e,e,i 0,i 0,W,i 0,i 0,i 0,i 0,i 0,i 0,e,i 0,rl [97],(.lst [is [1,0]]),i 1,i 1,W,W,i 0,i 0,e,e,i 0,i 0,e,c70,e,W,i 0,(i (-1)),(i (-1)),e,(.lst [is [0,0,0,10]]),i 0,i 0,i 1000,(.lst [c51]),.sl 18 0 1 1 4,.nils,.nils],some c18,some c3,some c68,o,some c68,some c46,some c68,some [i 1,i 1,W],some c17,some [c70,e,W,i 0],some c46,some c46,some c46]),
 (⟨⟨0,[],0⟩,[.ptr 5 0],[some c6,some c5,some c56,some c15,some [.nils,.nils,.nils],some [W,W,i 100,i 0,i 1,i 10,i 1000,i 0,i 0,c2,i 1,rl [98],e,e,i 0,i 0,W,i 0,i 0,i 0,i 0,i 0,i 0,e,i 0,rl [97],(.lst [is [1,0]]),i 1,i 1,W,W,i 0,i 0,e,e,i 0,i 0,e,c70,e,W,i 0,(i (-1)),(i (-1)),rl [97],(.lst [is [0,1,0,10]]),i 0,i 0,i 1000,(.lst [c40]),.nils,.nils,.nils],some c13]⟩,i 0,[some c6,some c5,some c56,some c15,some [.nils,.nils,.nils],some [W,W,i 100,i 0,i 1,i 10,i 1000,i 0,i 0,c2,i 1,rl [98],e,e,i 0,i 0,W,i 0,i 0,i 0,i 0,i 0,i 0,e,i 0,rl [97,98],(.lst [is [2,0]]),i 2,i 2,W,W,i 0,i 0,e,e,i 0,i 0,e,c59,e,W,i 0,(i (-1)),(i (-1)),rl [97],(.lst [is [0,1,0,10]]),i 0,i 0,i 1000,(.lst [c40]),.sl 18 0 1 1 4,.nils,.nils],some c13,some c3,some [rl [98],(.lst [is [1,0]])],some [i 1],some [rl [98],(.lst [is [1,0]])],some c45,some [rl [97,98],(.lst [is [2,0]])],some [i 2,i 2,W],some c41,some [c59,e,W,i 0],some c45,some c45,some c45]),
 (⟨⟨0,[],0⟩,[.ptr 5 0],[some c7,some c5,some c39,some c15,some [.nils,.nils,.nils],some [W,W,i 100,i 0,i 1,i 10,i 1000,i 0,i 0,c2,i 9,.nils,.nils,.nils,i 0,i 0,W,i 0,i 0,i 0,i 0,i 0,i 0,.nils,i 0,rl [97,98],(.lst [is [2,0]]),i 2,i 2,W,W,i 0,i 0,e,e,i 0,i 0,e,c59,e,W,i 0,(i (-1)),(i (-1)),rl [97,98],(.lst [is [0,2,0,10]]),i 0,i 0,i 1000,(.lst [c24]),.nils,.nils,.nils],some c8]⟩,i 0,[some c7,some c5,some c39,some c15,some [.nils,.nils,.nils],some c33,some c8,some c3,some [c59,e,W,i 0],some [e,c59,B,i 0],some [e,e],some [i 0,i 0,W],some [.sl 19 0 2 2 4],some [c1],some c41,some c42,N,some c17,some c43,some c53,some c42,some c42,some c42,N,some c43,some c43,some c43,some c53]),
 (⟨⟨0,[],0⟩,[.ptr 5 0],[some c25,some c5,some c60,some c15,some [.nils,.nils,.nils],some [W,W,i 100,i 0,i 1,i 10,i 1000,i 0,i 0,c2,i 2,.nils,.nils,.nils,i 1,i 0,W,i 0,i 0,i 0,i 0,i 0,i 0,.nils,i 0,rl [101,769],(.lst [is [2,0]]),i 2,i 2,W,W,i 0,i 0,e,e,i 0,i 0,e,e,e,W,i 0,(i (-1)),(i (-1)),rl [101,769],(.lst [is [0,2,0,10]]),i 0,i 0,i 1000,(.lst [c32]),.nils,.nils,.nils],some c11]⟩,i 0,[some c25,some c5,some c60,some c15,some [.nils,.nils,.nils],some [W,W,i 100,i 0,i 1,i 10,i 1000,i 0,i 0,c2,i 2,.nils,.nils,.nils,i 1,i 0,W,i 0,i 0,i 0,i 0,i 0,i 0,.nils,i 0,e,e,i 0,i 0,W,W,i 0,i 0,e,e,i 0,i 0,e,(.lst [[i 2,i 0,(.lst [c19])]]),e,W,i 0,(i (-1)),(i (-1)),rl [101,769],(.lst [is [0,2,0,10]]),i 0,i 0,i 1000,(.lst [c32]),.sl 17 0 1 1 4,.nils,.nils],some c11,some c3,o,some [.nils,.nils],some [i 0,i 2,.nils,.nils],some [e,e],some [i 0,i 0,W],some c19,some [(.lst [[i 2,i 0,(.lst [c19])]]),e,W,i 0],some c64,some c64,some c64])]
theorem r55x0:RW OE 55 t55 0:=by intro k r hk;cases hk;kernel_rfl
theorem r55x1:RW OE 55 t55 1:=by intro k r hk;cases hk;kernel_rfl
theorem r55x2:RW OE 55 t55 2:=by intro k r hk;cases hk;kernel_rfl
theorem r55x3:RW OE 55 t55 3:=by intro k r hk;cases hk;kernel_rfl
theorem ok55:RK OE 55 t55:=(BU (r55x0 _ _ rfl) (BU (r55x1 _ _ rfl) (BU (r55x2 _ _ rfl) (BU (r55x3 _ _ rfl) aW))))
def OG:TL:=(55,t55)::OE
theorem pk28:MO OG:=PC pk27 ok55
def t18:Tbl:=[(⟨⟨0,[],0⟩,[.agg c28,.agg c5,c2,.agg c57],[]⟩,(.tup [.agg c6,(.agg [.sl 18 0 1 1 4,.nils,.nils]),i 0]),[some c28,some c5,some c57,some c6,some [.sl 18 0 1 1 4,.nils,.nils],some [W,W,i 100,i 0,i 1,i 10,i 1000,i 0,i 0,c2,i 1,rl [97],e,e,i 0,i 0,W,i 0,i 0,i 0,i 0,i 0,i 0,e,i 0,rl [97],(.lst [is [1,0]]),i 1,i 1,W,W,i 0,i 0,e,e,i 0,i 0,e,c70,e,W,i 0,(i (-1)),(i (-1)),e,(.lst [is [0,0,0,10]]),i 0,i 0,i 1000,(.lst [c51]),.sl 18 0 1 1 4,.nils,.nils],some c18,some c3,some c68,o,some c68,some c46,some c68,some [i 1,i 1,W],some c17,some [c70,e,W,i 0],some c46,some c46,some c46]),
 (⟨⟨0,[],0⟩,[.agg c6,.agg c5,c2,.agg c56],[]⟩,(.tup [.agg c7,(.agg [.sl 18 0 1 1 4,.nils,.nils]),i 0]),[some c6,some c5,some c56,some c7,some [.sl 18 0 1 1 4,.nils,.nils],some [W,W,i 100,i 0,i 1,i 10,i 1000,i 0,i 0,c2,i 1,rl [98],e,e,i 0,i 0,W,i 0,i 0,i 0,i 0,i 0,i 0,e,i 0,rl [97,98],(.lst [is [2,0]]),i 2,i 2,W,W,i 0,i 0,e,e,i 0,i 0,e,c59,e,W,i 0,(i (-1)),(i (-1)),rl [97],(.lst [is [0,1,0,10]]),i 0,i 0,i 1000,(.lst [c40]),.sl 18 0 1 1 4,.nils,.nils],some c13,some c3,some [rl [98],(.lst [is [1,0]])],some [i 1],some [rl [98],(.lst [is [1,0]])],some c45,some [rl [97,98],(.lst [is [2,0]])],some [i 2,i 2,W],some c41,some [c59,e,W,i 0],some c45,some c45,some c45]),
 (⟨⟨0,[],0⟩,[.agg c7,.agg c5,c2,.agg c39],[]⟩,(.tup [.agg c31,(.agg [.sl 27 0 2 2 4,.nils,.nils]),i 0]),[some c7,some c5,some c39,some c31,some [.sl 27 0 2 2 4,.nils,.nils],some c33,some c8,some c3,some [c59,e,W,i 0],some [e,c59,B,i 0],some [e,e],some [i 0,i 0,W],some [.sl 19 0 2 2 4],some [c1],some c41,some c42,N,some c17,some c43,some c53,some c42,some c42,some c42,N,some c43,some c43,some c43,some c53]),
 (⟨⟨0,[],0⟩,[.agg c25,.agg c5,c2,.agg c60],[]⟩,(.tup [.agg c61,(.agg [.sl 17 0 1 1 4,.nils,.nils]),i 0]),[some c25,some c5,some c60,some c61,some [.sl 17 0 1 1 4,.nils,.nils],some [W,W,i 100,i 0,i 1,i 10,i 1000,i 0,i 0,c2,i 2,.nils,.nils,.nils,i 1,i 0,W,i 0,i 0,i 0,i 0,i 0,i 0,.nils,i 0,e,e,i 0,i 0,W,W,i 0,i 0,e,e,i 0,i 0,e,(.lst [[i 2,i 0,(.lst [c19])]]),e,W,i 0,(i (-1)),(i (-1)),rl [101,769],(.lst [is [0,2,0,10]]),i 0,i 0,i 1000,(.lst [c32]),.sl 17 0 1 1 4,.nils,.nils],some c11,some c3,o,some [.nils,.nils],some [i 0,i 2,.nils,.nils],some [e,e],some [i 0,i 0,W],some c19,some [(.lst [[i 2,i 0,(.lst [c19])]]),e,W,i 0],some c64,some c64,some c64])]
theorem r18x0:RW OG 18 t18 0:=by intro k r hk;cases hk;kernel_rfl
theorem r18x1:RW OG 18 t18 1:=by intro k r hk;cases hk;kernel_rfl
theorem r18x2:RW OG 18 t18 2:=by intro k r hk;cases hk;kernel_rfl
theorem r18x3:RW OG 18 t18 3:=by intro k r hk;cases hk;kernel_rfl
theorem ok18:RK OG 18 t18:=(BU (r18x0 _ _ rfl) (BU (r18x1 _ _ rfl) (BU (r18x2 _ _ rfl) (BU (r18x3 _ _ rfl) aW))))
def ps29:TL:=(18,t18)::OG
theorem pk29:MO ps29:=PC pk28 ok18
def t13:Tbl:=[(⟨⟨0,[],0⟩,[],[]⟩,B,[some c31,some [(.lst [c46]),e,e],some [(.lst [c45]),e,e],some [(.lst [c42,c43]),e,e],some (rs [101,769]),some c61,some [(.lst [c64]),e,e]])]
theorem r13x0:RW ps29 13 t13 0:=by intro k r hk;cases hk;kernel_rfl
theorem ok13:RK ps29 13 t13:=(BU (r13x0 _ _ rfl) aW)
def ps30:TL:=(13,t13)::ps29
theorem pk30:MO ps30:=PC pk29 ok13
end Aw
end Go.Ab
