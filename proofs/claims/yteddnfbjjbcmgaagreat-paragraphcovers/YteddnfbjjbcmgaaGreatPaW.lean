/- Closed calls, by tables: what awake comes to. Printed by wip/tools/Memo.lean. -/
import Derived.Test.YteddnfbjjbcmgaaGreatAbW7
import Derived.Test.YteddnfbjjbcmgaaGreatAbMemo
set_option linter.unusedSimpArgs false
set_option linter.unusedVariables false
namespace Go.Ab
open Go.Proofs Go.Proofs.Tryz
namespace Bi
theorem hfol:prog.follows .mixedOrders=true:=by kernel_rfl
theorem hnam:dH prog:=by
 have h : (prog.funcs.toList.all fun fn => !(fn.name == "runtime.NumGoroutine")) = true := by kernel_rfl
 intro g fn hg
 have:=List.all_eq_true.1 h fn (List.mem_of_getElem? (by simpa using hg))
 simpa using this
abbrev i(n:Int):V:=.int .i64 n
abbrev r(n:Int):V:=.int .i32 n
abbrev is(l:List Int):List V:=l.map i
abbrev rs(l:List Int):List V:=l.map r
abbrev RW(l:List (FuncId×Tbl))(f:FuncId)(t:Tbl)(j:Nat):Prop:=∀ k r,t[j]?=some (k,r)→K (bx l) 40 k.cfg f k.args k.h=some r
abbrev MO(l:List (FuncId×Tbl)):Prop:=∀ f t,(f,t)∈l→cR prog f (nL t)
abbrev o:Option (List V):=some [(i 0)]
abbrev z:Option (List V):=some (is [0,0,0,0,0])
abbrev y:Option (List V):=some (is [0,5,0,100])
abbrev u(n:Int):V:=.int .u8 n
abbrev B:V:=.bool true
abbrev N:Option (List V):=none
abbrev c1:List V:=[(.mq [[(.agg [i 0,i 100,r 97,r 0,B]),i 50],[(.agg [i 0,i 100,r 98,r 0,B]),i 50],[(.agg [i 0,i 100,r 32,r 0,B]),i 50],[(.agg [i 0,i 100,r 97,r 98,(.bool false)]),i 0],[(.agg [i 0,i 100,r 98,r 32,(.bool false)]),i 0],[(.agg [i 0,i 100,r 99,r 0,B]),i 50],[(.agg [i 0,i 100,r 100,r 0,B]),i 50],[(.agg [i 0,i 100,r 32,r 99,(.bool false)]),i 0],[(.agg [i 0,i 100,r 99,r 100,(.bool false)]),i 0]])]
abbrev c5:List V:=[i 0,i 5,i 0,il [0,0,0,0,0]]
abbrev c6:List V:=[B,B,B,B,B,B]
abbrev c11:List V:=[(.mq [[(.agg [i 0,i 100,r 97,r 0,B]),i 50],[(.agg [i 0,i 100,r 98,r 0,B]),i 50],[(.agg [i 0,i 100,r 32,r 0,B]),i 50],[(.agg [i 0,i 100,r 97,r 98,(.bool false)]),i 0],[(.agg [i 0,i 100,r 98,r 32,(.bool false)]),i 0]])]
abbrev c13:List V:=[i 100,i 80,i 20,i 0,i 50,(.lst []),(.lst []),(.lst [])]
abbrev c17:List V:=[(.mq [[(.agg [i 0,i 100,r 97,r 0,B]),i 50],[(.agg [i 0,i 100,r 98,r 0,B]),i 50],[(.agg [i 0,i 100,r 32,r 0,B]),i 50],[(.agg [i 0,i 100,r 97,r 98,(.bool false)]),i 0],[(.agg [i 0,i 100,r 98,r 32,(.bool false)]),i 0],[(.agg [i 0,i 100,r 99,r 0,B]),i 50],[(.agg [i 0,i 100,r 100,r 0,B]),i 50],[(.agg [i 0,i 100,r 99,r 100,(.bool false)]),i 0]])]
abbrev c18:List V:=[r 0,r 0,i 0,i 0,(.bool false)]
abbrev c4:List V:=[(.mq [[(.agg [i 0,i 0,r 97,r 98,(.bool false)]),.agg c18],[(.agg [i 0,i 0,r 98,r 32,(.bool false)]),.agg c18],[(.agg [i 0,i 0,r 32,r 99,(.bool false)]),.agg c18],[(.agg [i 0,i 0,r 99,r 100,(.bool false)]),.agg c18]])]
abbrev c14:List V:=[(.mq [[(.agg [i 0,i 0,r 97,r 98,(.bool false)]),.agg c18],[(.agg [i 0,i 0,r 98,r 32,(.bool false)]),.agg c18]])]
abbrev c19:List V:=[il [0,0,4,0,0],il [0,0,4,0,0],(.lst [[B],[B],[B],[B],[B],[B]])]
abbrev c20:List V:=[i 0,i 0,i 0,i 0,i 0,i 0,i 0,i 0,i 0,.nils]
abbrev c21:List V:=(is [99,0,3,4,0,50,0,100])
abbrev c22:List V:=(is [97,0,0,1,0,50,0,100])
abbrev c8:List V:=[i 0,i 3,i 0,i 0,i 0,i 100,i 80,i 20,i 100,(.lst [c22,is [98,0,1,2,50,50,0,100],is [32,0,2,3,100,0,0,100]])]
abbrev c23:List V:=(is [97,0,0,1,0,50,0,100,98,0,1,2,50,50,0,100,32,0,2,3,100,50,0,100,99,0,3,4,150,50,0,100,100,0,4,5,200,50,0,100])
abbrev c24:List V:=[il [0,1,2,3,4],i 0,i 0,i 0]
abbrev c25:List V:=(is [97,0,0,1,0,50,0,100,98,0,1,2,50,50,0,100,32,0,2,3,100,50,0,100])
abbrev c26:List V:=(is [100,0,4,5,0,50,0,100])
abbrev c27:List V:=(is [98,0,1,2,0,50,0,100])
abbrev c28:List V:=(is [32,0,2,3,0,50,0,100])
abbrev c29:List V:=[r 97,r 122,u 0,u 3,u 0,u 0,u 0]
abbrev c7:V:=(.lst [[r 0,r 8,u 3,u 0,u 7,u 9,u 0],[r 9,r 9,u 3,u 0,u 10,u 11,u 0],[r 10,r 10,u 2,u 1,u 3,u 10,u 0],[r 11,r 11,u 3,u 1,u 1,u 11,u 0],[r 12,r 12,u 3,u 1,u 1,u 12,u 0],[r 13,r 13,u 1,u 1,u 2,u 10,u 0],[r 14,r 31,u 3,u 0,u 7,u 9,u 0],[r 32,r 32,u 0,u 2,u 4,u 12,u 0],[r 33,r 33,u 0,u 0,u 15,u 13,u 0],[r 34,r 34,u 0,u 0,u 14,u 13,u 0],[r 35,r 37,u 0,u 0,u 0,u 5,u 0],[r 38,r 38,u 0,u 0,u 0,u 13,u 0],[r 39,r 39,u 0,u 7,u 14,u 13,u 0],[r 40,r 40,u 0,u 0,u 12,u 13,u 0],[r 41,r 41,u 0,u 0,u 13,u 13,u 0],[r 42,r 42,u 0,u 0,u 0,u 13,u 0],[r 43,r 43,u 0,u 0,u 0,u 4,u 0],[r 44,r 44,u 0,u 6,u 16,u 7,u 0],[r 45,r 45,u 0,u 0,u 11,u 4,u 0],[r 46,r 46,u 0,u 7,u 16,u 7,u 0],[r 47,r 47,u 0,u 0,u 10,u 7,u 0],[r 48,r 57,u 0,u 4,u 17,u 3,u 0],[r 58,r 58,u 0,u 5,u 16,u 7,u 0],[r 59,r 59,u 0,u 6,u 16,u 13,u 0],[r 60,r 62,u 0,u 0,u 0,u 13,u 0],[r 63,r 63,u 0,u 0,u 15,u 13,u 0],[r 64,r 64,u 0,u 0,u 0,u 13,u 0],[r 65,r 90,u 0,u 3,u 0,u 0,u 0],[r 91,r 91,u 0,u 0,u 12,u 13,u 0],[r 92,r 92,u 0,u 0,u 0,u 13,u 0],[r 93,r 93,u 0,u 0,u 13,u 13,u 0],[r 94,r 94,u 0,u 0,u 0,u 13,u 0],[r 95,r 95,u 0,u 8,u 0,u 13,u 0],[r 96,r 96,u 0,u 0,u 0,u 13,u 0],c29,[r 123,r 123,u 0,u 0,u 12,u 13,u 0],[r 124,r 124,u 0,u 0,u 10,u 13,u 0],[r 125,r 125,u 0,u 0,u 13,u 13,u 0],[r 126,r 126,u 0,u 0,u 0,u 13,u 0],[r 127,r 132,u 3,u 0,u 7,u 9,u 0],[r 133,r 133,u 3,u 1,u 1,u 10,u 0],[r 134,r 159,u 3,u 0,u 7,u 9,u 0],[r 160,r 160,u 0,u 0,u 9,u 7,u 0],[r 161,r 161,u 0,u 0,u 12,u 13,u 0]])
abbrev c30:V:=(rl [97,98,32,99,100])
abbrev c2:List V:=[c30,il [0,0,0,0,0],.sl 3 0 6 6 1,.mref 4,.mref 5]
abbrev c3:List V:=[c30,(.lst [is [0,5,0,100]]),i 0,i 0,i 120,(.lst [c13]),il [0,0,1,0,2],il [0,1,2,3,4,5],.sl 7 0 6 6 1,.sl 19 0 5 5 1,c30,il [0,0,0,0,0],.sl 3 0 6 6 1,.mref 4,.mref 5,.sl 21 0 1 1 4]
abbrev c9:List V:=[c30,(.lst [is [0,5,0,100]]),i 0,i 0,i 0,(.lst [c13]),il [0,0,1,0,2],il [0,1,2,3,4,5],.sl 7 0 6 6 1,.sl 19 0 5 5 1,c30,il [0,0,0,0,0],.sl 3 0 6 6 1,.mref 4,.mref 5,.sl 21 0 1 1 4]
abbrev c10:List V:=[c30,(.lst [is [0,5,0,100]]),i 0,i 0,i 120]
abbrev c12:List V:=[c30,(.lst [is [0,5,0,100]]),i 0,i 0,i 0]
abbrev c15:List V:=[c30,il [0,0,12,0,0],.sl 1 0 5 5 1,il [-1,-1,-1,-1,-1],.sl 2 0 5 5 1,i 0]
abbrev c16:Heap:=[N,z,z,some c15,some c24]
abbrev c31:List V:=[(.mq [[(.agg [i 0,i 0,r 97,r 98,(.bool false)]),.agg c18],[(.agg [i 0,i 0,r 98,r 32,(.bool false)]),.agg c18],[(.agg [i 0,i 0,r 99,r 100,(.bool false)]),.agg c18]])]
abbrev c32:List V:=(is [99,0,3,4,0,50,0,100,100,0,4,5,50,50,0,100])
abbrev c33:List V:=[i 0,(i (-1)),(.bool false)]
abbrev c34:List V:=[.ptr 8 0,.agg c5,i 3,i 5]
abbrev c35:List V:=[.ptr 8 0,.agg c5,i 0,i 3]
def t37:Tbl:=[(⟨⟨0,[],0⟩,[.agg c19,i 1],[]⟩,i 0,[some c19,some (is [1,3,2]),some (is [1,2,3,4,5]),some (is [13,15,16]),some (is [17,11,16]),some (is [0,16])]),
 (⟨⟨0,[],0⟩,[.agg c19,i 2],[]⟩,i 0,[some c19,some (is [1,3,2]),some (is [1,2,3,4,5])]),
 (⟨⟨0,[],0⟩,[.agg c19,i 3],[]⟩,i 1,[some c19,some (is [1,3,2]),some (is [1,2,3,4,5]),some (is [13,15,16])]),
 (⟨⟨0,[],0⟩,[.agg c19,i 4],[]⟩,i 0,[some c19,some (is [1,3,2]),some (is [1,2,3,4,5]),some (is [13,15,16]),some (is [17,11,16]),some (is [0,16])])]
theorem r37x0:RW [] 37 t37 0:=by intro k r hk;cases hk;kernel_rfl
theorem r37x1:RW [] 37 t37 1:=by intro k r hk;cases hk;kernel_rfl
theorem r37x2:RW [] 37 t37 2:=by intro k r hk;cases hk;kernel_rfl
theorem r37x3:RW [] 37 t37 3:=by intro k r hk;cases hk;kernel_rfl
theorem ok37:bA prog md (bx []) 10000 40 37 t37:=(aj (r37x0 _ _ rfl) (aj (r37x1 _ _ rfl) (aj (r37x2 _ _ rfl) (aj (r37x3 _ _ rfl) aM))))
def ps1:List (FuncId×Tbl):=(37,t37)::[]
theorem pk1:MO ps1:=aG (by simp) (bf hfol hnam (aA _ (by simp)) ok37)
def t35:Tbl:=[(⟨⟨2,[],2⟩,[.sl 0 0 5 5 1,i 1],[z,o]⟩,B,[z,o]),
 (⟨⟨4,[],4⟩,[.sl 0 0 5 5 1,i 2],[z,N,some [i 1],some (is [0,1])]⟩,B,[z,N,some [i 1],some (is [0,1])]),
 (⟨⟨6,[],6⟩,[.sl 0 0 5 5 1,i 3],[z,N,some [i 1],N,some [i 2],some (is [0,1,2])]⟩,B,[z,N,some [i 1],N,some [i 2],some (is [0,1,2])]),
 (⟨⟨8,[],8⟩,[.sl 0 0 5 5 1,i 4],[z,N,some [i 1],N,some [i 2],N,some [i 3],some (is [0,1,2,3])]⟩,B,[z,N,some [i 1],N,some [i 2],N,some [i 3],some (is [0,1,2,3])])]
theorem r35x0:RW ps1 35 t35 0:=by intro k r hk;cases hk;kernel_rfl
theorem r35x1:RW ps1 35 t35 1:=by intro k r hk;cases hk;kernel_rfl
theorem r35x2:RW ps1 35 t35 2:=by intro k r hk;cases hk;kernel_rfl
theorem r35x3:RW ps1 35 t35 3:=by intro k r hk;cases hk;kernel_rfl
theorem ok35:bA prog md (bx ps1) 10000 40 35 t35:=(aj (r35x0 _ _ rfl) (aj (r35x1 _ _ rfl) (aj (r35x2 _ _ rfl) (aj (r35x3 _ _ rfl) aM))))
def ps2:List (FuncId×Tbl):=(35,t35)::ps1
theorem pk2:MO ps2:=aG pk1 (bf hfol hnam (aA _ pk1) ok35)
def t83:Tbl:=[(⟨⟨0,[],0⟩,[il [0,0,0]],[]⟩,.sl 0 0 3 3 1,[some (is [0,1,2])]),
 (⟨⟨0,[],0⟩,[il [0,0,0,0,0]],[]⟩,.sl 0 0 5 5 1,[some (is [0,1,2,3,4])]),
 (⟨⟨0,[],0⟩,[il [0,0]],[]⟩,.sl 0 0 2 2 1,[some (is [0,1])])]
theorem r83x0:RW ps2 83 t83 0:=by intro k r hk;cases hk;kernel_rfl
theorem r83x1:RW ps2 83 t83 1:=by intro k r hk;cases hk;kernel_rfl
theorem r83x2:RW ps2 83 t83 2:=by intro k r hk;cases hk;kernel_rfl
theorem ok83:bA prog md (bx ps2) 10000 40 83 t83:=(aj (r83x0 _ _ rfl) (aj (r83x1 _ _ rfl) (aj (r83x2 _ _ rfl) aM)))
def ps3:List (FuncId×Tbl):=(83,t83)::ps2
theorem pk3:MO ps3:=aG pk2 (bf hfol hnam (aA _ pk2) ok83)
def t101:Tbl:=[(⟨⟨0,[],0⟩,[il [0,0,12,0,0]],[]⟩,.sl 0 0 5 5 1,[some (is [-1,-1,-1,-1,-1])])]
theorem I4:RW ps3 101 t101 0:=by intro k r hk;cases hk;kernel_rfl
theorem ok101:bA prog md (bx ps3) 10000 40 101 t101:=(aj (I4 _ _ rfl) aM)
def ps4:List (FuncId×Tbl):=(101,t101)::ps3
theorem pk4:MO ps4:=aG pk3 (bf hfol hnam (aA _ pk3) ok101)
def t103:Tbl:=[(⟨⟨0,[],4⟩,[.ptr 3 0],[N,some (is [0,0,12,0,0]),z,some c15]⟩,(.tup []),[N,some (is [0,0,12,0,0]),z,some c15,some [.ptr 3 0],some c33,some [.sl 5 0 1 1 3],o,some c33,some [i 1],some c33,some [i 2],some c33,some [i 3],some c33,some [i 4],some c33])]
theorem I5:RW ps4 103 t103 0:=by intro k r hk;cases hk;kernel_rfl
theorem ok103:bA prog md (bx ps4) 10000 40 103 t103:=(aj (I5 _ _ rfl) aM)
def ps5:List (FuncId×Tbl):=(103,t103)::ps4
theorem pk5:MO ps5:=aG pk4 (bf hfol hnam (aA _ pk4) ok103)
def t105:Tbl:=[(⟨⟨0,[],5⟩,[.ptr 3 0,.agg c24],[N,some (is [0,0,12,0,0]),z,some c15,some c24]⟩,(.tup []),[N,some (is [0,0,12,0,0]),z,some c15,some c24,some [.ptr 3 0],some c24])]
theorem I6:RW ps5 105 t105 0:=by intro k r hk;cases hk;kernel_rfl
theorem ok105:bA prog md (bx ps5) 10000 40 105 t105:=(aj (I6 _ _ rfl) aM)
def ps6:List (FuncId×Tbl):=(105,t105)::ps5
theorem pk6:MO ps6:=aG pk5 (bf hfol hnam (aA _ pk5) ok105)
def t107:Tbl:=[(⟨⟨0,[],5⟩,[.ptr 3 0,.agg c24],[N,some (is [0,0,12,0,0]),z,some c15,some c24]⟩,(.tup []),[N,z,z,some c15,some c24,some c24])]
theorem I7:RW ps6 107 t107 0:=by intro k r hk;cases hk;kernel_rfl
theorem ok107:bA prog md (bx ps6) 10000 40 107 t107:=(aj (I7 _ _ rfl) aM)
def ps7:List (FuncId×Tbl):=(107,t107)::ps6
theorem pk7:MO ps7:=aG pk6 (bf hfol hnam (aA _ pk6) ok107)
def t108:Tbl:=[(⟨⟨0,[],5⟩,[.ptr 3 0,.agg c24],c16⟩,(.tup []),[N,z,z,some c15,some c24,some c24])]
theorem I8:RW ps7 108 t108 0:=by intro k r hk;cases hk;kernel_rfl
theorem ok108:bA prog md (bx ps7) 10000 40 108 t108:=(aj (I8 _ _ rfl) aM)
def ps8:List (FuncId×Tbl):=(108,t108)::ps7
theorem pk8:MO ps8:=aG pk7 (bf hfol hnam (aA _ pk7) ok108)
def t109:Tbl:=[(⟨⟨4,[],4⟩,[.ptr 3 0,i 0],[N,some (is [0,0,12,0,0]),z,some c15]⟩,(.bool false),[N,some (is [0,0,12,0,0]),z,some c15]),
 (⟨⟨6,[],6⟩,[.ptr 3 0,i 1],[N,some (is [0,0,12,0,0]),z,some c15,o,o]⟩,(.bool false),[N,some (is [0,0,12,0,0]),z,some c15,o,o]),
 (⟨⟨8,[],8⟩,[.ptr 3 0,i 2],[N,some (is [0,0,12,0,0]),z,some c15,o,N,some [i 1],some (is [0,1])]⟩,(.bool false),[N,some (is [0,0,12,0,0]),z,some c15,o,N,some [i 1],some (is [0,1])]),
 (⟨⟨10,[],10⟩,[.ptr 3 0,i 3],[N,some (is [0,0,12,0,0]),z,some c15,o,N,some [i 1],N,some [i 2],some (is [0,1,2])]⟩,(.bool false),[N,some (is [0,0,12,0,0]),z,some c15,o,N,some [i 1],N,some [i 2],some (is [0,1,2])]),
 (⟨⟨12,[],12⟩,[.ptr 3 0,i 4],[N,some (is [0,0,12,0,0]),z,some c15,o,N,some [i 1],N,some [i 2],N,some [i 3],some (is [0,1,2,3])]⟩,(.bool false),[N,some (is [0,0,12,0,0]),z,some c15,o,N,some [i 1],N,some [i 2],N,some [i 3],some (is [0,1,2,3])]),
 (⟨⟨5,[],5⟩,[.ptr 3 0,i 0],c16⟩,(.bool false),c16),
 (⟨⟨5,[],5⟩,[.ptr 3 0,i 1],c16⟩,(.bool false),c16),
 (⟨⟨5,[],5⟩,[.ptr 3 0,i 2],c16⟩,(.bool false),c16),
 (⟨⟨5,[],5⟩,[.ptr 3 0,i 3],c16⟩,(.bool false),c16),
 (⟨⟨5,[],5⟩,[.ptr 3 0,i 4],c16⟩,(.bool false),c16)]
theorem I9:RW ps8 109 t109 0:=by intro k r hk;cases hk;kernel_rfl
theorem Ja:RW ps8 109 t109 1:=by intro k r hk;cases hk;kernel_rfl
theorem Jb:RW ps8 109 t109 2:=by intro k r hk;cases hk;kernel_rfl
theorem Jc:RW ps8 109 t109 3:=by intro k r hk;cases hk;kernel_rfl
theorem Jd:RW ps8 109 t109 4:=by intro k r hk;cases hk;kernel_rfl
theorem Je:RW ps8 109 t109 5:=by intro k r hk;cases hk;kernel_rfl
theorem Jf:RW ps8 109 t109 6:=by intro k r hk;cases hk;kernel_rfl
theorem Jg:RW ps8 109 t109 7:=by intro k r hk;cases hk;kernel_rfl
theorem Jh:RW ps8 109 t109 8:=by intro k r hk;cases hk;kernel_rfl
theorem Ji:RW ps8 109 t109 9:=by intro k r hk;cases hk;kernel_rfl
theorem ok109:bA prog md (bx ps8) 10000 40 109 t109:=(aj (I9 _ _ rfl) (aj (Ja _ _ rfl) (aj (Jb _ _ rfl) (aj (Jc _ _ rfl) (aj (Jd _ _ rfl) (aj (Je _ _ rfl) (aj (Jf _ _ rfl) (aj (Jg _ _ rfl) (aj (Jh _ _ rfl) (aj (Ji _ _ rfl) aM))))))))))
def ps9:List (FuncId×Tbl):=(109,t109)::ps8
theorem pk9:MO ps9:=aG pk8 (bf hfol hnam (aA _ pk8) ok109)
def t126:Tbl:=[(⟨⟨6,[],6⟩,[.ptr 3 0,.agg c24],[N,some (is [0,0,12,0,0]),z,some c15,some c24,some c24]⟩,.nils,[N,some (is [0,0,12,0,0]),z,some c15,some c24,some c24,some c24])]
theorem Jj:RW ps9 126 t126 0:=by intro k r hk;cases hk;kernel_rfl
theorem ok126:bA prog md (bx ps9) 10000 40 126 t126:=(aj (Jj _ _ rfl) aM)
def wm:List (FuncId×Tbl):=(126,t126)::ps9
theorem pk10:MO wm:=aG pk9 (bf hfol hnam (aA _ pk9) ok126)
def t88:Tbl:=[(⟨⟨0,[],0⟩,[c7,r 97],[]⟩,.agg c29,[some c29]),
 (⟨⟨0,[],0⟩,[c7,r 98],[]⟩,.agg c29,[some c29]),
 (⟨⟨0,[],0⟩,[c7,r 32],[]⟩,(.agg [r 32,r 32,u 0,u 2,u 4,u 12,u 0]),[some [r 32,r 32,u 0,u 2,u 4,u 12,u 0]]),
 (⟨⟨0,[],0⟩,[c7,r 99],[]⟩,.agg c29,[some c29]),
 (⟨⟨0,[],0⟩,[c7,r 100],[]⟩,.agg c29,[some c29])]
theorem r88x0:RW wm 88 t88 0:=by intro k r hk;cases hk;kernel_rfl
theorem r88x1:RW wm 88 t88 1:=by intro k r hk;cases hk;kernel_rfl
theorem r88x2:RW wm 88 t88 2:=by intro k r hk;cases hk;kernel_rfl
theorem r88x3:RW wm 88 t88 3:=by intro k r hk;cases hk;kernel_rfl
theorem r88x4:RW wm 88 t88 4:=by intro k r hk;cases hk;kernel_rfl
theorem ok88:bA prog md (bx wm) 10000 40 88 t88:=(aj (r88x0 _ _ rfl) (aj (r88x1 _ _ rfl) (aj (r88x2 _ _ rfl) (aj (r88x3 _ _ rfl) (aj (r88x4 _ _ rfl) aM)))))
def ps11:List (FuncId×Tbl):=(88,t88)::wm
theorem pk11:MO ps11:=aG pk10 (bf hfol hnam (aA _ pk10) ok88)
def t14:Tbl:=[(⟨⟨0,[],0⟩,[c30],[]⟩,.sl 11 0 6 6 1,[z,N,some [i 1],N,some [i 2],N,some [i 3],N,some [i 4],N,some [i 5],some (is [0,1,2,3,4,5])])]
theorem r14x0:RW ps11 14 t14 0:=by intro k r hk;cases hk;kernel_rfl
theorem ok14:bA prog md (bx ps11) 10000 40 14 t14:=(aj (r14x0 _ _ rfl) aM)
def ps12:List (FuncId×Tbl):=(14,t14)::ps11
theorem pk12:MO ps12:=aG pk11 (bf hfol hnam (aA _ pk11) ok14)
def t36:Tbl:=[(⟨⟨0,[],0⟩,[c30],[]⟩,(.agg [.sl 1 0 5 5 1,.sl 2 0 5 5 1,.sl 3 0 6 6 1]),[some [.sl 1 0 5 5 1,.sl 2 0 5 5 1,.sl 3 0 6 6 1],some (is [0,0,4,0,0]),some (is [0,0,4,0,0]),some c6,some [.sl 1 0 5 5 1,.sl 2 0 5 5 1,.sl 3 0 6 6 1]])]
theorem r36x0:RW ps12 36 t36 0:=by intro k r hk;cases hk;kernel_rfl
theorem ok36:bA prog md (bx ps12) 10000 40 36 t36:=(aj (r36x0 _ _ rfl) aM)
def ps13:List (FuncId×Tbl):=(36,t36)::ps12
theorem pk13:MO ps13:=aG pk12 (bf hfol hnam (aA _ pk12) ok36)
def t15:Tbl:=[(⟨⟨0,[],0⟩,[c30],[]⟩,.sl 1 0 5 5 1,[some c19,some (is [0,0,1,0,2])])]
theorem r15x0:RW ps13 15 t15 0:=by intro k r hk;cases hk;kernel_rfl
theorem ok15:bA prog md (bx ps13) 10000 40 15 t15:=(aj (r15x0 _ _ rfl) aM)
def ps14:List (FuncId×Tbl):=(15,t15)::ps13
theorem pk14:MO ps14:=aG pk13 (bf hfol hnam (aA _ pk13) ok15)
def t79:Tbl:=[(⟨⟨0,[],0⟩,[c30],[]⟩,.sl 0 0 5 5 1,[z])]
theorem r79x0:RW ps14 79 t79 0:=by intro k r hk;cases hk;kernel_rfl
theorem ok79:bA prog md (bx ps14) 10000 40 79 t79:=(aj (r79x0 _ _ rfl) aM)
def Dr:List (FuncId×Tbl):=(79,t79)::ps14
theorem pk15:MO Dr:=aG pk14 (bf hfol hnam (aA _ pk14) ok79)
def t51:Tbl:=[(⟨⟨2,[],2⟩,[c30],[some c10,some c10]⟩,.agg c2,[some c10,some c10,some c2,some c6,some [(.mq [])],some [(.mq [])],some c2]),
 (⟨⟨2,[],2⟩,[c30],[some c12,some c12]⟩,.agg c2,[some c12,some c12,some c2,some c6,some [(.mq [])],some [(.mq [])],some c2])]
theorem r51x0:RW Dr 51 t51 0:=by intro k r hk;cases hk;kernel_rfl
theorem r51x1:RW Dr 51 t51 1:=by intro k r hk;cases hk;kernel_rfl
theorem ok51:bA prog md (bx Dr) 10000 40 51 t51:=(aj (r51x0 _ _ rfl) (aj (r51x1 _ _ rfl) aM))
def qx:List (FuncId×Tbl):=(51,t51)::Dr
theorem pk16:MO qx:=aG pk15 (bf hfol hnam (aA _ pk15) ok51)
def t82:Tbl:=[(⟨⟨24,[4,5],24⟩,[c30,il [0,0,0,0,0],i 0,i 0,i 3],[some c10,some c10,some c2,some c6,some [(.mq [])],some [(.mq [])],some c2,some c6,some c3,y,o,N,o,N,o,N,o,N,o,z,some c5,some c5,some c5,some c5,some c5,some c5]⟩,.sl 27 0 3 3 1,[some c10,some c10,some c2,some c6,some [(.mq [])],some [(.mq [])],some c2,some c6,some c3,y,o,N,o,N,o,N,o,N,o,z,some c5,some c5,some c5,some c5,some c5,some c5,N,some (is [0,0,0])]),
 (⟨⟨24,[4,5],24⟩,[c30,il [0,0,0,0,0],i 0,i 0,i 5],[some c10,some c10,some c2,some c6,some c11,some c14,some c2,some c6,some c3,y,o,N,o,N,o,N,o,N,o,z,some c5,some c5,some c5,some c5,some c5,some c5]⟩,.sl 27 0 5 5 1,[some c10,some c10,some c2,some c6,some c11,some c14,some c2,some c6,some c3,y,o,N,o,N,o,N,o,N,o,z,some c5,some c5,some c5,some c5,some c5,some c5,N,z]),
 (⟨⟨25,[4,5],25⟩,[c30,il [0,0,0,0,0],i 0,i 0,i 3],[some c10,some c10,some c2,some c6,some c1,some c4,some c2,some c6,some c3,y,o,N,o,N,o,N,o,N,o,z,some c5,some c5,some c5,some c5,some c20,some c5]⟩,.sl 27 0 3 3 1,[some c10,some c10,some c2,some c6,some c1,some c4,some c2,some c6,some c3,y,o,N,o,N,o,N,o,N,o,z,some c5,some c5,some c5,some c5,some c20,some c5,N,some (is [0,0,0])]),
 (⟨⟨27,[4,5],27⟩,[c30,il [0,0,0,0,0],i 0,i 3,i 5],[some c10,some c10,some c2,some c6,some c1,some c4,some c2,some c6,some c3,y,o,N,o,N,o,N,o,N,o,z,some c5,some c5,some c5,some c8,some c8,some c8,some c5,some c5,some c5]⟩,.sl 30 0 2 2 1,[some c10,some c10,some c2,some c6,some c1,some c4,some c2,some c6,some c3,y,o,N,o,N,o,N,o,N,o,z,some c5,some c5,some c5,some c8,some c8,some c8,some c5,some c5,some c5,N,some (is [0,0])]),
 (⟨⟨28,[4,5],28⟩,[c30,il [0,0,0,0,0],i 0,i 3,i 5],[some c10,some c10,some c2,some c6,some c1,some c4,some c2,some c6,some c3,y,o,N,o,N,o,N,o,N,o,z,some c5,some c5,some c5,some c8,some c8,some c8,some c5,some c20,some c5]⟩,.sl 30 0 2 2 1,[some c10,some c10,some c2,some c6,some c1,some c4,some c2,some c6,some c3,y,o,N,o,N,o,N,o,N,o,z,some c5,some c5,some c5,some c8,some c8,some c8,some c5,some c20,some c5,N,some (is [0,0])]),
 (⟨⟨0,[],23⟩,[c30,il [0,0,0,0,0],i 0,i 0,i 3],[some c12,some c12,some c2,some c6,some [(.mq [])],some [(.mq [])],some c2,some c6,some c9,y,o,N,o,N,o,N,o,N,o,z,some c5,some c5,some c5,some c5,some c5]⟩,.sl 26 0 3 3 1,[some c12,some c12,some c2,some c6,some [(.mq [])],some [(.mq [])],some c2,some c6,some c9,y,o,N,o,N,o,N,o,N,o,z,some c5,some c5,some c5,some c5,some c5,N,some (is [0,0,0])]),
 (⟨⟨0,[],23⟩,[c30,il [0,0,0,0,0],i 0,i 3,i 5],[some c12,some c12,some c2,some c6,some c11,some c14,some c2,some c6,some c9,y,o,N,o,N,o,N,o,N,o,z,some c5,some c5,some c5,some c5,some c5]⟩,.sl 26 0 2 2 1,[some c12,some c12,some c2,some c6,some c11,some c14,some c2,some c6,some c9,y,o,N,o,N,o,N,o,N,o,z,some c5,some c5,some c5,some c5,some c5,N,some (is [0,0])]),
 (⟨⟨0,[],23⟩,[c30,il [0,0,0,0,0],i 0,i 0,i 5],[some c12,some c12,some c2,some c6,some c11,some c14,some c2,some c6,some c9,y,o,N,o,N,o,N,o,N,o,z,some c5,some c5,some c5,some c5,some c5]⟩,.sl 26 0 5 5 1,[some c12,some c12,some c2,some c6,some c11,some c14,some c2,some c6,some c9,y,o,N,o,N,o,N,o,N,o,z,some c5,some c5,some c5,some c5,some c5,N,z])]
theorem r82x0:RW qx 82 t82 0:=by intro k r hk;cases hk;kernel_rfl
theorem r82x1:RW qx 82 t82 1:=by intro k r hk;cases hk;kernel_rfl
theorem r82x2:RW qx 82 t82 2:=by intro k r hk;cases hk;kernel_rfl
theorem r82x3:RW qx 82 t82 3:=by intro k r hk;cases hk;kernel_rfl
theorem r82x4:RW qx 82 t82 4:=by intro k r hk;cases hk;kernel_rfl
theorem r82x5:RW qx 82 t82 5:=by intro k r hk;cases hk;kernel_rfl
theorem r82x6:RW qx 82 t82 6:=by intro k r hk;cases hk;kernel_rfl
theorem r82x7:RW qx 82 t82 7:=by intro k r hk;cases hk;kernel_rfl
theorem ok82:bA prog md (bx qx) 10000 40 82 t82:=(aj (r82x0 _ _ rfl) (aj (r82x1 _ _ rfl) (aj (r82x2 _ _ rfl) (aj (r82x3 _ _ rfl) (aj (r82x4 _ _ rfl) (aj (r82x5 _ _ rfl) (aj (r82x6 _ _ rfl) (aj (r82x7 _ _ rfl) aM))))))))
def ps17:List (FuncId×Tbl):=(82,t82)::qx
theorem pk17:MO ps17:=aG pk16 (bf hfol hnam (aA _ pk16) ok82)
def t99:Tbl:=[(⟨⟨0,[],0⟩,[c30],[]⟩,.sl 0 0 5 5 1,[some (is [0,0,12,0,0])])]
theorem r99x0:RW ps17 99 t99 0:=by intro k r hk;cases hk;kernel_rfl
theorem ok99:bA prog md (bx ps17) 10000 40 99 t99:=(aj (r99x0 _ _ rfl) aM)
def ps18:List (FuncId×Tbl):=(99,t99)::ps17
theorem pk18:MO ps18:=aG pk17 (bf hfol hnam (aA _ pk17) ok99)
def t81:Tbl:=[(⟨⟨0,[],0⟩,[c30,i 0],[]⟩,.sl 2 0 5 5 1,c16)]
theorem r81x0:RW ps18 81 t81 0:=by intro k r hk;cases hk;kernel_rfl
theorem ok81:bA prog md (bx ps18) 10000 40 81 t81:=(aj (r81x0 _ _ rfl) aM)
def Ds:List (FuncId×Tbl):=(81,t81)::ps18
theorem pk19:MO Ds:=aG pk18 (bf hfol hnam (aA _ pk18) ok81)
def t52:Tbl:=[(⟨⟨20,[],20⟩,[.ptr 8 0,i 0,i 5],[some c10,some c10,some c2,some c6,some [(.mq [])],some [(.mq [])],some c2,some c6,some [c30,(.lst [is [0,5,0,100]]),i 0,i 0,i 120,(.lst [c13]),il [0,0,1,0,2],il [0,1,2,3,4,5],.sl 7 0 6 6 1,.sl 19 0 5 5 1,c30,il [0,0,0,0,0],.sl 3 0 6 6 1,.mref 4,.mref 5,.nils],y,o,N,o,N,o,N,o,N,o,z]⟩,.agg c5,[some c10,some c10,some c2,some c6,some [(.mq [])],some [(.mq [])],some c2,some c6,some [c30,(.lst [is [0,5,0,100]]),i 0,i 0,i 120,(.lst [c13]),il [0,0,1,0,2],il [0,1,2,3,4,5],.sl 7 0 6 6 1,.sl 19 0 5 5 1,c30,il [0,0,0,0,0],.sl 3 0 6 6 1,.mref 4,.mref 5,.nils],y,o,N,o,N,o,N,o,N,o,z,some c5]),
 (⟨⟨20,[],20⟩,[.ptr 8 0,i 0,i 5],[some c12,some c12,some c2,some c6,some [(.mq [])],some [(.mq [])],some c2,some c6,some [c30,(.lst [is [0,5,0,100]]),i 0,i 0,i 0,(.lst [c13]),il [0,0,1,0,2],il [0,1,2,3,4,5],.sl 7 0 6 6 1,.sl 19 0 5 5 1,c30,il [0,0,0,0,0],.sl 3 0 6 6 1,.mref 4,.mref 5,.nils],y,o,N,o,N,o,N,o,N,o,z]⟩,.agg c5,[some c12,some c12,some c2,some c6,some [(.mq [])],some [(.mq [])],some c2,some c6,some [c30,(.lst [is [0,5,0,100]]),i 0,i 0,i 0,(.lst [c13]),il [0,0,1,0,2],il [0,1,2,3,4,5],.sl 7 0 6 6 1,.sl 19 0 5 5 1,c30,il [0,0,0,0,0],.sl 3 0 6 6 1,.mref 4,.mref 5,.nils],y,o,N,o,N,o,N,o,N,o,z,some c5])]
theorem r52x0:RW Ds 52 t52 0:=by intro k r hk;cases hk;kernel_rfl
theorem r52x1:RW Ds 52 t52 1:=by intro k r hk;cases hk;kernel_rfl
theorem ok52:bA prog md (bx Ds) 10000 40 52 t52:=(aj (r52x0 _ _ rfl) (aj (r52x1 _ _ rfl) aM))
def Dt:List (FuncId×Tbl):=(52,t52)::Ds
theorem pk20:MO Dt:=aG pk19 (bf hfol hnam (aA _ pk19) ok52)
def t30:Tbl:=[(⟨⟨0,[],0⟩,[.agg c10,(.lst [c13])],[some c10]⟩,.ptr 8 0,[some c10,some c10,some c2,some c6,some [(.mq [])],some [(.mq [])],some c2,some c6,some c3,y,o,N,o,N,o,N,o,N,o,z,some c5,some c5]),
 (⟨⟨0,[],0⟩,[.agg c12,(.lst [c13])],[some c12]⟩,.ptr 8 0,[some c12,some c12,some c2,some c6,some [(.mq [])],some [(.mq [])],some c2,some c6,some c9,y,o,N,o,N,o,N,o,N,o,z,some c5,some c5])]
theorem r30x0:RW Dt 30 t30 0:=by intro k r hk;cases hk;kernel_rfl
theorem r30x1:RW Dt 30 t30 1:=by intro k r hk;cases hk;kernel_rfl
theorem ok30:bA prog md (bx Dt) 10000 40 30 t30:=(aj (r30x0 _ _ rfl) (aj (r30x1 _ _ rfl) aM))
def ps21:List (FuncId×Tbl):=(30,t30)::Dt
theorem pk21:MO ps21:=aG pk20 (bf hfol hnam (aA _ pk20) ok30)
def t49:Tbl:=[(⟨⟨0,[],0⟩,[.agg c13],[]⟩,i 0,[some c13])]
theorem r49x0:RW ps21 49 t49 0:=by intro k r hk;cases hk;kernel_rfl
theorem ok49:bA prog md (bx ps21) 10000 40 49 t49:=(aj (r49x0 _ _ rfl) aM)
def Du:List (FuncId×Tbl):=(49,t49)::ps21
theorem pk22:MO Du:=aG pk21 (bf hfol hnam (aA _ pk21) ok49)
def t29:Tbl:=[(⟨⟨0,[],0⟩,[.agg c10,(.lst [c13])],[]⟩,i 0,[some c10,y,some c13]),
 (⟨⟨0,[],0⟩,[.agg c12,(.lst [c13])],[]⟩,i 0,[some c12,y,some c13])]
theorem r29x0:RW Du 29 t29 0:=by intro k r hk;cases hk;kernel_rfl
theorem r29x1:RW Du 29 t29 1:=by intro k r hk;cases hk;kernel_rfl
theorem ok29:bA prog md (bx Du) 10000 40 29 t29:=(aj (r29x0 _ _ rfl) (aj (r29x1 _ _ rfl) aM))
def wo:List (FuncId×Tbl):=(29,t29)::Du
theorem pk23:MO wo:=aG pk22 (bf hfol hnam (aA _ pk22) ok29)
def t129:Tbl:=[(⟨⟨0,[],0⟩,[.agg c13,i 100,r 97],[]⟩,i 50,[some c13]),
 (⟨⟨0,[],0⟩,[.agg c13,i 100,r 98],[]⟩,i 50,[some c13]),
 (⟨⟨0,[],0⟩,[.agg c13,i 100,r 32],[]⟩,i 50,[some c13]),
 (⟨⟨0,[],0⟩,[.agg c13,i 100,r 99],[]⟩,i 50,[some c13]),
 (⟨⟨0,[],0⟩,[.agg c13,i 100,r 100],[]⟩,i 50,[some c13])]
theorem Jk:RW wo 129 t129 0:=by intro k r hk;cases hk;kernel_rfl
theorem Jl:RW wo 129 t129 1:=by intro k r hk;cases hk;kernel_rfl
theorem Jm:RW wo 129 t129 2:=by intro k r hk;cases hk;kernel_rfl
theorem Jn:RW wo 129 t129 3:=by intro k r hk;cases hk;kernel_rfl
theorem Jo:RW wo 129 t129 4:=by intro k r hk;cases hk;kernel_rfl
theorem ok129:bA prog md (bx wo) 10000 40 129 t129:=(aj (Jk _ _ rfl) (aj (Jl _ _ rfl) (aj (Jm _ _ rfl) (aj (Jn _ _ rfl) (aj (Jo _ _ rfl) aM)))))
def ps24:List (FuncId×Tbl):=(129,t129)::wo
theorem pk24:MO ps24:=aG pk23 (bf hfol hnam (aA _ pk23) ok129)
def t23:Tbl:=[(⟨⟨0,[],0⟩,[.agg c13,i 100],[]⟩,i 20,[some c13])]
theorem r23x0:RW ps24 23 t23 0:=by intro k r hk;cases hk;kernel_rfl
theorem ok23:bA prog md (bx ps24) 10000 40 23 t23:=(aj (r23x0 _ _ rfl) aM)
def ps25:List (FuncId×Tbl):=(23,t23)::ps24
theorem pk25:MO ps25:=aG pk24 (bf hfol hnam (aA _ pk24) ok23)
def t22:Tbl:=[(⟨⟨0,[],0⟩,[.agg c13,i 100],[]⟩,i 80,[some c13])]
theorem r22x0:RW ps25 22 t22 0:=by intro k r hk;cases hk;kernel_rfl
theorem ok22:bA prog md (bx ps25) 10000 40 22 t22:=(aj (r22x0 _ _ rfl) aM)
def ps26:List (FuncId×Tbl):=(22,t22)::ps25
theorem pk26:MO ps26:=aG pk25 (bf hfol hnam (aA _ pk25) ok22)
def t57:Tbl:=[(⟨⟨0,[],0⟩,[.agg c13,i 100],[]⟩,i 100,[some c13])]
theorem r57x0:RW ps26 57 t57 0:=by intro k r hk;cases hk;kernel_rfl
theorem ok57:bA prog md (bx ps26) 10000 40 57 t57:=(aj (r57x0 _ _ rfl) aM)
def qy:List (FuncId×Tbl):=(57,t57)::ps26
theorem pk27:MO qy:=aG pk26 (bf hfol hnam (aA _ pk26) ok57)
def t84:Tbl:=[(⟨⟨24,[4,5],33⟩,[.agg c2,.agg c13,i 0,i 100,i 0,i 3,(.bool false)],[some c10,some c10,some c2,some c6,some [(.mq [])],some [(.mq [])],some c2,some c6,some c3,y,o,N,o,N,o,N,o,N,o,z,some c5,some c5,some c5,some c5,some c5,some c5,N,some (is [0,0,0]),some (is [0,0,0]),some (is [0,0]),some (is [0,3]),some [B],y]⟩,.sl 56 0 3 3 8,[some c10,some c10,some c2,some c6,some c11,some c14,some c2,some c6,some c3,y,o,N,o,N,o,N,o,N,o,z,some c5,some c5,some c5,some c5,some c5,some c5,N,some (is [0,0,0]),some (is [0,0,0]),some (is [0,0]),some (is [0,3]),some [B],y,some c2,some c13,some c22,some c22,N,some c27,some c27,N,some c28,some c28,some (is [97,0,0,1,0,50,0,100,98,0,1,2,0,50,0,100,32,0,2,3,0,50,0,100]),some c2,some c13,some c22,some c18,some c22,N,some c27,some c18,some c27,N,some c28,some c28,some c25,some c2,some c13]),
 (⟨⟨24,[4,5],33⟩,[.agg c2,.agg c13,i 0,i 100,i 0,i 5,(.bool false)],[some c10,some c10,some c2,some c6,some c11,some c14,some c2,some c6,some c3,y,o,N,o,N,o,N,o,N,o,z,some c5,some c5,some c5,some c5,some c5,some c5,N,z,z,some (is [0,0]),some (is [0,5]),some [B],y]⟩,.sl 70 0 5 5 8,[some c10,some c10,some c2,some c6,some c1,some c4,some c2,some c6,some c3,y,o,N,o,N,o,N,o,N,o,z,some c5,some c5,some c5,some c5,some c5,some c5,N,z,z,some (is [0,0]),some (is [0,5]),some [B],y,some c2,some c13,some c22,some c22,N,some c27,some c27,N,some c28,some c28,N,some c21,some c21,N,some c26,some c26,some (is [97,0,0,1,0,50,0,100,98,0,1,2,0,50,0,100,32,0,2,3,0,50,0,100,99,0,3,4,0,50,0,100,100,0,4,5,0,50,0,100]),some c2,some c13,some c22,some c18,some c22,N,some c27,some c18,some c27,N,some c28,some c18,some c28,N,some c21,some c18,some c21,N,some c26,some c26,some c23,some c2,some c13]),
 (⟨⟨25,[4,5],33⟩,[.agg c2,.agg c13,i 0,i 100,i 0,i 3,(.bool false)],[some c10,some c10,some c2,some c6,some c1,some c4,some c2,some c6,some c3,y,o,N,o,N,o,N,o,N,o,z,some c5,some c5,some c5,some c5,some c20,some c5,N,some (is [0,0,0]),some (is [0,0,0]),some (is [0,0]),some (is [0,3]),some [B],y]⟩,.sl 56 0 3 3 8,[some c10,some c10,some c2,some c6,some c1,some c4,some c2,some c6,some c3,y,o,N,o,N,o,N,o,N,o,z,some c5,some c5,some c5,some c5,some c20,some c5,N,some (is [0,0,0]),some (is [0,0,0]),some (is [0,0]),some (is [0,3]),some [B],y,some c2,some c13,some c22,some c22,N,some c27,some c27,N,some c28,some c28,some (is [97,0,0,1,0,50,0,100,98,0,1,2,0,50,0,100,32,0,2,3,0,50,0,100]),some c2,some c13,some c22,some c18,some c22,N,some c27,some c18,some c27,N,some c28,some c28,some c25,some c2,some c13]),
 (⟨⟨27,[4,5],36⟩,[.agg c2,.agg c13,i 0,i 100,i 3,i 5,(.bool false)],[some c10,some c10,some c2,some c6,some c1,some c4,some c2,some c6,some c3,y,o,N,o,N,o,N,o,N,o,z,some c5,some c5,some c5,some c8,some c8,some c8,some c5,some c5,some c5,N,some (is [0,0]),some (is [0,0]),some (is [3,3]),some (is [3,5]),some [B],y]⟩,.sl 52 0 2 2 8,[some c10,some c10,some c2,some c6,some c1,some c4,some c2,some c6,some c3,y,o,N,o,N,o,N,o,N,o,z,some c5,some c5,some c5,some c8,some c8,some c8,some c5,some c5,some c5,N,some (is [0,0]),some (is [0,0]),some (is [3,3]),some (is [3,5]),some [B],y,some c2,some c13,some c21,some c21,N,some c26,some c26,some (is [99,0,3,4,0,50,0,100,100,0,4,5,0,50,0,100]),some c2,some c13,some c21,some c18,some c21,N,some c26,some c26,some c32,some c2,some c13]),
 (⟨⟨28,[4,5],36⟩,[.agg c2,.agg c13,i 0,i 100,i 3,i 5,(.bool false)],[some c10,some c10,some c2,some c6,some c1,some c4,some c2,some c6,some c3,y,o,N,o,N,o,N,o,N,o,z,some c5,some c5,some c5,some c8,some c8,some c8,some c5,some c20,some c5,N,some (is [0,0]),some (is [0,0]),some (is [3,3]),some (is [3,5]),some [B],y]⟩,.sl 52 0 2 2 8,[some c10,some c10,some c2,some c6,some c1,some c4,some c2,some c6,some c3,y,o,N,o,N,o,N,o,N,o,z,some c5,some c5,some c5,some c8,some c8,some c8,some c5,some c20,some c5,N,some (is [0,0]),some (is [0,0]),some (is [3,3]),some (is [3,5]),some [B],y,some c2,some c13,some c21,some c21,N,some c26,some c26,some (is [99,0,3,4,0,50,0,100,100,0,4,5,0,50,0,100]),some c2,some c13,some c21,some c18,some c21,N,some c26,some c26,some c32,some c2,some c13]),
 (⟨⟨0,[],32⟩,[.agg c2,.agg c13,i 0,i 100,i 0,i 3,(.bool false)],[some c12,some c12,some c2,some c6,some [(.mq [])],some [(.mq [])],some c2,some c6,some c9,y,o,N,o,N,o,N,o,N,o,z,some c5,some c5,some c5,some c5,some c5,N,some (is [0,0,0]),some (is [0,0,0]),some (is [0,0]),some (is [0,3]),some [B],y]⟩,.sl 55 0 3 3 8,[some c12,some c12,some c2,some c6,some c11,some c14,some c2,some c6,some c9,y,o,N,o,N,o,N,o,N,o,z,some c5,some c5,some c5,some c5,some c5,N,some (is [0,0,0]),some (is [0,0,0]),some (is [0,0]),some (is [0,3]),some [B],y,some c2,some c13,some c22,some c22,N,some c27,some c27,N,some c28,some c28,some (is [97,0,0,1,0,50,0,100,98,0,1,2,0,50,0,100,32,0,2,3,0,50,0,100]),some c2,some c13,some c22,some c18,some c22,N,some c27,some c18,some c27,N,some c28,some c28,some c25,some c2,some c13]),
 (⟨⟨0,[],32⟩,[.agg c2,.agg c13,i 0,i 100,i 3,i 5,(.bool false)],[some c12,some c12,some c2,some c6,some c11,some c14,some c2,some c6,some c9,y,o,N,o,N,o,N,o,N,o,z,some c5,some c5,some c5,some c5,some c5,N,some (is [0,0]),some (is [0,0]),some (is [3,3]),some (is [3,5]),some [B],y]⟩,.sl 48 0 2 2 8,[some c12,some c12,some c2,some c6,some c17,some c31,some c2,some c6,some c9,y,o,N,o,N,o,N,o,N,o,z,some c5,some c5,some c5,some c5,some c5,N,some (is [0,0]),some (is [0,0]),some (is [3,3]),some (is [3,5]),some [B],y,some c2,some c13,some c21,some c21,N,some c26,some c26,some (is [99,0,3,4,0,50,0,100,100,0,4,5,0,50,0,100]),some c2,some c13,some c21,some c18,some c21,N,some c26,some c26,some c32,some c2,some c13]),
 (⟨⟨0,[],32⟩,[.agg c2,.agg c13,i 0,i 100,i 0,i 5,(.bool false)],[some c12,some c12,some c2,some c6,some c11,some c14,some c2,some c6,some c9,y,o,N,o,N,o,N,o,N,o,z,some c5,some c5,some c5,some c5,some c5,N,z,z,some (is [0,0]),some (is [0,5]),some [B],y]⟩,.sl 69 0 5 5 8,[some c12,some c12,some c2,some c6,some c1,some c4,some c2,some c6,some c9,y,o,N,o,N,o,N,o,N,o,z,some c5,some c5,some c5,some c5,some c5,N,z,z,some (is [0,0]),some (is [0,5]),some [B],y,some c2,some c13,some c22,some c22,N,some c27,some c27,N,some c28,some c28,N,some c21,some c21,N,some c26,some c26,some (is [97,0,0,1,0,50,0,100,98,0,1,2,0,50,0,100,32,0,2,3,0,50,0,100,99,0,3,4,0,50,0,100,100,0,4,5,0,50,0,100]),some c2,some c13,some c22,some c18,some c22,N,some c27,some c18,some c27,N,some c28,some c18,some c28,N,some c21,some c18,some c21,N,some c26,some c26,some c23,some c2,some c13])]
theorem r84x0:RW qy 84 t84 0:=by intro k r hk;cases hk;kernel_rfl
theorem r84x1:RW qy 84 t84 1:=by intro k r hk;cases hk;kernel_rfl
theorem r84x2:RW qy 84 t84 2:=by intro k r hk;cases hk;kernel_rfl
theorem r84x3:RW qy 84 t84 3:=by intro k r hk;cases hk;kernel_rfl
theorem r84x4:RW qy 84 t84 4:=by intro k r hk;cases hk;kernel_rfl
theorem r84x5:RW qy 84 t84 5:=by intro k r hk;cases hk;kernel_rfl
theorem r84x6:RW qy 84 t84 6:=by intro k r hk;cases hk;kernel_rfl
theorem r84x7:RW qy 84 t84 7:=by intro k r hk;cases hk;kernel_rfl
theorem ok84:bA prog md (bx qy) 10000 40 84 t84:=(aj (r84x0 _ _ rfl) (aj (r84x1 _ _ rfl) (aj (r84x2 _ _ rfl) (aj (r84x3 _ _ rfl) (aj (r84x4 _ _ rfl) (aj (r84x5 _ _ rfl) (aj (r84x6 _ _ rfl) (aj (r84x7 _ _ rfl) aM))))))))
def qz:List (FuncId×Tbl):=(84,t84)::qy
theorem pk28:MO qz:=aG pk27 (bf hfol hnam (aA _ pk27) ok84)
def t55:Tbl:=[(⟨⟨24,[4,5],24⟩,c35,[some c10,some c10,some c2,some c6,some [(.mq [])],some [(.mq [])],some c2,some c6,some c3,y,o,N,o,N,o,N,o,N,o,z,some c5,some c5,some c5,some c5,some c5]⟩,.sl 33 0 3 3 8,[some c10,some c10,some c2,some c6,some c11,some c14,some c2,some c6,some c3,y,o,N,o,N,o,N,o,N,o,z,some c5,some c5,some c5,some c5,some c5,some c5,N,some (is [0,0,0]),some (is [0,0,0]),some (is [0,0]),some (is [0,3]),some [B],y,some c25]),
 (⟨⟨24,[4,5],24⟩,[.ptr 8 0,.agg c5,i 0,i 5],[some c10,some c10,some c2,some c6,some c11,some c14,some c2,some c6,some c3,y,o,N,o,N,o,N,o,N,o,z,some c5,some c5,some c5,some c5,some c5]⟩,.sl 33 0 5 5 8,[some c10,some c10,some c2,some c6,some c1,some c4,some c2,some c6,some c3,y,o,N,o,N,o,N,o,N,o,z,some c5,some c5,some c5,some c5,some c5,some c5,N,z,z,some (is [0,0]),some (is [0,5]),some [B],y,some c23]),
 (⟨⟨25,[4,5],25⟩,c35,[some c10,some c10,some c2,some c6,some c1,some c4,some c2,some c6,some c3,y,o,N,o,N,o,N,o,N,o,z,some c5,some c5,some c5,some c5,some c20]⟩,.sl 33 0 3 3 8,[some c10,some c10,some c2,some c6,some c1,some c4,some c2,some c6,some c3,y,o,N,o,N,o,N,o,N,o,z,some c5,some c5,some c5,some c5,some c20,some c5,N,some (is [0,0,0]),some (is [0,0,0]),some (is [0,0]),some (is [0,3]),some [B],y,some c25]),
 (⟨⟨27,[4,5],27⟩,c34,[some c10,some c10,some c2,some c6,some c1,some c4,some c2,some c6,some c3,y,o,N,o,N,o,N,o,N,o,z,some c5,some c5,some c5,some c8,some c8,some c8,some c5,some c5]⟩,.sl 36 0 2 2 8,[some c10,some c10,some c2,some c6,some c1,some c4,some c2,some c6,some c3,y,o,N,o,N,o,N,o,N,o,z,some c5,some c5,some c5,some c8,some c8,some c8,some c5,some c5,some c5,N,some (is [0,0]),some (is [0,0]),some (is [3,3]),some (is [3,5]),some [B],y,some c32]),
 (⟨⟨28,[4,5],28⟩,c34,[some c10,some c10,some c2,some c6,some c1,some c4,some c2,some c6,some c3,y,o,N,o,N,o,N,o,N,o,z,some c5,some c5,some c5,some c8,some c8,some c8,some c5,some c20]⟩,.sl 36 0 2 2 8,[some c10,some c10,some c2,some c6,some c1,some c4,some c2,some c6,some c3,y,o,N,o,N,o,N,o,N,o,z,some c5,some c5,some c5,some c8,some c8,some c8,some c5,some c20,some c5,N,some (is [0,0]),some (is [0,0]),some (is [3,3]),some (is [3,5]),some [B],y,some c32]),
 (⟨⟨0,[],23⟩,c35,[some c12,some c12,some c2,some c6,some [(.mq [])],some [(.mq [])],some c2,some c6,some c9,y,o,N,o,N,o,N,o,N,o,z,some c5,some c5,some c5,some c5]⟩,.sl 32 0 3 3 8,[some c12,some c12,some c2,some c6,some c11,some c14,some c2,some c6,some c9,y,o,N,o,N,o,N,o,N,o,z,some c5,some c5,some c5,some c5,some c5,N,some (is [0,0,0]),some (is [0,0,0]),some (is [0,0]),some (is [0,3]),some [B],y,some c25]),
 (⟨⟨0,[],23⟩,c34,[some c12,some c12,some c2,some c6,some c11,some c14,some c2,some c6,some c9,y,o,N,o,N,o,N,o,N,o,z,some c5,some c5,some c5,some c5]⟩,.sl 32 0 2 2 8,[some c12,some c12,some c2,some c6,some c17,some c31,some c2,some c6,some c9,y,o,N,o,N,o,N,o,N,o,z,some c5,some c5,some c5,some c5,some c5,N,some (is [0,0]),some (is [0,0]),some (is [3,3]),some (is [3,5]),some [B],y,some c32]),
 (⟨⟨0,[],23⟩,[.ptr 8 0,.agg c5,i 0,i 5],[some c12,some c12,some c2,some c6,some c11,some c14,some c2,some c6,some c9,y,o,N,o,N,o,N,o,N,o,z,some c5,some c5,some c5,some c5]⟩,.sl 32 0 5 5 8,[some c12,some c12,some c2,some c6,some c1,some c4,some c2,some c6,some c9,y,o,N,o,N,o,N,o,N,o,z,some c5,some c5,some c5,some c5,some c5,N,z,z,some (is [0,0]),some (is [0,5]),some [B],y,some c23])]
theorem r55x0:RW qz 55 t55 0:=by intro k r hk;cases hk;kernel_rfl
theorem r55x1:RW qz 55 t55 1:=by intro k r hk;cases hk;kernel_rfl
theorem r55x2:RW qz 55 t55 2:=by intro k r hk;cases hk;kernel_rfl
theorem r55x3:RW qz 55 t55 3:=by intro k r hk;cases hk;kernel_rfl
theorem r55x4:RW qz 55 t55 4:=by intro k r hk;cases hk;kernel_rfl
theorem r55x5:RW qz 55 t55 5:=by intro k r hk;cases hk;kernel_rfl
theorem r55x6:RW qz 55 t55 6:=by intro k r hk;cases hk;kernel_rfl
theorem r55x7:RW qz 55 t55 7:=by intro k r hk;cases hk;kernel_rfl
theorem ok55:bA prog md (bx qz) 10000 40 55 t55:=(aj (r55x0 _ _ rfl) (aj (r55x1 _ _ rfl) (aj (r55x2 _ _ rfl) (aj (r55x3 _ _ rfl) (aj (r55x4 _ _ rfl) (aj (r55x5 _ _ rfl) (aj (r55x6 _ _ rfl) (aj (r55x7 _ _ rfl) aM))))))))
def Dv:List (FuncId×Tbl):=(55,t55)::qz
theorem pk29:MO Dv:=aG pk28 (bf hfol hnam (aA _ pk28) ok55)
def t33:Tbl:=[(⟨⟨0,[],23⟩,[.ptr 8 0,.agg c5,i 0,i 3,i 0],[some c10,some c10,some c2,some c6,some c1,some c4,some c2,some c6,some c3,y,o,N,o,N,o,N,o,N,o,z,some c5,some c5,some c5]⟩,(.agg [i 0,i 3,i 0,i 0,i 0,i 100,i 80,i 20,i 100,.sl 33 0 3 3 8]),[some c10,some c10,some c2,some c6,some c1,some c4,some c2,some c6,some c3,y,o,N,o,N,o,N,o,N,o,z,some c5,some c5,some c5,some c5,some [i 0,i 3,i 0,i 0,i 0,i 100,i 80,i 20,i 100,.sl 33 0 3 3 8],some c5,N,some (is [0,0,0]),some (is [0,0,0]),some (is [0,0]),some (is [0,3]),some [B],y,some (is [97,0,0,1,0,50,0,100,98,0,1,2,50,50,0,100,32,0,2,3,100,0,0,100]),some [i 0,i 3,i 0,i 0,i 0,i 100,i 80,i 20,i 100,.sl 33 0 3 3 8],o,some c13,some c13,some c13]),
 (⟨⟨0,[],26⟩,[.ptr 8 0,.agg c5,i 3,i 5,i 100],[some c10,some c10,some c2,some c6,some c1,some c4,some c2,some c6,some c3,y,o,N,o,N,o,N,o,N,o,z,some c5,some c5,some c5,some c8,some c8,some c8]⟩,(.agg [i 3,i 5,i 0,i 0,i 100,i 100,i 80,i 20,i 100,.sl 36 0 2 2 8]),[some c10,some c10,some c2,some c6,some c1,some c4,some c2,some c6,some c3,y,o,N,o,N,o,N,o,N,o,z,some c5,some c5,some c5,some c8,some c8,some c8,some c5,some [i 3,i 5,i 0,i 0,i 100,i 100,i 80,i 20,i 100,.sl 36 0 2 2 8],some c5,N,some (is [0,0]),some (is [0,0]),some (is [3,3]),some (is [3,5]),some [B],y,some c32,some [i 3,i 5,i 0,i 0,i 100,i 100,i 80,i 20,i 100,.sl 36 0 2 2 8],o,some c13,some c13])]
theorem r33x0:RW Dv 33 t33 0:=by intro k r hk;cases hk;kernel_rfl
theorem r33x1:RW Dv 33 t33 1:=by intro k r hk;cases hk;kernel_rfl
theorem ok33:bA prog md (bx Dv) 10000 40 33 t33:=(aj (r33x0 _ _ rfl) (aj (r33x1 _ _ rfl) aM))
def tM:List (FuncId×Tbl):=(33,t33)::Dv
theorem pk30:MO tM:=aG pk29 (bf hfol hnam (aA _ pk29) ok33)
def t31:Tbl:=[(⟨⟨24,[4,5],24⟩,c35,[some c10,some c10,some c2,some c6,some [(.mq [])],some [(.mq [])],some c2,some c6,some c3,y,o,N,o,N,o,N,o,N,o,z,some c5,some c5,some c5,some c5]⟩,i 100,[some c10,some c10,some c2,some c6,some c11,some c14,some c2,some c6,some c3,y,o,N,o,N,o,N,o,N,o,z,some c5,some c5,some c5,some c5,some c5,some c5,N,some (is [0,0,0]),some (is [0,0,0]),some (is [0,0]),some (is [0,3]),some [B],y,some c25,some c22,some (is [98,0,1,2,50,50,0,100]),some (is [32,0,2,3,100,50,0,100])]),
 (⟨⟨24,[4,5],24⟩,[.ptr 8 0,.agg c5,i 0,i 5],[some c10,some c10,some c2,some c6,some c11,some c14,some c2,some c6,some c3,y,o,N,o,N,o,N,o,N,o,z,some c5,some c5,some c5,some c5]⟩,i 250,[some c10,some c10,some c2,some c6,some c1,some c4,some c2,some c6,some c3,y,o,N,o,N,o,N,o,N,o,z,some c5,some c5,some c5,some c5,some c5,some c5,N,z,z,some (is [0,0]),some (is [0,5]),some [B],y,some c23,some c22,some (is [98,0,1,2,50,50,0,100]),some (is [32,0,2,3,100,50,0,100]),some (is [99,0,3,4,150,50,0,100]),some (is [100,0,4,5,200,50,0,100])]),
 (⟨⟨27,[4,5],27⟩,c34,[some c10,some c10,some c2,some c6,some c1,some c4,some c2,some c6,some c3,y,o,N,o,N,o,N,o,N,o,z,some c5,some c5,some c5,some c8,some c8,some c8,some c5]⟩,i 100,[some c10,some c10,some c2,some c6,some c1,some c4,some c2,some c6,some c3,y,o,N,o,N,o,N,o,N,o,z,some c5,some c5,some c5,some c8,some c8,some c8,some c5,some c5,some c5,N,some (is [0,0]),some (is [0,0]),some (is [3,3]),some (is [3,5]),some [B],y,some c32,some c21,some (is [100,0,4,5,50,50,0,100])]),
 (⟨⟨0,[],23⟩,c35,[some c12,some c12,some c2,some c6,some [(.mq [])],some [(.mq [])],some c2,some c6,some c9,y,o,N,o,N,o,N,o,N,o,z,some c5,some c5,some c5]⟩,i 100,[some c12,some c12,some c2,some c6,some c11,some c14,some c2,some c6,some c9,y,o,N,o,N,o,N,o,N,o,z,some c5,some c5,some c5,some c5,some c5,N,some (is [0,0,0]),some (is [0,0,0]),some (is [0,0]),some (is [0,3]),some [B],y,some c25,some c22,some (is [98,0,1,2,50,50,0,100]),some (is [32,0,2,3,100,50,0,100])]),
 (⟨⟨0,[],23⟩,c34,[some c12,some c12,some c2,some c6,some c11,some c14,some c2,some c6,some c9,y,o,N,o,N,o,N,o,N,o,z,some c5,some c5,some c5]⟩,i 100,[some c12,some c12,some c2,some c6,some c17,some c31,some c2,some c6,some c9,y,o,N,o,N,o,N,o,N,o,z,some c5,some c5,some c5,some c5,some c5,N,some (is [0,0]),some (is [0,0]),some (is [3,3]),some (is [3,5]),some [B],y,some c32,some c21,some (is [100,0,4,5,50,50,0,100])]),
 (⟨⟨0,[],23⟩,[.ptr 8 0,.agg c5,i 0,i 5],[some c12,some c12,some c2,some c6,some c11,some c14,some c2,some c6,some c9,y,o,N,o,N,o,N,o,N,o,z,some c5,some c5,some c5]⟩,i 250,[some c12,some c12,some c2,some c6,some c1,some c4,some c2,some c6,some c9,y,o,N,o,N,o,N,o,N,o,z,some c5,some c5,some c5,some c5,some c5,N,z,z,some (is [0,0]),some (is [0,5]),some [B],y,some c23,some c22,some (is [98,0,1,2,50,50,0,100]),some (is [32,0,2,3,100,50,0,100]),some (is [99,0,3,4,150,50,0,100]),some (is [100,0,4,5,200,50,0,100])])]
theorem r31x0:RW tM 31 t31 0:=by intro k r hk;cases hk;kernel_rfl
theorem r31x1:RW tM 31 t31 1:=by intro k r hk;cases hk;kernel_rfl
theorem r31x2:RW tM 31 t31 2:=by intro k r hk;cases hk;kernel_rfl
theorem r31x3:RW tM 31 t31 3:=by intro k r hk;cases hk;kernel_rfl
theorem r31x4:RW tM 31 t31 4:=by intro k r hk;cases hk;kernel_rfl
theorem r31x5:RW tM 31 t31 5:=by intro k r hk;cases hk;kernel_rfl
theorem ok31:bA prog md (bx tM) 10000 40 31 t31:=(aj (r31x0 _ _ rfl) (aj (r31x1 _ _ rfl) (aj (r31x2 _ _ rfl) (aj (r31x3 _ _ rfl) (aj (r31x4 _ _ rfl) (aj (r31x5 _ _ rfl) aM))))))
def ps31:List (FuncId×Tbl):=(31,t31)::tM
theorem pk31:MO ps31:=aG pk30 (bf hfol hnam (aA _ pk30) ok31)
def t12:Tbl:=[(⟨⟨0,[],0⟩,[.agg c12,(.lst [c13])],[]⟩,i 100,[some c12,some c12,some c2,some c6,some c17,some c31,some c2,some c6,some c9,y,o,N,o,N,o,N,o,N,o,z,some c5,some c5,some c5])]
theorem r12x0:RW ps31 12 t12 0:=by intro k r hk;cases hk;kernel_rfl
theorem ok12:bA prog md (bx ps31) 10000 40 12 t12:=(aj (r12x0 _ _ rfl) aM)
def ps32:List (FuncId×Tbl):=(12,t12)::ps31
theorem pk32:MO ps32:=aG pk31 (bf hfol hnam (aA _ pk31) ok12)
def t19:Tbl:=[(⟨⟨0,[],0⟩,[.agg c12,(.lst [c13])],[]⟩,i 250,[some c12,some c12,some c2,some c6,some c1,some c4,some c2,some c6,some c9,y,o,N,o,N,o,N,o,N,o,z,some c5,some c5,some c5])]
theorem r19x0:RW ps32 19 t19 0:=by intro k r hk;cases hk;kernel_rfl
theorem ok19:bA prog md (bx ps32) 10000 40 19 t19:=(aj (r19x0 _ _ rfl) aM)
def Dw:List (FuncId×Tbl):=(19,t19)::ps32
theorem pk33:MO Dw:=aG pk32 (bf hfol hnam (aA _ pk32) ok19)
def t32:Tbl:=[(⟨⟨0,[],23⟩,[.ptr 8 0,.agg c5,i 0],[some c10,some c10,some c2,some c6,some [(.mq [])],some [(.mq [])],some c2,some c6,some c3,y,o,N,o,N,o,N,o,N,o,z,some c5,some c5,some c5]⟩,i 3,[some c10,some c10,some c2,some c6,some c1,some c4,some c2,some c6,some c3,y,o,N,o,N,o,N,o,N,o,z,some c5,some c5,some c5,some c5]),
 (⟨⟨0,[],26⟩,[.ptr 8 0,.agg c5,i 3],[some c10,some c10,some c2,some c6,some c1,some c4,some c2,some c6,some c3,y,o,N,o,N,o,N,o,N,o,z,some c5,some c5,some c5,some c8,some c8,some c8]⟩,i 5,[some c10,some c10,some c2,some c6,some c1,some c4,some c2,some c6,some c3,y,o,N,o,N,o,N,o,N,o,z,some c5,some c5,some c5,some c8,some c8,some c8,some c5])]
theorem r32x0:RW Dw 32 t32 0:=by intro k r hk;cases hk;kernel_rfl
theorem r32x1:RW Dw 32 t32 1:=by intro k r hk;cases hk;kernel_rfl
theorem ok32:bA prog md (bx Dw) 10000 40 32 t32:=(aj (r32x0 _ _ rfl) (aj (r32x1 _ _ rfl) aM))
def ps34:List (FuncId×Tbl):=(32,t32)::Dw
theorem pk34:MO ps34:=aG pk33 (bf hfol hnam (aA _ pk33) ok32)
def t13:Tbl:=[(⟨⟨0,[],0⟩,[.agg c10,(.lst [c13])],[]⟩,(.tup [.sl 28 0 2 2 10,i 0]),[some c10,some c10,some c2,some c6,some c1,some c4,some c2,some c6,some c3,y,o,N,o,N,o,N,o,N,o,z,some c5,some c5,some c5,some c8,some c8,N,some [i 3,i 5,i 0,i 0,i 100,i 100,i 80,i 20,i 100,(.lst [c21,is [100,0,4,5,50,50,0,100]])],some [i 3,i 5,i 0,i 0,i 100,i 100,i 80,i 20,i 100,(.lst [c21,is [100,0,4,5,50,50,0,100]])],some [i 0,i 3,i 0,i 0,i 0,i 100,i 80,i 20,i 100,(.lst [c22,is [98,0,1,2,50,50,0,100],is [32,0,2,3,100,0,0,100]]),i 3,i 5,i 0,i 0,i 100,i 100,i 80,i 20,i 100,(.lst [c21,is [100,0,4,5,50,50,0,100]])]])]
theorem r13x0:RW ps34 13 t13 0:=by intro k r hk;cases hk;kernel_rfl
theorem ok13:bA prog md (bx ps34) 10000 40 13 t13:=(aj (r13x0 _ _ rfl) aM)
def Dx:List (FuncId×Tbl):=(13,t13)::ps34
theorem pk35:MO Dx:=aG pk34 (bf hfol hnam (aA _ pk34) ok13)
def t17:Tbl:=[(⟨⟨0,[],0⟩,[],[]⟩,B,[])]
theorem r17x0:RW Dx 17 t17 0:=by intro k r hk;cases hk;kernel_rfl
theorem ok17:bA prog md (bx Dx) 10000 40 17 t17:=(aj (r17x0 _ _ rfl) aM)
def ps36:List (FuncId×Tbl):=(17,t17)::Dx
theorem pk36:MO ps36:=aG pk35 (bf hfol hnam (aA _ pk35) ok17)
end Bi
end Go.Ab
