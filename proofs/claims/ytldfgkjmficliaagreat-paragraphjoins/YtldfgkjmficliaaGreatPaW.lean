/- Closed calls, by tables: what awake comes to. Printed by wip/tools/Memo.lean. -/
import Derived.Test.YtldfgkjmficliaaGreatAbW7
import Derived.Test.YtldfgkjmficliaaGreatAbMemo
set_option linter.unusedSimpArgs false
set_option linter.unusedVariables false
namespace Go.Ab
open Go.Proofs Go.Proofs.Tryz
namespace Bi
theorem cG:prog.follows .mixedOrders=true:=by kernel_rfl
theorem cH:di prog:=by
 have h : (prog.funcs.toList.all fun fn => !(fn.name == "runtime.NumGoroutine")) = true := by kernel_rfl
 intro g fn hg
 have:=List.all_eq_true.1 h fn (List.mem_of_getElem? (by simpa using hg))
 simpa using this
abbrev i(n:Int):V:=.int .i64 n
abbrev r(n:Int):V:=.int .i32 n
abbrev is(l:List Int):List V:=l.map i
abbrev rs(l:List Int):List V:=l.map r
abbrev RW(l:List (FuncId×Tbl))(f:FuncId)(t:Tbl)(j:Nat):Prop:=∀ k r,t[j]?=some (k,r)→K (aZ l) 40 k.cfg f k.args k.h=some r
abbrev MO(l:List (FuncId×Tbl)):Prop:=∀ f t,(f,t)∈l→cj prog f (jd t)
abbrev o:Option (List V):=some [(i 0)]
abbrev z:Option (List V):=some (is [0,0,0,0,0])
abbrev y:Option (List V):=some (is [0,5,0,100])
abbrev u(n:Int):V:=.int .u8 n
abbrev B:V:=.bool true
abbrev N:Option (List V):=none
abbrev c1:List V:=[(.mq [[(.agg [i 0,i 100,r 97,r 0,B]),i 50],[(.agg [i 0,i 100,r 98,r 0,B]),i 50],[(.agg [i 0,i 100,r 32,r 0,B]),i 50],[(.agg [i 0,i 100,r 97,r 98,(.bool false)]),i 0],[(.agg [i 0,i 100,r 98,r 32,(.bool false)]),i 0],[(.agg [i 0,i 100,r 99,r 0,B]),i 50],[(.agg [i 0,i 100,r 100,r 0,B]),i 50],[(.agg [i 0,i 100,r 32,r 99,(.bool false)]),i 0],[(.agg [i 0,i 100,r 99,r 100,(.bool false)]),i 0]])]
abbrev c5:List V:=[i 0,i 5,i 0,il [0,0,0,0,0]]
abbrev c6:List V:=[B,B,B,B,B,B]
abbrev c11:List V:=[(.mq [[(.agg [i 0,i 100,r 97,r 0,B]),i 50],[(.agg [i 0,i 100,r 98,r 0,B]),i 50],[(.agg [i 0,i 100,r 32,r 0,B]),i 50],[(.agg [i 0,i 100,r 97,r 98,(.bool false)]),i 0],[(.agg [i 0,i 100,r 98,r 32,(.bool false)]),i 0]])]
abbrev c13:List V:=[i 100,i 80,i 20,i 0,i 50,(.lst []),(.lst []),(.lst [])]
abbrev c17:List V:=[(.mq [[(.agg [i 0,i 100,r 97,r 0,B]),i 50],[(.agg [i 0,i 100,r 98,r 0,B]),i 50],[(.agg [i 0,i 100,r 32,r 0,B]),i 50],[(.agg [i 0,i 100,r 97,r 98,(.bool false)]),i 0],[(.agg [i 0,i 100,r 98,r 32,(.bool false)]),i 0],[(.agg [i 0,i 100,r 99,r 0,B]),i 50],[(.agg [i 0,i 100,r 100,r 0,B]),i 50],[(.agg [i 0,i 100,r 99,r 100,(.bool false)]),i 0]])]
abbrev c18:List V:=[r 0,r 0,i 0,i 0,(.bool false)]
abbrev c4:List V:=[(.mq [[(.agg [i 0,i 0,r 97,r 98,(.bool false)]),.agg c18],[(.agg [i 0,i 0,r 98,r 32,(.bool false)]),.agg c18],[(.agg [i 0,i 0,r 32,r 99,(.bool false)]),.agg c18],[(.agg [i 0,i 0,r 99,r 100,(.bool false)]),.agg c18]])]
abbrev c14:List V:=[(.mq [[(.agg [i 0,i 0,r 97,r 98,(.bool false)]),.agg c18],[(.agg [i 0,i 0,r 98,r 32,(.bool false)]),.agg c18]])]
abbrev c19:List V:=[il [0,0,4,0,0],il [0,0,4,0,0],(.lst [[B],[B],[B],[B],[B],[B]])]
abbrev c20:List V:=[i 0,i 0,i 0,i 0,i 0,i 0,i 0,i 0,i 0,.nils]
abbrev c21:List V:=(is [99,0,3,4,0,50,0,100])
abbrev c22:List V:=(is [97,0,0,1,0,50,0,100])
abbrev c8:List V:=[i 0,i 3,i 0,i 0,i 0,i 100,i 80,i 20,i 100,(.lst [c22,is [98,0,1,2,50,50,0,100],is [32,0,2,3,100,0,0,100]])]
abbrev c23:List V:=(is [97,0,0,1,0,50,0,100,98,0,1,2,50,50,0,100,32,0,2,3,100,50,0,100,99,0,3,4,150,50,0,100,100,0,4,5,200,50,0,100])
abbrev c24:List V:=[il [0,1,2,3,4],i 0,i 0,i 0]
abbrev c25:List V:=(is [97,0,0,1,0,50,0,100,98,0,1,2,50,50,0,100,32,0,2,3,100,50,0,100])
abbrev c26:List V:=(is [100,0,4,5,0,50,0,100])
abbrev c27:List V:=(is [98,0,1,2,0,50,0,100])
abbrev c28:List V:=(is [32,0,2,3,0,50,0,100])
abbrev c29:List V:=[r 97,r 122,u 0,u 3,u 0,u 0,u 0]
abbrev c7:V:=(.lst [[r 0,r 8,u 3,u 0,u 7,u 9,u 0],[r 9,r 9,u 3,u 0,u 10,u 11,u 0],[r 10,r 10,u 2,u 1,u 3,u 10,u 0],[r 11,r 11,u 3,u 1,u 1,u 11,u 0],[r 12,r 12,u 3,u 1,u 1,u 12,u 0],[r 13,r 13,u 1,u 1,u 2,u 10,u 0],[r 14,r 31,u 3,u 0,u 7,u 9,u 0],[r 32,r 32,u 0,u 2,u 4,u 12,u 0],[r 33,r 33,u 0,u 0,u 15,u 13,u 0],[r 34,r 34,u 0,u 0,u 14,u 13,u 0],[r 35,r 37,u 0,u 0,u 0,u 5,u 0],[r 38,r 38,u 0,u 0,u 0,u 13,u 0],[r 39,r 39,u 0,u 7,u 14,u 13,u 0],[r 40,r 40,u 0,u 0,u 12,u 13,u 0],[r 41,r 41,u 0,u 0,u 13,u 13,u 0],[r 42,r 42,u 0,u 0,u 0,u 13,u 0],[r 43,r 43,u 0,u 0,u 0,u 4,u 0],[r 44,r 44,u 0,u 6,u 16,u 7,u 0],[r 45,r 45,u 0,u 0,u 11,u 4,u 0],[r 46,r 46,u 0,u 7,u 16,u 7,u 0],[r 47,r 47,u 0,u 0,u 10,u 7,u 0],[r 48,r 57,u 0,u 4,u 17,u 3,u 0],[r 58,r 58,u 0,u 5,u 16,u 7,u 0],[r 59,r 59,u 0,u 6,u 16,u 13,u 0],[r 60,r 62,u 0,u 0,u 0,u 13,u 0],[r 63,r 63,u 0,u 0,u 15,u 13,u 0],[r 64,r 64,u 0,u 0,u 0,u 13,u 0],[r 65,r 90,u 0,u 3,u 0,u 0,u 0],[r 91,r 91,u 0,u 0,u 12,u 13,u 0],[r 92,r 92,u 0,u 0,u 0,u 13,u 0],[r 93,r 93,u 0,u 0,u 13,u 13,u 0],[r 94,r 94,u 0,u 0,u 0,u 13,u 0],[r 95,r 95,u 0,u 8,u 0,u 13,u 0],[r 96,r 96,u 0,u 0,u 0,u 13,u 0],c29,[r 123,r 123,u 0,u 0,u 12,u 13,u 0],[r 124,r 124,u 0,u 0,u 10,u 13,u 0],[r 125,r 125,u 0,u 0,u 13,u 13,u 0],[r 126,r 126,u 0,u 0,u 0,u 13,u 0],[r 127,r 132,u 3,u 0,u 7,u 9,u 0],[r 133,r 133,u 3,u 1,u 1,u 10,u 0],[r 134,r 159,u 3,u 0,u 7,u 9,u 0],[r 160,r 160,u 0,u 0,u 9,u 7,u 0],[r 161,r 161,u 0,u 0,u 12,u 13,u 0]])
abbrev c30:V:=(rl [97,98,32,99,100])
abbrev c2:List V:=[c30,il [0,0,0,0,0],.sl 3 0 6 6 1,.mref 4,.mref 5]
abbrev c3:List V:=[c30,(.lst [is [0,5,0,100]]),i 0,i 0,i 120,(.lst [c13]),il [0,0,1,0,2],il [0,1,2,3,4,5],.sl 7 0 6 6 1,.sl 19 0 5 5 1,c30,il [0,0,0,0,0],.sl 3 0 6 6 1,.mref 4,.mref 5,.sl 21 0 1 1 4]
abbrev c9:List V:=[c30,(.lst [is [0,5,0,100]]),i 0,i 0,i 0,(.lst [c13]),il [0,0,1,0,2],il [0,1,2,3,4,5],.sl 7 0 6 6 1,.sl 19 0 5 5 1,c30,il [0,0,0,0,0],.sl 3 0 6 6 1,.mref 4,.mref 5,.sl 21 0 1 1 4]
abbrev c10:List V:=[c30,(.lst [is [0,5,0,100]]),i 0,i 0,i 120]
abbrev c12:List V:=[c30,(.lst [is [0,5,0,100]]),i 0,i 0,i 0]
abbrev c15:List V:=[c30,il [0,0,12,0,0],.sl 1 0 5 5 1,il [-1,-1,-1,-1,-1],.sl 2 0 5 5 1,i 0]
abbrev c16:Heap:=[N,z,z,some c15,some c24]
abbrev c31:List V:=[(.mq [[(.agg [i 0,i 0,r 97,r 98,(.bool false)]),.agg c18],[(.agg [i 0,i 0,r 98,r 32,(.bool false)]),.agg c18],[(.agg [i 0,i 0,r 99,r 100,(.bool false)]),.agg c18]])]
abbrev c32:List V:=(is [99,0,3,4,0,50,0,100,100,0,4,5,50,50,0,100])
abbrev c33:List V:=[i 0,(i (-1)),(.bool false)]
abbrev c34:List V:=[.ptr 8 0,.agg c5,i 3,i 5]
abbrev c35:List V:=[.ptr 8 0,.agg c5,i 0,i 3]
def t89:Tbl:=[(⟨⟨0,[],0⟩,[.agg c19,i 1],[]⟩,i 0,[some c19,some (is [1,3,2]),some (is [1,2,3,4,5]),some (is [13,15,16]),some (is [17,11,16]),some (is [0,16])]),
 (⟨⟨0,[],0⟩,[.agg c19,i 2],[]⟩,i 0,[some c19,some (is [1,3,2]),some (is [1,2,3,4,5])]),
 (⟨⟨0,[],0⟩,[.agg c19,i 3],[]⟩,i 1,[some c19,some (is [1,3,2]),some (is [1,2,3,4,5]),some (is [13,15,16])]),
 (⟨⟨0,[],0⟩,[.agg c19,i 4],[]⟩,i 0,[some c19,some (is [1,3,2]),some (is [1,2,3,4,5]),some (is [13,15,16]),some (is [17,11,16]),some (is [0,16])])]
theorem r89x0:RW [] 89 t89 0:=by intro k r hk;cases hk;kernel_rfl
theorem r89x1:RW [] 89 t89 1:=by intro k r hk;cases hk;kernel_rfl
theorem r89x2:RW [] 89 t89 2:=by intro k r hk;cases hk;kernel_rfl
theorem r89x3:RW [] 89 t89 3:=by intro k r hk;cases hk;kernel_rfl
theorem ok89:bc prog md (aZ []) 10000 40 89 t89:=(ah (r89x0 _ _ rfl) (ah (r89x1 _ _ rfl) (ah (r89x2 _ _ rfl) (ah (r89x3 _ _ rfl) aJ))))
def ps1:List (FuncId×Tbl):=(89,t89)::[]
theorem pk1:MO ps1:=aD (by simp) (aU cG cH (aB _ (by simp)) ok89)
def t91:Tbl:=[(⟨⟨2,[],2⟩,[.sl 0 0 5 5 1,i 1],[z,o]⟩,B,[z,o]),
 (⟨⟨4,[],4⟩,[.sl 0 0 5 5 1,i 2],[z,N,some [i 1],some (is [0,1])]⟩,B,[z,N,some [i 1],some (is [0,1])]),
 (⟨⟨6,[],6⟩,[.sl 0 0 5 5 1,i 3],[z,N,some [i 1],N,some [i 2],some (is [0,1,2])]⟩,B,[z,N,some [i 1],N,some [i 2],some (is [0,1,2])]),
 (⟨⟨8,[],8⟩,[.sl 0 0 5 5 1,i 4],[z,N,some [i 1],N,some [i 2],N,some [i 3],some (is [0,1,2,3])]⟩,B,[z,N,some [i 1],N,some [i 2],N,some [i 3],some (is [0,1,2,3])])]
theorem r91x0:RW ps1 91 t91 0:=by intro k r hk;cases hk;kernel_rfl
theorem r91x1:RW ps1 91 t91 1:=by intro k r hk;cases hk;kernel_rfl
theorem r91x2:RW ps1 91 t91 2:=by intro k r hk;cases hk;kernel_rfl
theorem r91x3:RW ps1 91 t91 3:=by intro k r hk;cases hk;kernel_rfl
theorem ok91:bc prog md (aZ ps1) 10000 40 91 t91:=(ah (r91x0 _ _ rfl) (ah (r91x1 _ _ rfl) (ah (r91x2 _ _ rfl) (ah (r91x3 _ _ rfl) aJ))))
def ps2:List (FuncId×Tbl):=(91,t91)::ps1
theorem pk2:MO ps2:=aD pk1 (aU cG cH (aB _ pk1) ok91)
def t94:Tbl:=[(⟨⟨0,[],0⟩,[il [0,0,0]],[]⟩,.sl 0 0 3 3 1,[some (is [0,1,2])]),
 (⟨⟨0,[],0⟩,[il [0,0,0,0,0]],[]⟩,.sl 0 0 5 5 1,[some (is [0,1,2,3,4])]),
 (⟨⟨0,[],0⟩,[il [0,0]],[]⟩,.sl 0 0 2 2 1,[some (is [0,1])])]
theorem r94x0:RW ps2 94 t94 0:=by intro k r hk;cases hk;kernel_rfl
theorem r94x1:RW ps2 94 t94 1:=by intro k r hk;cases hk;kernel_rfl
theorem r94x2:RW ps2 94 t94 2:=by intro k r hk;cases hk;kernel_rfl
theorem ok94:bc prog md (aZ ps2) 10000 40 94 t94:=(ah (r94x0 _ _ rfl) (ah (r94x1 _ _ rfl) (ah (r94x2 _ _ rfl) aJ)))
def ps3:List (FuncId×Tbl):=(94,t94)::ps2
theorem pk3:MO ps3:=aD pk2 (aU cG cH (aB _ pk2) ok94)
def t104:Tbl:=[(⟨⟨0,[],0⟩,[il [0,0,12,0,0]],[]⟩,.sl 0 0 5 5 1,[some (is [-1,-1,-1,-1,-1])])]
theorem Iv:RW ps3 104 t104 0:=by intro k r hk;cases hk;kernel_rfl
theorem ok104:bc prog md (aZ ps3) 10000 40 104 t104:=(ah (Iv _ _ rfl) aJ)
def ps4:List (FuncId×Tbl):=(104,t104)::ps3
theorem pk4:MO ps4:=aD pk3 (aU cG cH (aB _ pk3) ok104)
def t105:Tbl:=[(⟨⟨0,[],4⟩,[.ptr 3 0],[N,some (is [0,0,12,0,0]),z,some c15]⟩,(.tup []),[N,some (is [0,0,12,0,0]),z,some c15,some [.ptr 3 0],some c33,some [.sl 5 0 1 1 3],o,some c33,some [i 1],some c33,some [i 2],some c33,some [i 3],some c33,some [i 4],some c33])]
theorem Iw:RW ps4 105 t105 0:=by intro k r hk;cases hk;kernel_rfl
theorem ok105:bc prog md (aZ ps4) 10000 40 105 t105:=(ah (Iw _ _ rfl) aJ)
def ps5:List (FuncId×Tbl):=(105,t105)::ps4
theorem pk5:MO ps5:=aD pk4 (aU cG cH (aB _ pk4) ok105)
def t107:Tbl:=[(⟨⟨0,[],5⟩,[.ptr 3 0,.agg c24],[N,some (is [0,0,12,0,0]),z,some c15,some c24]⟩,(.tup []),[N,some (is [0,0,12,0,0]),z,some c15,some c24,some [.ptr 3 0],some c24])]
theorem Ix:RW ps5 107 t107 0:=by intro k r hk;cases hk;kernel_rfl
theorem ok107:bc prog md (aZ ps5) 10000 40 107 t107:=(ah (Ix _ _ rfl) aJ)
def ps6:List (FuncId×Tbl):=(107,t107)::ps5
theorem pk6:MO ps6:=aD pk5 (aU cG cH (aB _ pk5) ok107)
def t109:Tbl:=[(⟨⟨0,[],5⟩,[.ptr 3 0,.agg c24],[N,some (is [0,0,12,0,0]),z,some c15,some c24]⟩,(.tup []),[N,z,z,some c15,some c24,some c24])]
theorem Iy:RW ps6 109 t109 0:=by intro k r hk;cases hk;kernel_rfl
theorem ok109:bc prog md (aZ ps6) 10000 40 109 t109:=(ah (Iy _ _ rfl) aJ)
def ps7:List (FuncId×Tbl):=(109,t109)::ps6
theorem pk7:MO ps7:=aD pk6 (aU cG cH (aB _ pk6) ok109)
def t110:Tbl:=[(⟨⟨0,[],5⟩,[.ptr 3 0,.agg c24],c16⟩,(.tup []),[N,z,z,some c15,some c24,some c24])]
theorem Iz:RW ps7 110 t110 0:=by intro k r hk;cases hk;kernel_rfl
theorem ok110:bc prog md (aZ ps7) 10000 40 110 t110:=(ah (Iz _ _ rfl) aJ)
def ps8:List (FuncId×Tbl):=(110,t110)::ps7
theorem pk8:MO ps8:=aD pk7 (aU cG cH (aB _ pk7) ok110)
def t111:Tbl:=[(⟨⟨4,[],4⟩,[.ptr 3 0,i 0],[N,some (is [0,0,12,0,0]),z,some c15]⟩,(.bool false),[N,some (is [0,0,12,0,0]),z,some c15]),
 (⟨⟨6,[],6⟩,[.ptr 3 0,i 1],[N,some (is [0,0,12,0,0]),z,some c15,o,o]⟩,(.bool false),[N,some (is [0,0,12,0,0]),z,some c15,o,o]),
 (⟨⟨8,[],8⟩,[.ptr 3 0,i 2],[N,some (is [0,0,12,0,0]),z,some c15,o,N,some [i 1],some (is [0,1])]⟩,(.bool false),[N,some (is [0,0,12,0,0]),z,some c15,o,N,some [i 1],some (is [0,1])]),
 (⟨⟨10,[],10⟩,[.ptr 3 0,i 3],[N,some (is [0,0,12,0,0]),z,some c15,o,N,some [i 1],N,some [i 2],some (is [0,1,2])]⟩,(.bool false),[N,some (is [0,0,12,0,0]),z,some c15,o,N,some [i 1],N,some [i 2],some (is [0,1,2])]),
 (⟨⟨12,[],12⟩,[.ptr 3 0,i 4],[N,some (is [0,0,12,0,0]),z,some c15,o,N,some [i 1],N,some [i 2],N,some [i 3],some (is [0,1,2,3])]⟩,(.bool false),[N,some (is [0,0,12,0,0]),z,some c15,o,N,some [i 1],N,some [i 2],N,some [i 3],some (is [0,1,2,3])]),
 (⟨⟨5,[],5⟩,[.ptr 3 0,i 0],c16⟩,(.bool false),c16),
 (⟨⟨5,[],5⟩,[.ptr 3 0,i 1],c16⟩,(.bool false),c16),
 (⟨⟨5,[],5⟩,[.ptr 3 0,i 2],c16⟩,(.bool false),c16),
 (⟨⟨5,[],5⟩,[.ptr 3 0,i 3],c16⟩,(.bool false),c16),
 (⟨⟨5,[],5⟩,[.ptr 3 0,i 4],c16⟩,(.bool false),c16)]
theorem IA:RW ps8 111 t111 0:=by intro k r hk;cases hk;kernel_rfl
theorem IB:RW ps8 111 t111 1:=by intro k r hk;cases hk;kernel_rfl
theorem IC:RW ps8 111 t111 2:=by intro k r hk;cases hk;kernel_rfl
theorem ID:RW ps8 111 t111 3:=by intro k r hk;cases hk;kernel_rfl
theorem IE:RW ps8 111 t111 4:=by intro k r hk;cases hk;kernel_rfl
theorem IG:RW ps8 111 t111 5:=by intro k r hk;cases hk;kernel_rfl
theorem IH:RW ps8 111 t111 6:=by intro k r hk;cases hk;kernel_rfl
theorem II:RW ps8 111 t111 7:=by intro k r hk;cases hk;kernel_rfl
theorem IJ:RW ps8 111 t111 8:=by intro k r hk;cases hk;kernel_rfl
theorem IK:RW ps8 111 t111 9:=by intro k r hk;cases hk;kernel_rfl
theorem ok111:bc prog md (aZ ps8) 10000 40 111 t111:=(ah (IA _ _ rfl) (ah (IB _ _ rfl) (ah (IC _ _ rfl) (ah (ID _ _ rfl) (ah (IE _ _ rfl) (ah (IG _ _ rfl) (ah (IH _ _ rfl) (ah (II _ _ rfl) (ah (IJ _ _ rfl) (ah (IK _ _ rfl) aJ))))))))))
def ps9:List (FuncId×Tbl):=(111,t111)::ps8
theorem pk9:MO ps9:=aD pk8 (aU cG cH (aB _ pk8) ok111)
def t148:Tbl:=[(⟨⟨6,[],6⟩,[.ptr 3 0,.agg c24],[N,some (is [0,0,12,0,0]),z,some c15,some c24,some c24]⟩,.nils,[N,some (is [0,0,12,0,0]),z,some c15,some c24,some c24,some c24])]
theorem IL:RW ps9 148 t148 0:=by intro k r hk;cases hk;kernel_rfl
theorem ok148:bc prog md (aZ ps9) 10000 40 148 t148:=(ah (IL _ _ rfl) aJ)
def vq:List (FuncId×Tbl):=(148,t148)::ps9
theorem pk10:MO vq:=aD pk9 (aU cG cH (aB _ pk9) ok148)
def t155:Tbl:=[(⟨⟨0,[],0⟩,[c7,r 97],[]⟩,.agg c29,[some c29]),
 (⟨⟨0,[],0⟩,[c7,r 98],[]⟩,.agg c29,[some c29]),
 (⟨⟨0,[],0⟩,[c7,r 32],[]⟩,(.agg [r 32,r 32,u 0,u 2,u 4,u 12,u 0]),[some [r 32,r 32,u 0,u 2,u 4,u 12,u 0]]),
 (⟨⟨0,[],0⟩,[c7,r 99],[]⟩,.agg c29,[some c29]),
 (⟨⟨0,[],0⟩,[c7,r 100],[]⟩,.agg c29,[some c29])]
theorem IM:RW vq 155 t155 0:=by intro k r hk;cases hk;kernel_rfl
theorem IP:RW vq 155 t155 1:=by intro k r hk;cases hk;kernel_rfl
theorem IQ:RW vq 155 t155 2:=by intro k r hk;cases hk;kernel_rfl
theorem IT:RW vq 155 t155 3:=by intro k r hk;cases hk;kernel_rfl
theorem IU:RW vq 155 t155 4:=by intro k r hk;cases hk;kernel_rfl
theorem ok155:bc prog md (aZ vq) 10000 40 155 t155:=(ah (IM _ _ rfl) (ah (IP _ _ rfl) (ah (IQ _ _ rfl) (ah (IT _ _ rfl) (ah (IU _ _ rfl) aJ)))))
def ps11:List (FuncId×Tbl):=(155,t155)::vq
theorem pk11:MO ps11:=aD pk10 (aU cG cH (aB _ pk10) ok155)
def t51:Tbl:=[(⟨⟨0,[],0⟩,[c30],[]⟩,.sl 11 0 6 6 1,[z,N,some [i 1],N,some [i 2],N,some [i 3],N,some [i 4],N,some [i 5],some (is [0,1,2,3,4,5])])]
theorem r51x0:RW ps11 51 t51 0:=by intro k r hk;cases hk;kernel_rfl
theorem ok51:bc prog md (aZ ps11) 10000 40 51 t51:=(ah (r51x0 _ _ rfl) aJ)
def ps12:List (FuncId×Tbl):=(51,t51)::ps11
theorem pk12:MO ps12:=aD pk11 (aU cG cH (aB _ pk11) ok51)
def t88:Tbl:=[(⟨⟨0,[],0⟩,[c30],[]⟩,(.agg [.sl 1 0 5 5 1,.sl 2 0 5 5 1,.sl 3 0 6 6 1]),[some [.sl 1 0 5 5 1,.sl 2 0 5 5 1,.sl 3 0 6 6 1],some (is [0,0,4,0,0]),some (is [0,0,4,0,0]),some c6,some [.sl 1 0 5 5 1,.sl 2 0 5 5 1,.sl 3 0 6 6 1]])]
theorem r88x0:RW ps12 88 t88 0:=by intro k r hk;cases hk;kernel_rfl
theorem ok88:bc prog md (aZ ps12) 10000 40 88 t88:=(ah (r88x0 _ _ rfl) aJ)
def ps13:List (FuncId×Tbl):=(88,t88)::ps12
theorem pk13:MO ps13:=aD pk12 (aU cG cH (aB _ pk12) ok88)
def t50:Tbl:=[(⟨⟨0,[],0⟩,[c30],[]⟩,.sl 1 0 5 5 1,[some c19,some (is [0,0,1,0,2])])]
theorem r50x0:RW ps13 50 t50 0:=by intro k r hk;cases hk;kernel_rfl
theorem ok50:bc prog md (aZ ps13) 10000 40 50 t50:=(ah (r50x0 _ _ rfl) aJ)
def ps14:List (FuncId×Tbl):=(50,t50)::ps13
theorem pk14:MO ps14:=aD pk13 (aU cG cH (aB _ pk13) ok50)
def t92:Tbl:=[(⟨⟨0,[],0⟩,[c30],[]⟩,.sl 0 0 5 5 1,[z])]
theorem r92x0:RW ps14 92 t92 0:=by intro k r hk;cases hk;kernel_rfl
theorem ok92:bc prog md (aZ ps14) 10000 40 92 t92:=(ah (r92x0 _ _ rfl) aJ)
def CY:List (FuncId×Tbl):=(92,t92)::ps14
theorem pk15:MO CY:=aD pk14 (aU cG cH (aB _ pk14) ok92)
def t52:Tbl:=[(⟨⟨2,[],2⟩,[c30],[some c10,some c10]⟩,.agg c2,[some c10,some c10,some c2,some c6,some [(.mq [])],some [(.mq [])],some c2]),
 (⟨⟨2,[],2⟩,[c30],[some c12,some c12]⟩,.agg c2,[some c12,some c12,some c2,some c6,some [(.mq [])],some [(.mq [])],some c2])]
theorem r52x0:RW CY 52 t52 0:=by intro k r hk;cases hk;kernel_rfl
theorem r52x1:RW CY 52 t52 1:=by intro k r hk;cases hk;kernel_rfl
theorem ok52:bc prog md (aZ CY) 10000 40 52 t52:=(ah (r52x0 _ _ rfl) (ah (r52x1 _ _ rfl) aJ))
def qb:List (FuncId×Tbl):=(52,t52)::CY
theorem pk16:MO qb:=aD pk15 (aU cG cH (aB _ pk15) ok52)
def t67:Tbl:=[(⟨⟨24,[4,5],24⟩,[c30,il [0,0,0,0,0],i 0,i 0,i 3],[some c10,some c10,some c2,some c6,some [(.mq [])],some [(.mq [])],some c2,some c6,some c3,y,o,N,o,N,o,N,o,N,o,z,some c5,some c5,some c5,some c5,some c5,some c5]⟩,.sl 27 0 3 3 1,[some c10,some c10,some c2,some c6,some [(.mq [])],some [(.mq [])],some c2,some c6,some c3,y,o,N,o,N,o,N,o,N,o,z,some c5,some c5,some c5,some c5,some c5,some c5,N,some (is [0,0,0])]),
 (⟨⟨24,[4,5],24⟩,[c30,il [0,0,0,0,0],i 0,i 0,i 5],[some c10,some c10,some c2,some c6,some c11,some c14,some c2,some c6,some c3,y,o,N,o,N,o,N,o,N,o,z,some c5,some c5,some c5,some c5,some c5,some c5]⟩,.sl 27 0 5 5 1,[some c10,some c10,some c2,some c6,some c11,some c14,some c2,some c6,some c3,y,o,N,o,N,o,N,o,N,o,z,some c5,some c5,some c5,some c5,some c5,some c5,N,z]),
 (⟨⟨25,[4,5],25⟩,[c30,il [0,0,0,0,0],i 0,i 0,i 3],[some c10,some c10,some c2,some c6,some c1,some c4,some c2,some c6,some c3,y,o,N,o,N,o,N,o,N,o,z,some c5,some c5,some c5,some c5,some c20,some c5]⟩,.sl 27 0 3 3 1,[some c10,some c10,some c2,some c6,some c1,some c4,some c2,some c6,some c3,y,o,N,o,N,o,N,o,N,o,z,some c5,some c5,some c5,some c5,some c20,some c5,N,some (is [0,0,0])]),
 (⟨⟨27,[4,5],27⟩,[c30,il [0,0,0,0,0],i 0,i 3,i 5],[some c10,some c10,some c2,some c6,some c1,some c4,some c2,some c6,some c3,y,o,N,o,N,o,N,o,N,o,z,some c5,some c5,some c5,some c8,some c8,some c8,some c5,some c5,some c5]⟩,.sl 30 0 2 2 1,[some c10,some c10,some c2,some c6,some c1,some c4,some c2,some c6,some c3,y,o,N,o,N,o,N,o,N,o,z,some c5,some c5,some c5,some c8,some c8,some c8,some c5,some c5,some c5,N,some (is [0,0])]),
 (⟨⟨28,[4,5],28⟩,[c30,il [0,0,0,0,0],i 0,i 3,i 5],[some c10,some c10,some c2,some c6,some c1,some c4,some c2,some c6,some c3,y,o,N,o,N,o,N,o,N,o,z,some c5,some c5,some c5,some c8,some c8,some c8,some c5,some c20,some c5]⟩,.sl 30 0 2 2 1,[some c10,some c10,some c2,some c6,some c1,some c4,some c2,some c6,some c3,y,o,N,o,N,o,N,o,N,o,z,some c5,some c5,some c5,some c8,some c8,some c8,some c5,some c20,some c5,N,some (is [0,0])]),
 (⟨⟨0,[],23⟩,[c30,il [0,0,0,0,0],i 0,i 0,i 3],[some c12,some c12,some c2,some c6,some [(.mq [])],some [(.mq [])],some c2,some c6,some c9,y,o,N,o,N,o,N,o,N,o,z,some c5,some c5,some c5,some c5,some c5]⟩,.sl 26 0 3 3 1,[some c12,some c12,some c2,some c6,some [(.mq [])],some [(.mq [])],some c2,some c6,some c9,y,o,N,o,N,o,N,o,N,o,z,some c5,some c5,some c5,some c5,some c5,N,some (is [0,0,0])]),
 (⟨⟨0,[],23⟩,[c30,il [0,0,0,0,0],i 0,i 3,i 5],[some c12,some c12,some c2,some c6,some c11,some c14,some c2,some c6,some c9,y,o,N,o,N,o,N,o,N,o,z,some c5,some c5,some c5,some c5,some c5]⟩,.sl 26 0 2 2 1,[some c12,some c12,some c2,some c6,some c11,some c14,some c2,some c6,some c9,y,o,N,o,N,o,N,o,N,o,z,some c5,some c5,some c5,some c5,some c5,N,some (is [0,0])]),
 (⟨⟨0,[],23⟩,[c30,il [0,0,0,0,0],i 0,i 0,i 5],[some c12,some c12,some c2,some c6,some c11,some c14,some c2,some c6,some c9,y,o,N,o,N,o,N,o,N,o,z,some c5,some c5,some c5,some c5,some c5]⟩,.sl 26 0 5 5 1,[some c12,some c12,some c2,some c6,some c11,some c14,some c2,some c6,some c9,y,o,N,o,N,o,N,o,N,o,z,some c5,some c5,some c5,some c5,some c5,N,z])]
theorem r67x0:RW qb 67 t67 0:=by intro k r hk;cases hk;kernel_rfl
theorem r67x1:RW qb 67 t67 1:=by intro k r hk;cases hk;kernel_rfl
theorem r67x2:RW qb 67 t67 2:=by intro k r hk;cases hk;kernel_rfl
theorem r67x3:RW qb 67 t67 3:=by intro k r hk;cases hk;kernel_rfl
theorem r67x4:RW qb 67 t67 4:=by intro k r hk;cases hk;kernel_rfl
theorem r67x5:RW qb 67 t67 5:=by intro k r hk;cases hk;kernel_rfl
theorem r67x6:RW qb 67 t67 6:=by intro k r hk;cases hk;kernel_rfl
theorem r67x7:RW qb 67 t67 7:=by intro k r hk;cases hk;kernel_rfl
theorem ok67:bc prog md (aZ qb) 10000 40 67 t67:=(ah (r67x0 _ _ rfl) (ah (r67x1 _ _ rfl) (ah (r67x2 _ _ rfl) (ah (r67x3 _ _ rfl) (ah (r67x4 _ _ rfl) (ah (r67x5 _ _ rfl) (ah (r67x6 _ _ rfl) (ah (r67x7 _ _ rfl) aJ))))))))
def ps17:List (FuncId×Tbl):=(67,t67)::qb
theorem pk17:MO ps17:=aD pk16 (aU cG cH (aB _ pk16) ok67)
def t103:Tbl:=[(⟨⟨0,[],0⟩,[c30],[]⟩,.sl 0 0 5 5 1,[some (is [0,0,12,0,0])])]
theorem Iu:RW ps17 103 t103 0:=by intro k r hk;cases hk;kernel_rfl
theorem ok103:bc prog md (aZ ps17) 10000 40 103 t103:=(ah (Iu _ _ rfl) aJ)
def ps18:List (FuncId×Tbl):=(103,t103)::ps17
theorem pk18:MO ps18:=aD pk17 (aU cG cH (aB _ pk17) ok103)
def t68:Tbl:=[(⟨⟨0,[],0⟩,[c30,i 0],[]⟩,.sl 2 0 5 5 1,c16)]
theorem r68x0:RW ps18 68 t68 0:=by intro k r hk;cases hk;kernel_rfl
theorem ok68:bc prog md (aZ ps18) 10000 40 68 t68:=(ah (r68x0 _ _ rfl) aJ)
def CZ:List (FuncId×Tbl):=(68,t68)::ps18
theorem pk19:MO CZ:=aD pk18 (aU cG cH (aB _ pk18) ok68)
def t53:Tbl:=[(⟨⟨20,[],20⟩,[.ptr 8 0,i 0,i 5],[some c10,some c10,some c2,some c6,some [(.mq [])],some [(.mq [])],some c2,some c6,some [c30,(.lst [is [0,5,0,100]]),i 0,i 0,i 120,(.lst [c13]),il [0,0,1,0,2],il [0,1,2,3,4,5],.sl 7 0 6 6 1,.sl 19 0 5 5 1,c30,il [0,0,0,0,0],.sl 3 0 6 6 1,.mref 4,.mref 5,.nils],y,o,N,o,N,o,N,o,N,o,z]⟩,.agg c5,[some c10,some c10,some c2,some c6,some [(.mq [])],some [(.mq [])],some c2,some c6,some [c30,(.lst [is [0,5,0,100]]),i 0,i 0,i 120,(.lst [c13]),il [0,0,1,0,2],il [0,1,2,3,4,5],.sl 7 0 6 6 1,.sl 19 0 5 5 1,c30,il [0,0,0,0,0],.sl 3 0 6 6 1,.mref 4,.mref 5,.nils],y,o,N,o,N,o,N,o,N,o,z,some c5]),
 (⟨⟨20,[],20⟩,[.ptr 8 0,i 0,i 5],[some c12,some c12,some c2,some c6,some [(.mq [])],some [(.mq [])],some c2,some c6,some [c30,(.lst [is [0,5,0,100]]),i 0,i 0,i 0,(.lst [c13]),il [0,0,1,0,2],il [0,1,2,3,4,5],.sl 7 0 6 6 1,.sl 19 0 5 5 1,c30,il [0,0,0,0,0],.sl 3 0 6 6 1,.mref 4,.mref 5,.nils],y,o,N,o,N,o,N,o,N,o,z]⟩,.agg c5,[some c12,some c12,some c2,some c6,some [(.mq [])],some [(.mq [])],some c2,some c6,some [c30,(.lst [is [0,5,0,100]]),i 0,i 0,i 0,(.lst [c13]),il [0,0,1,0,2],il [0,1,2,3,4,5],.sl 7 0 6 6 1,.sl 19 0 5 5 1,c30,il [0,0,0,0,0],.sl 3 0 6 6 1,.mref 4,.mref 5,.nils],y,o,N,o,N,o,N,o,N,o,z,some c5])]
theorem r53x0:RW CZ 53 t53 0:=by intro k r hk;cases hk;kernel_rfl
theorem r53x1:RW CZ 53 t53 1:=by intro k r hk;cases hk;kernel_rfl
theorem ok53:bc prog md (aZ CZ) 10000 40 53 t53:=(ah (r53x0 _ _ rfl) (ah (r53x1 _ _ rfl) aJ))
def C0:List (FuncId×Tbl):=(53,t53)::CZ
theorem pk20:MO C0:=aD pk19 (aU cG cH (aB _ pk19) ok53)
def t25:Tbl:=[(⟨⟨0,[],0⟩,[.agg c10,(.lst [c13])],[some c10]⟩,.ptr 8 0,[some c10,some c10,some c2,some c6,some [(.mq [])],some [(.mq [])],some c2,some c6,some c3,y,o,N,o,N,o,N,o,N,o,z,some c5,some c5]),
 (⟨⟨0,[],0⟩,[.agg c12,(.lst [c13])],[some c12]⟩,.ptr 8 0,[some c12,some c12,some c2,some c6,some [(.mq [])],some [(.mq [])],some c2,some c6,some c9,y,o,N,o,N,o,N,o,N,o,z,some c5,some c5])]
theorem r25x0:RW C0 25 t25 0:=by intro k r hk;cases hk;kernel_rfl
theorem r25x1:RW C0 25 t25 1:=by intro k r hk;cases hk;kernel_rfl
theorem ok25:bc prog md (aZ C0) 10000 40 25 t25:=(ah (r25x0 _ _ rfl) (ah (r25x1 _ _ rfl) aJ))
def ps21:List (FuncId×Tbl):=(25,t25)::C0
theorem pk21:MO ps21:=aD pk20 (aU cG cH (aB _ pk20) ok25)
def t48:Tbl:=[(⟨⟨0,[],0⟩,[.agg c13],[]⟩,i 0,[some c13])]
theorem r48x0:RW ps21 48 t48 0:=by intro k r hk;cases hk;kernel_rfl
theorem ok48:bc prog md (aZ ps21) 10000 40 48 t48:=(ah (r48x0 _ _ rfl) aJ)
def C1:List (FuncId×Tbl):=(48,t48)::ps21
theorem pk22:MO C1:=aD pk21 (aU cG cH (aB _ pk21) ok48)
def t24:Tbl:=[(⟨⟨0,[],0⟩,[.agg c10,(.lst [c13])],[]⟩,i 0,[some c10,y,some c13]),
 (⟨⟨0,[],0⟩,[.agg c12,(.lst [c13])],[]⟩,i 0,[some c12,y,some c13])]
theorem r24x0:RW C1 24 t24 0:=by intro k r hk;cases hk;kernel_rfl
theorem r24x1:RW C1 24 t24 1:=by intro k r hk;cases hk;kernel_rfl
theorem ok24:bc prog md (aZ C1) 10000 40 24 t24:=(ah (r24x0 _ _ rfl) (ah (r24x1 _ _ rfl) aJ))
def vt:List (FuncId×Tbl):=(24,t24)::C1
theorem pk23:MO vt:=aD pk22 (aU cG cH (aB _ pk22) ok24)
def t159:Tbl:=[(⟨⟨0,[],0⟩,[.agg c13,i 100,r 97],[]⟩,i 50,[some c13]),
 (⟨⟨0,[],0⟩,[.agg c13,i 100,r 98],[]⟩,i 50,[some c13]),
 (⟨⟨0,[],0⟩,[.agg c13,i 100,r 32],[]⟩,i 50,[some c13]),
 (⟨⟨0,[],0⟩,[.agg c13,i 100,r 99],[]⟩,i 50,[some c13]),
 (⟨⟨0,[],0⟩,[.agg c13,i 100,r 100],[]⟩,i 50,[some c13])]
theorem IV:RW vt 159 t159 0:=by intro k r hk;cases hk;kernel_rfl
theorem IW:RW vt 159 t159 1:=by intro k r hk;cases hk;kernel_rfl
theorem IX:RW vt 159 t159 2:=by intro k r hk;cases hk;kernel_rfl
theorem IY:RW vt 159 t159 3:=by intro k r hk;cases hk;kernel_rfl
theorem IZ:RW vt 159 t159 4:=by intro k r hk;cases hk;kernel_rfl
theorem ok159:bc prog md (aZ vt) 10000 40 159 t159:=(ah (IV _ _ rfl) (ah (IW _ _ rfl) (ah (IX _ _ rfl) (ah (IY _ _ rfl) (ah (IZ _ _ rfl) aJ)))))
def ps24:List (FuncId×Tbl):=(159,t159)::vt
theorem pk24:MO ps24:=aD pk23 (aU cG cH (aB _ pk23) ok159)
def t60:Tbl:=[(⟨⟨0,[],0⟩,[.agg c13,i 100],[]⟩,i 20,[some c13])]
theorem r60x0:RW ps24 60 t60 0:=by intro k r hk;cases hk;kernel_rfl
theorem ok60:bc prog md (aZ ps24) 10000 40 60 t60:=(ah (r60x0 _ _ rfl) aJ)
def ps25:List (FuncId×Tbl):=(60,t60)::ps24
theorem pk25:MO ps25:=aD pk24 (aU cG cH (aB _ pk24) ok60)
def t59:Tbl:=[(⟨⟨0,[],0⟩,[.agg c13,i 100],[]⟩,i 80,[some c13])]
theorem r59x0:RW ps25 59 t59 0:=by intro k r hk;cases hk;kernel_rfl
theorem ok59:bc prog md (aZ ps25) 10000 40 59 t59:=(ah (r59x0 _ _ rfl) aJ)
def ps26:List (FuncId×Tbl):=(59,t59)::ps25
theorem pk26:MO ps26:=aD pk25 (aU cG cH (aB _ pk25) ok59)
def t61:Tbl:=[(⟨⟨0,[],0⟩,[.agg c13,i 100],[]⟩,i 100,[some c13])]
theorem r61x0:RW ps26 61 t61 0:=by intro k r hk;cases hk;kernel_rfl
theorem ok61:bc prog md (aZ ps26) 10000 40 61 t61:=(ah (r61x0 _ _ rfl) aJ)
def qc:List (FuncId×Tbl):=(61,t61)::ps26
theorem pk27:MO qc:=aD pk26 (aU cG cH (aB _ pk26) ok61)
def t95:Tbl:=[(⟨⟨24,[4,5],33⟩,[.agg c2,.agg c13,i 0,i 100,i 0,i 3,(.bool false)],[some c10,some c10,some c2,some c6,some [(.mq [])],some [(.mq [])],some c2,some c6,some c3,y,o,N,o,N,o,N,o,N,o,z,some c5,some c5,some c5,some c5,some c5,some c5,N,some (is [0,0,0]),some (is [0,0,0]),some (is [0,0]),some (is [0,3]),some [B],y]⟩,.sl 56 0 3 3 8,[some c10,some c10,some c2,some c6,some c11,some c14,some c2,some c6,some c3,y,o,N,o,N,o,N,o,N,o,z,some c5,some c5,some c5,some c5,some c5,some c5,N,some (is [0,0,0]),some (is [0,0,0]),some (is [0,0]),some (is [0,3]),some [B],y,some c2,some c13,some c22,some c22,N,some c27,some c27,N,some c28,some c28,some (is [97,0,0,1,0,50,0,100,98,0,1,2,0,50,0,100,32,0,2,3,0,50,0,100]),some c2,some c13,some c22,some c18,some c22,N,some c27,some c18,some c27,N,some c28,some c28,some c25,some c2,some c13]),
 (⟨⟨24,[4,5],33⟩,[.agg c2,.agg c13,i 0,i 100,i 0,i 5,(.bool false)],[some c10,some c10,some c2,some c6,some c11,some c14,some c2,some c6,some c3,y,o,N,o,N,o,N,o,N,o,z,some c5,some c5,some c5,some c5,some c5,some c5,N,z,z,some (is [0,0]),some (is [0,5]),some [B],y]⟩,.sl 70 0 5 5 8,[some c10,some c10,some c2,some c6,some c1,some c4,some c2,some c6,some c3,y,o,N,o,N,o,N,o,N,o,z,some c5,some c5,some c5,some c5,some c5,some c5,N,z,z,some (is [0,0]),some (is [0,5]),some [B],y,some c2,some c13,some c22,some c22,N,some c27,some c27,N,some c28,some c28,N,some c21,some c21,N,some c26,some c26,some (is [97,0,0,1,0,50,0,100,98,0,1,2,0,50,0,100,32,0,2,3,0,50,0,100,99,0,3,4,0,50,0,100,100,0,4,5,0,50,0,100]),some c2,some c13,some c22,some c18,some c22,N,some c27,some c18,some c27,N,some c28,some c18,some c28,N,some c21,some c18,some c21,N,some c26,some c26,some c23,some c2,some c13]),
 (⟨⟨25,[4,5],33⟩,[.agg c2,.agg c13,i 0,i 100,i 0,i 3,(.bool false)],[some c10,some c10,some c2,some c6,some c1,some c4,some c2,some c6,some c3,y,o,N,o,N,o,N,o,N,o,z,some c5,some c5,some c5,some c5,some c20,some c5,N,some (is [0,0,0]),some (is [0,0,0]),some (is [0,0]),some (is [0,3]),some [B],y]⟩,.sl 56 0 3 3 8,[some c10,some c10,some c2,some c6,some c1,some c4,some c2,some c6,some c3,y,o,N,o,N,o,N,o,N,o,z,some c5,some c5,some c5,some c5,some c20,some c5,N,some (is [0,0,0]),some (is [0,0,0]),some (is [0,0]),some (is [0,3]),some [B],y,some c2,some c13,some c22,some c22,N,some c27,some c27,N,some c28,some c28,some (is [97,0,0,1,0,50,0,100,98,0,1,2,0,50,0,100,32,0,2,3,0,50,0,100]),some c2,some c13,some c22,some c18,some c22,N,some c27,some c18,some c27,N,some c28,some c28,some c25,some c2,some c13]),
 (⟨⟨27,[4,5],36⟩,[.agg c2,.agg c13,i 0,i 100,i 3,i 5,(.bool false)],[some c10,some c10,some c2,some c6,some c1,some c4,some c2,some c6,some c3,y,o,N,o,N,o,N,o,N,o,z,some c5,some c5,some c5,some c8,some c8,some c8,some c5,some c5,some c5,N,some (is [0,0]),some (is [0,0]),some (is [3,3]),some (is [3,5]),some [B],y]⟩,.sl 52 0 2 2 8,[some c10,some c10,some c2,some c6,some c1,some c4,some c2,some c6,some c3,y,o,N,o,N,o,N,o,N,o,z,some c5,some c5,some c5,some c8,some c8,some c8,some c5,some c5,some c5,N,some (is [0,0]),some (is [0,0]),some (is [3,3]),some (is [3,5]),some [B],y,some c2,some c13,some c21,some c21,N,some c26,some c26,some (is [99,0,3,4,0,50,0,100,100,0,4,5,0,50,0,100]),some c2,some c13,some c21,some c18,some c21,N,some c26,some c26,some c32,some c2,some c13]),
 (⟨⟨28,[4,5],36⟩,[.agg c2,.agg c13,i 0,i 100,i 3,i 5,(.bool false)],[some c10,some c10,some c2,some c6,some c1,some c4,some c2,some c6,some c3,y,o,N,o,N,o,N,o,N,o,z,some c5,some c5,some c5,some c8,some c8,some c8,some c5,some c20,some c5,N,some (is [0,0]),some (is [0,0]),some (is [3,3]),some (is [3,5]),some [B],y]⟩,.sl 52 0 2 2 8,[some c10,some c10,some c2,some c6,some c1,some c4,some c2,some c6,some c3,y,o,N,o,N,o,N,o,N,o,z,some c5,some c5,some c5,some c8,some c8,some c8,some c5,some c20,some c5,N,some (is [0,0]),some (is [0,0]),some (is [3,3]),some (is [3,5]),some [B],y,some c2,some c13,some c21,some c21,N,some c26,some c26,some (is [99,0,3,4,0,50,0,100,100,0,4,5,0,50,0,100]),some c2,some c13,some c21,some c18,some c21,N,some c26,some c26,some c32,some c2,some c13]),
 (⟨⟨0,[],32⟩,[.agg c2,.agg c13,i 0,i 100,i 0,i 3,(.bool false)],[some c12,some c12,some c2,some c6,some [(.mq [])],some [(.mq [])],some c2,some c6,some c9,y,o,N,o,N,o,N,o,N,o,z,some c5,some c5,some c5,some c5,some c5,N,some (is [0,0,0]),some (is [0,0,0]),some (is [0,0]),some (is [0,3]),some [B],y]⟩,.sl 55 0 3 3 8,[some c12,some c12,some c2,some c6,some c11,some c14,some c2,some c6,some c9,y,o,N,o,N,o,N,o,N,o,z,some c5,some c5,some c5,some c5,some c5,N,some (is [0,0,0]),some (is [0,0,0]),some (is [0,0]),some (is [0,3]),some [B],y,some c2,some c13,some c22,some c22,N,some c27,some c27,N,some c28,some c28,some (is [97,0,0,1,0,50,0,100,98,0,1,2,0,50,0,100,32,0,2,3,0,50,0,100]),some c2,some c13,some c22,some c18,some c22,N,some c27,some c18,some c27,N,some c28,some c28,some c25,some c2,some c13]),
 (⟨⟨0,[],32⟩,[.agg c2,.agg c13,i 0,i 100,i 3,i 5,(.bool false)],[some c12,some c12,some c2,some c6,some c11,some c14,some c2,some c6,some c9,y,o,N,o,N,o,N,o,N,o,z,some c5,some c5,some c5,some c5,some c5,N,some (is [0,0]),some (is [0,0]),some (is [3,3]),some (is [3,5]),some [B],y]⟩,.sl 48 0 2 2 8,[some c12,some c12,some c2,some c6,some c17,some c31,some c2,some c6,some c9,y,o,N,o,N,o,N,o,N,o,z,some c5,some c5,some c5,some c5,some c5,N,some (is [0,0]),some (is [0,0]),some (is [3,3]),some (is [3,5]),some [B],y,some c2,some c13,some c21,some c21,N,some c26,some c26,some (is [99,0,3,4,0,50,0,100,100,0,4,5,0,50,0,100]),some c2,some c13,some c21,some c18,some c21,N,some c26,some c26,some c32,some c2,some c13]),
 (⟨⟨0,[],32⟩,[.agg c2,.agg c13,i 0,i 100,i 0,i 5,(.bool false)],[some c12,some c12,some c2,some c6,some c11,some c14,some c2,some c6,some c9,y,o,N,o,N,o,N,o,N,o,z,some c5,some c5,some c5,some c5,some c5,N,z,z,some (is [0,0]),some (is [0,5]),some [B],y]⟩,.sl 69 0 5 5 8,[some c12,some c12,some c2,some c6,some c1,some c4,some c2,some c6,some c9,y,o,N,o,N,o,N,o,N,o,z,some c5,some c5,some c5,some c5,some c5,N,z,z,some (is [0,0]),some (is [0,5]),some [B],y,some c2,some c13,some c22,some c22,N,some c27,some c27,N,some c28,some c28,N,some c21,some c21,N,some c26,some c26,some (is [97,0,0,1,0,50,0,100,98,0,1,2,0,50,0,100,32,0,2,3,0,50,0,100,99,0,3,4,0,50,0,100,100,0,4,5,0,50,0,100]),some c2,some c13,some c22,some c18,some c22,N,some c27,some c18,some c27,N,some c28,some c18,some c28,N,some c21,some c18,some c21,N,some c26,some c26,some c23,some c2,some c13])]
theorem r95x0:RW qc 95 t95 0:=by intro k r hk;cases hk;kernel_rfl
theorem r95x1:RW qc 95 t95 1:=by intro k r hk;cases hk;kernel_rfl
theorem r95x2:RW qc 95 t95 2:=by intro k r hk;cases hk;kernel_rfl
theorem r95x3:RW qc 95 t95 3:=by intro k r hk;cases hk;kernel_rfl
theorem r95x4:RW qc 95 t95 4:=by intro k r hk;cases hk;kernel_rfl
theorem r95x5:RW qc 95 t95 5:=by intro k r hk;cases hk;kernel_rfl
theorem r95x6:RW qc 95 t95 6:=by intro k r hk;cases hk;kernel_rfl
theorem r95x7:RW qc 95 t95 7:=by intro k r hk;cases hk;kernel_rfl
theorem ok95:bc prog md (aZ qc) 10000 40 95 t95:=(ah (r95x0 _ _ rfl) (ah (r95x1 _ _ rfl) (ah (r95x2 _ _ rfl) (ah (r95x3 _ _ rfl) (ah (r95x4 _ _ rfl) (ah (r95x5 _ _ rfl) (ah (r95x6 _ _ rfl) (ah (r95x7 _ _ rfl) aJ))))))))
def qd:List (FuncId×Tbl):=(95,t95)::qc
theorem pk28:MO qd:=aD pk27 (aU cG cH (aB _ pk27) ok95)
def t57:Tbl:=[(⟨⟨24,[4,5],24⟩,c35,[some c10,some c10,some c2,some c6,some [(.mq [])],some [(.mq [])],some c2,some c6,some c3,y,o,N,o,N,o,N,o,N,o,z,some c5,some c5,some c5,some c5,some c5]⟩,.sl 33 0 3 3 8,[some c10,some c10,some c2,some c6,some c11,some c14,some c2,some c6,some c3,y,o,N,o,N,o,N,o,N,o,z,some c5,some c5,some c5,some c5,some c5,some c5,N,some (is [0,0,0]),some (is [0,0,0]),some (is [0,0]),some (is [0,3]),some [B],y,some c25]),
 (⟨⟨24,[4,5],24⟩,[.ptr 8 0,.agg c5,i 0,i 5],[some c10,some c10,some c2,some c6,some c11,some c14,some c2,some c6,some c3,y,o,N,o,N,o,N,o,N,o,z,some c5,some c5,some c5,some c5,some c5]⟩,.sl 33 0 5 5 8,[some c10,some c10,some c2,some c6,some c1,some c4,some c2,some c6,some c3,y,o,N,o,N,o,N,o,N,o,z,some c5,some c5,some c5,some c5,some c5,some c5,N,z,z,some (is [0,0]),some (is [0,5]),some [B],y,some c23]),
 (⟨⟨25,[4,5],25⟩,c35,[some c10,some c10,some c2,some c6,some c1,some c4,some c2,some c6,some c3,y,o,N,o,N,o,N,o,N,o,z,some c5,some c5,some c5,some c5,some c20]⟩,.sl 33 0 3 3 8,[some c10,some c10,some c2,some c6,some c1,some c4,some c2,some c6,some c3,y,o,N,o,N,o,N,o,N,o,z,some c5,some c5,some c5,some c5,some c20,some c5,N,some (is [0,0,0]),some (is [0,0,0]),some (is [0,0]),some (is [0,3]),some [B],y,some c25]),
 (⟨⟨27,[4,5],27⟩,c34,[some c10,some c10,some c2,some c6,some c1,some c4,some c2,some c6,some c3,y,o,N,o,N,o,N,o,N,o,z,some c5,some c5,some c5,some c8,some c8,some c8,some c5,some c5]⟩,.sl 36 0 2 2 8,[some c10,some c10,some c2,some c6,some c1,some c4,some c2,some c6,some c3,y,o,N,o,N,o,N,o,N,o,z,some c5,some c5,some c5,some c8,some c8,some c8,some c5,some c5,some c5,N,some (is [0,0]),some (is [0,0]),some (is [3,3]),some (is [3,5]),some [B],y,some c32]),
 (⟨⟨28,[4,5],28⟩,c34,[some c10,some c10,some c2,some c6,some c1,some c4,some c2,some c6,some c3,y,o,N,o,N,o,N,o,N,o,z,some c5,some c5,some c5,some c8,some c8,some c8,some c5,some c20]⟩,.sl 36 0 2 2 8,[some c10,some c10,some c2,some c6,some c1,some c4,some c2,some c6,some c3,y,o,N,o,N,o,N,o,N,o,z,some c5,some c5,some c5,some c8,some c8,some c8,some c5,some c20,some c5,N,some (is [0,0]),some (is [0,0]),some (is [3,3]),some (is [3,5]),some [B],y,some c32]),
 (⟨⟨0,[],23⟩,c35,[some c12,some c12,some c2,some c6,some [(.mq [])],some [(.mq [])],some c2,some c6,some c9,y,o,N,o,N,o,N,o,N,o,z,some c5,some c5,some c5,some c5]⟩,.sl 32 0 3 3 8,[some c12,some c12,some c2,some c6,some c11,some c14,some c2,some c6,some c9,y,o,N,o,N,o,N,o,N,o,z,some c5,some c5,some c5,some c5,some c5,N,some (is [0,0,0]),some (is [0,0,0]),some (is [0,0]),some (is [0,3]),some [B],y,some c25]),
 (⟨⟨0,[],23⟩,c34,[some c12,some c12,some c2,some c6,some c11,some c14,some c2,some c6,some c9,y,o,N,o,N,o,N,o,N,o,z,some c5,some c5,some c5,some c5]⟩,.sl 32 0 2 2 8,[some c12,some c12,some c2,some c6,some c17,some c31,some c2,some c6,some c9,y,o,N,o,N,o,N,o,N,o,z,some c5,some c5,some c5,some c5,some c5,N,some (is [0,0]),some (is [0,0]),some (is [3,3]),some (is [3,5]),some [B],y,some c32]),
 (⟨⟨0,[],23⟩,[.ptr 8 0,.agg c5,i 0,i 5],[some c12,some c12,some c2,some c6,some c11,some c14,some c2,some c6,some c9,y,o,N,o,N,o,N,o,N,o,z,some c5,some c5,some c5,some c5]⟩,.sl 32 0 5 5 8,[some c12,some c12,some c2,some c6,some c1,some c4,some c2,some c6,some c9,y,o,N,o,N,o,N,o,N,o,z,some c5,some c5,some c5,some c5,some c5,N,z,z,some (is [0,0]),some (is [0,5]),some [B],y,some c23])]
theorem r57x0:RW qd 57 t57 0:=by intro k r hk;cases hk;kernel_rfl
theorem r57x1:RW qd 57 t57 1:=by intro k r hk;cases hk;kernel_rfl
theorem r57x2:RW qd 57 t57 2:=by intro k r hk;cases hk;kernel_rfl
theorem r57x3:RW qd 57 t57 3:=by intro k r hk;cases hk;kernel_rfl
theorem r57x4:RW qd 57 t57 4:=by intro k r hk;cases hk;kernel_rfl
theorem r57x5:RW qd 57 t57 5:=by intro k r hk;cases hk;kernel_rfl
theorem r57x6:RW qd 57 t57 6:=by intro k r hk;cases hk;kernel_rfl
theorem r57x7:RW qd 57 t57 7:=by intro k r hk;cases hk;kernel_rfl
theorem ok57:bc prog md (aZ qd) 10000 40 57 t57:=(ah (r57x0 _ _ rfl) (ah (r57x1 _ _ rfl) (ah (r57x2 _ _ rfl) (ah (r57x3 _ _ rfl) (ah (r57x4 _ _ rfl) (ah (r57x5 _ _ rfl) (ah (r57x6 _ _ rfl) (ah (r57x7 _ _ rfl) aJ))))))))
def C2:List (FuncId×Tbl):=(57,t57)::qd
theorem pk29:MO C2:=aD pk28 (aU cG cH (aB _ pk28) ok57)
def t27:Tbl:=[(⟨⟨0,[],23⟩,[.ptr 8 0,.agg c5,i 0,i 3,i 0],[some c10,some c10,some c2,some c6,some c1,some c4,some c2,some c6,some c3,y,o,N,o,N,o,N,o,N,o,z,some c5,some c5,some c5]⟩,(.agg [i 0,i 3,i 0,i 0,i 0,i 100,i 80,i 20,i 100,.sl 33 0 3 3 8]),[some c10,some c10,some c2,some c6,some c1,some c4,some c2,some c6,some c3,y,o,N,o,N,o,N,o,N,o,z,some c5,some c5,some c5,some c5,some [i 0,i 3,i 0,i 0,i 0,i 100,i 80,i 20,i 100,.sl 33 0 3 3 8],some c5,N,some (is [0,0,0]),some (is [0,0,0]),some (is [0,0]),some (is [0,3]),some [B],y,some (is [97,0,0,1,0,50,0,100,98,0,1,2,50,50,0,100,32,0,2,3,100,0,0,100]),some [i 0,i 3,i 0,i 0,i 0,i 100,i 80,i 20,i 100,.sl 33 0 3 3 8],o,some c13,some c13,some c13]),
 (⟨⟨0,[],26⟩,[.ptr 8 0,.agg c5,i 3,i 5,i 100],[some c10,some c10,some c2,some c6,some c1,some c4,some c2,some c6,some c3,y,o,N,o,N,o,N,o,N,o,z,some c5,some c5,some c5,some c8,some c8,some c8]⟩,(.agg [i 3,i 5,i 0,i 0,i 100,i 100,i 80,i 20,i 100,.sl 36 0 2 2 8]),[some c10,some c10,some c2,some c6,some c1,some c4,some c2,some c6,some c3,y,o,N,o,N,o,N,o,N,o,z,some c5,some c5,some c5,some c8,some c8,some c8,some c5,some [i 3,i 5,i 0,i 0,i 100,i 100,i 80,i 20,i 100,.sl 36 0 2 2 8],some c5,N,some (is [0,0]),some (is [0,0]),some (is [3,3]),some (is [3,5]),some [B],y,some c32,some [i 3,i 5,i 0,i 0,i 100,i 100,i 80,i 20,i 100,.sl 36 0 2 2 8],o,some c13,some c13])]
theorem r27x0:RW C2 27 t27 0:=by intro k r hk;cases hk;kernel_rfl
theorem r27x1:RW C2 27 t27 1:=by intro k r hk;cases hk;kernel_rfl
theorem ok27:bc prog md (aZ C2) 10000 40 27 t27:=(ah (r27x0 _ _ rfl) (ah (r27x1 _ _ rfl) aJ))
def sY:List (FuncId×Tbl):=(27,t27)::C2
theorem pk30:MO sY:=aD pk29 (aU cG cH (aB _ pk29) ok27)
def t55:Tbl:=[(⟨⟨24,[4,5],24⟩,c35,[some c10,some c10,some c2,some c6,some [(.mq [])],some [(.mq [])],some c2,some c6,some c3,y,o,N,o,N,o,N,o,N,o,z,some c5,some c5,some c5,some c5]⟩,i 100,[some c10,some c10,some c2,some c6,some c11,some c14,some c2,some c6,some c3,y,o,N,o,N,o,N,o,N,o,z,some c5,some c5,some c5,some c5,some c5,some c5,N,some (is [0,0,0]),some (is [0,0,0]),some (is [0,0]),some (is [0,3]),some [B],y,some c25,some c22,some (is [98,0,1,2,50,50,0,100]),some (is [32,0,2,3,100,50,0,100])]),
 (⟨⟨24,[4,5],24⟩,[.ptr 8 0,.agg c5,i 0,i 5],[some c10,some c10,some c2,some c6,some c11,some c14,some c2,some c6,some c3,y,o,N,o,N,o,N,o,N,o,z,some c5,some c5,some c5,some c5]⟩,i 250,[some c10,some c10,some c2,some c6,some c1,some c4,some c2,some c6,some c3,y,o,N,o,N,o,N,o,N,o,z,some c5,some c5,some c5,some c5,some c5,some c5,N,z,z,some (is [0,0]),some (is [0,5]),some [B],y,some c23,some c22,some (is [98,0,1,2,50,50,0,100]),some (is [32,0,2,3,100,50,0,100]),some (is [99,0,3,4,150,50,0,100]),some (is [100,0,4,5,200,50,0,100])]),
 (⟨⟨27,[4,5],27⟩,c34,[some c10,some c10,some c2,some c6,some c1,some c4,some c2,some c6,some c3,y,o,N,o,N,o,N,o,N,o,z,some c5,some c5,some c5,some c8,some c8,some c8,some c5]⟩,i 100,[some c10,some c10,some c2,some c6,some c1,some c4,some c2,some c6,some c3,y,o,N,o,N,o,N,o,N,o,z,some c5,some c5,some c5,some c8,some c8,some c8,some c5,some c5,some c5,N,some (is [0,0]),some (is [0,0]),some (is [3,3]),some (is [3,5]),some [B],y,some c32,some c21,some (is [100,0,4,5,50,50,0,100])]),
 (⟨⟨0,[],23⟩,c35,[some c12,some c12,some c2,some c6,some [(.mq [])],some [(.mq [])],some c2,some c6,some c9,y,o,N,o,N,o,N,o,N,o,z,some c5,some c5,some c5]⟩,i 100,[some c12,some c12,some c2,some c6,some c11,some c14,some c2,some c6,some c9,y,o,N,o,N,o,N,o,N,o,z,some c5,some c5,some c5,some c5,some c5,N,some (is [0,0,0]),some (is [0,0,0]),some (is [0,0]),some (is [0,3]),some [B],y,some c25,some c22,some (is [98,0,1,2,50,50,0,100]),some (is [32,0,2,3,100,50,0,100])]),
 (⟨⟨0,[],23⟩,c34,[some c12,some c12,some c2,some c6,some c11,some c14,some c2,some c6,some c9,y,o,N,o,N,o,N,o,N,o,z,some c5,some c5,some c5]⟩,i 100,[some c12,some c12,some c2,some c6,some c17,some c31,some c2,some c6,some c9,y,o,N,o,N,o,N,o,N,o,z,some c5,some c5,some c5,some c5,some c5,N,some (is [0,0]),some (is [0,0]),some (is [3,3]),some (is [3,5]),some [B],y,some c32,some c21,some (is [100,0,4,5,50,50,0,100])]),
 (⟨⟨0,[],23⟩,[.ptr 8 0,.agg c5,i 0,i 5],[some c12,some c12,some c2,some c6,some c11,some c14,some c2,some c6,some c9,y,o,N,o,N,o,N,o,N,o,z,some c5,some c5,some c5]⟩,i 250,[some c12,some c12,some c2,some c6,some c1,some c4,some c2,some c6,some c9,y,o,N,o,N,o,N,o,N,o,z,some c5,some c5,some c5,some c5,some c5,N,z,z,some (is [0,0]),some (is [0,5]),some [B],y,some c23,some c22,some (is [98,0,1,2,50,50,0,100]),some (is [32,0,2,3,100,50,0,100]),some (is [99,0,3,4,150,50,0,100]),some (is [100,0,4,5,200,50,0,100])])]
theorem r55x0:RW sY 55 t55 0:=by intro k r hk;cases hk;kernel_rfl
theorem r55x1:RW sY 55 t55 1:=by intro k r hk;cases hk;kernel_rfl
theorem r55x2:RW sY 55 t55 2:=by intro k r hk;cases hk;kernel_rfl
theorem r55x3:RW sY 55 t55 3:=by intro k r hk;cases hk;kernel_rfl
theorem r55x4:RW sY 55 t55 4:=by intro k r hk;cases hk;kernel_rfl
theorem r55x5:RW sY 55 t55 5:=by intro k r hk;cases hk;kernel_rfl
theorem ok55:bc prog md (aZ sY) 10000 40 55 t55:=(ah (r55x0 _ _ rfl) (ah (r55x1 _ _ rfl) (ah (r55x2 _ _ rfl) (ah (r55x3 _ _ rfl) (ah (r55x4 _ _ rfl) (ah (r55x5 _ _ rfl) aJ))))))
def ps31:List (FuncId×Tbl):=(55,t55)::sY
theorem pk31:MO ps31:=aD pk30 (aU cG cH (aB _ pk30) ok55)
def t31:Tbl:=[(⟨⟨0,[],0⟩,[.agg c12,(.lst [c13])],[]⟩,i 100,[some c12,some c12,some c2,some c6,some c17,some c31,some c2,some c6,some c9,y,o,N,o,N,o,N,o,N,o,z,some c5,some c5,some c5])]
theorem r31x0:RW ps31 31 t31 0:=by intro k r hk;cases hk;kernel_rfl
theorem ok31:bc prog md (aZ ps31) 10000 40 31 t31:=(ah (r31x0 _ _ rfl) aJ)
def ps32:List (FuncId×Tbl):=(31,t31)::ps31
theorem pk32:MO ps32:=aD pk31 (aU cG cH (aB _ pk31) ok31)
def t32:Tbl:=[(⟨⟨0,[],0⟩,[.agg c12,(.lst [c13])],[]⟩,i 250,[some c12,some c12,some c2,some c6,some c1,some c4,some c2,some c6,some c9,y,o,N,o,N,o,N,o,N,o,z,some c5,some c5,some c5])]
theorem r32x0:RW ps32 32 t32 0:=by intro k r hk;cases hk;kernel_rfl
theorem ok32:bc prog md (aZ ps32) 10000 40 32 t32:=(ah (r32x0 _ _ rfl) aJ)
def C3:List (FuncId×Tbl):=(32,t32)::ps32
theorem pk33:MO C3:=aD pk32 (aU cG cH (aB _ pk32) ok32)
def t26:Tbl:=[(⟨⟨0,[],23⟩,[.ptr 8 0,.agg c5,i 0],[some c10,some c10,some c2,some c6,some [(.mq [])],some [(.mq [])],some c2,some c6,some c3,y,o,N,o,N,o,N,o,N,o,z,some c5,some c5,some c5]⟩,i 3,[some c10,some c10,some c2,some c6,some c1,some c4,some c2,some c6,some c3,y,o,N,o,N,o,N,o,N,o,z,some c5,some c5,some c5,some c5]),
 (⟨⟨0,[],26⟩,[.ptr 8 0,.agg c5,i 3],[some c10,some c10,some c2,some c6,some c1,some c4,some c2,some c6,some c3,y,o,N,o,N,o,N,o,N,o,z,some c5,some c5,some c5,some c8,some c8,some c8]⟩,i 5,[some c10,some c10,some c2,some c6,some c1,some c4,some c2,some c6,some c3,y,o,N,o,N,o,N,o,N,o,z,some c5,some c5,some c5,some c8,some c8,some c8,some c5])]
theorem r26x0:RW C3 26 t26 0:=by intro k r hk;cases hk;kernel_rfl
theorem r26x1:RW C3 26 t26 1:=by intro k r hk;cases hk;kernel_rfl
theorem ok26:bc prog md (aZ C3) 10000 40 26 t26:=(ah (r26x0 _ _ rfl) (ah (r26x1 _ _ rfl) aJ))
def ps34:List (FuncId×Tbl):=(26,t26)::C3
theorem pk34:MO ps34:=aD pk33 (aU cG cH (aB _ pk33) ok26)
def t7:Tbl:=[(⟨⟨0,[],0⟩,[.agg c10,(.lst [c13])],[]⟩,(.tup [.sl 28 0 2 2 10,i 0]),[some c10,some c10,some c2,some c6,some c1,some c4,some c2,some c6,some c3,y,o,N,o,N,o,N,o,N,o,z,some c5,some c5,some c5,some c8,some c8,N,some [i 3,i 5,i 0,i 0,i 100,i 100,i 80,i 20,i 100,(.lst [c21,is [100,0,4,5,50,50,0,100]])],some [i 3,i 5,i 0,i 0,i 100,i 100,i 80,i 20,i 100,(.lst [c21,is [100,0,4,5,50,50,0,100]])],some [i 0,i 3,i 0,i 0,i 0,i 100,i 80,i 20,i 100,(.lst [c22,is [98,0,1,2,50,50,0,100],is [32,0,2,3,100,0,0,100]]),i 3,i 5,i 0,i 0,i 100,i 100,i 80,i 20,i 100,(.lst [c21,is [100,0,4,5,50,50,0,100]])]])]
theorem r7x0:RW ps34 7 t7 0:=by intro k r hk;cases hk;kernel_rfl
theorem ok7:bc prog md (aZ ps34) 10000 40 7 t7:=(ah (r7x0 _ _ rfl) aJ)
def C4:List (FuncId×Tbl):=(7,t7)::ps34
theorem pk35:MO C4:=aD pk34 (aU cG cH (aB _ pk34) ok7)
def t10:Tbl:=[(⟨⟨0,[],0⟩,[],[]⟩,B,[])]
theorem r10x0:RW C4 10 t10 0:=by intro k r hk;cases hk;kernel_rfl
theorem ok10:bc prog md (aZ C4) 10000 40 10 t10:=(ah (r10x0 _ _ rfl) aJ)
def ps36:List (FuncId×Tbl):=(10,t10)::C4
theorem pk36:MO ps36:=aD pk35 (aU cG cH (aB _ pk35) ok10)
end Bi
end Go.Ab
