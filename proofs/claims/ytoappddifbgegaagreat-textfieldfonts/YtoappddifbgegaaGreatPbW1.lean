/- Closed calls, by tables: what awake comes to. Printed by wip/tools/Memo11.lean and mkpam3.py. -/
import Derived.Test.YtoappddifbgegaaGreatAbRm
set_option linter.all false
set_option linter.all false
namespace Go.Ab
open Go.Proofs Go.Proofs.Tryz
namespace Aw
theorem hfol:prog.follows .mixedOrders=true:=by kernel_rfl
theorem hnam:ck prog:=by
 have h : (prog.funcs.toList.all fun fn => !(fn.name == "runtime.NumGoroutine")) = true := by kernel_rfl
 intro g fn hg;have:=Lk.1 h fn (K6 (by simpa using hg));simpa using this
def md28:FuncId->Nat
 | 16|48|80|120|121|262|275|280|282|283|284|285|289|305|324|331|335|336|337|339|340|341|342|345|347|348|349|350=>1
 | 14|51|54|55|76|87|88|89|90|91|92|93|94|95|96|97|98|99|100|101|102|103|106|123|126|135|141|145|149|150|153|168|191|197|237|261|276|279|294|319|320|329=>2
 | 180|183|235|236|238|297=>3
 | 107|108|171|172|239|290|318=>4
 | 173|292|293=>5
 | _=>0
noncomputable def clB(f:FuncId):Prim:=fun cfg args h=>aH prog md28 (fun _=>none) 10000 30 cfg f args h
theorem tF(f:FuncId):bw prog f (clB f):=fun _ _ _ _ _ hx=>dx hfol hnam (fun _ _ h=>by cases h) 30 _ _ _ _ _ _ hx
theorem cl61:bw prog 61 (ed (clB 61)):=fM (tF _) (b2:=1) (k:=1) (h2':=[none,some []]) (by kernel_rfl) (by kernel_rfl)
theorem cl83:bw prog 83 (ed (clB 83)):=fM (tF _) (b2:=1) (k:=2) (h2':=[none,some []]) (by kernel_rfl) (by kernel_rfl)
theorem cl122:bw prog 122 (ed (clB 122)):=fM (tF _) (b2:=1) (k:=2) (h2':=[none,some []]) (by kernel_rfl) (by kernel_rfl)
theorem cl279:bw prog 279 (ed (clB 279)):=fM (tF _) (b2:=1) (k:=1) (h2':=[none,some []]) (by kernel_rfl) (by kernel_rfl)
noncomputable def bC(f:FuncId):Option Prim:=match [61,83,122,279].find? (fun x=>x==f) with
 | some a=>some (ed (clB a))
 | none=>none
theorem Cq:∀ f p,bC f=some p->bw prog f p:=by
 intro f p h;unfold bC at h;split at h
 ·rename_i a ha;have h1:=M5 ha;have h2:=List.find?_some ha;simp only[beq_iff_eq]at h2;subst h2;cases h;simp only[Lt,MB,or_false]at h1;rcases h1 with rfl|rfl|rfl|rfl
  ·exact cl61
  ·exact cl83
  ·exact cl122
  ·exact cl279
 ·cases h
noncomputable abbrev KT(l:List (FuncId×Tbl)):aF:=aH prog md28 (wH bC l) 10000 40
abbrev TL:=List (FuncId×Tbl)
abbrev RK(l:TL)(f:FuncId)(t:Tbl):Prop:=pH prog md28 (wH bC l) 10000 40 f t
abbrev MO(l:TL):Prop:=∀ f t,(f,t)∈l->bw prog f (kS t)
abbrev RW(l:TL)(f:FuncId)(t:Tbl)(j:Nat):Prop:=∀ k r,t[j]?=some (k,r)->KT l k.cfg f k.args k.h=some r
theorem PC{l:TL}{f:FuncId}{t:Tbl}(h:MO l)(ho:RK l f t):MO ((f,t)::l):=nz h (zU hfol hnam (qZ Cq h) ho)
theorem CN{l:TL}{f:FuncId}{k:Key}{r:V×Heap}{t:Tbl}(ht:RK l f t)(h:KT l k.cfg f k.args k.h=some r:=by kernel_rfl):RK l f ((k,r)::t):=BU h ht
abbrev il(l:List Int):V:=.lst (l.map fun n=>[.int .i64 n])
abbrev rl(l:List Int):V:=.lst (l.map fun n=>[.int .i32 n])
abbrev i(n:Int):V:=.int .i64 n
abbrev r(n:Int):V:=.int .i32 n
abbrev is(l:List Int):List V:=l.map i
abbrev rs(l:List Int):List V:=l.map r
abbrev o:Option (List V):=some [(i 0)]
abbrev z:Option (List V):=some (is [0,0])
abbrev B:V:=.bool true
abbrev W:V:=.bool false
abbrev N:Option (List V):=none
abbrev y:Option (List V):=some []
abbrev e:V:=.lst []
abbrev c3:List V:=[(.mq [[i 1,(.func (.func 89) [] [])],[i 2,(.func (.func 90) [] [])],[i 3,(.func (.func 90) [] [])],[i 4,(.func (.func 91) [] [])],[i 5,(.func (.func 92) [] [])],[i 6,(.func (.func 93) [] [])],[i 7,(.func (.func 93) [] [])],[i 8,(.func (.func 94) [] [])],[i 9,(.func (.func 95) [] [])],[i 10,(.func (.func 95) [] [])],[i 11,(.func (.func 96) [] [])],[i 12,(.func (.func 97) [] [])],[i 13,(.func (.func 98) [] [])],[i 14,(.func (.func 99) [] [])],[i 15,(.func (.func 100) [] [])],[i 16,(.func (.func 101) [] [])],[i 17,(.func (.func 87) [] [])],[i 18,(.func (.func 102) [] [])],[i 19,(.func (.func 103) [] [])]])]
abbrev c5:List V:=[W,W,i 100,i 0,i 1,i 10,i 1000,i 0,i 0]
abbrev c8:List V:=[rl [97,98],(.lst [is [0,2,0,10]]),i 0,i 0,i 1000]
abbrev c9:List V:=[i 0,i 2,i 0,il [0,0]]
abbrev c10:List V:=[rl [101,769],.sl 0 0 2 2 1,.sl 2 0 2 2 1,il [-1,-1],.sl 3 0 2 2 1,i 0]
abbrev c11:List V:=[rl [101,769],(.lst [is [0,2,0,10]]),i 0,i 0,i 1000]
abbrev c12:List V:=[rl [97,98],.sl 0 0 2 2 1,.sl 2 0 2 2 1,il [-1,-1],.sl 3 0 2 2 1,i 0]
abbrev c13:List V:=[rl [97],(.lst [is [0,1,0,10]]),i 0,i 0,i 1000]
abbrev c14:List V:=[il [0,1],i 0,i 0,i 0]
abbrev c15:List V:=[.nils,.nils,i 0,i 0,W,W,i 0,i 0,.nils,.nils,i 0,i 0,.nils,.nils,.nils,W,i 0,i 0,i 0]
abbrev c16:List V:=[i 16,i 12,i 4,i 0,i 16,e,e,e]
abbrev c17:List V:=[i 0,i 1,e,e,i 0,i 0,rl [97],(.lst [is [1,0]]),i 0,i 0,W,i 1,i 1,W]
abbrev c18:List V:=[e,(.lst [is [0,0,0,10]]),i 0,i 0,i 1000]
abbrev c19:List V:=[i 0,i 0,rl [101,769],(.lst [is [2,0]]),i 0,i 2,e,e,i 2,i 2,W,i 0,i 0,W]
abbrev c20:List V:=[rl [97],.sl 0 0 1 1 1,.sl 2 0 1 1 1,il [-1],.sl 3 0 1 1 1,i 0]
abbrev c23:List V:=[rl [101,769],il [0,0],.sl 3 0 3 3 1,.mref 4,.mref 5]
abbrev c24:List V:=[i 0,i 2,i 0,i 0,i 0,i 20,i 8,i 3,i 11,(.lst [is [97,0,0,1,0,10,0,10],is [98,0,1,2,10,10,0,10]])]
abbrev c25:List V:=[rl [101,769],(.lst [is [2,0]]),i 2,i 2,W,W,i 0,i 0,e,e,i 0,i 0,e,e,e,W,i 0,(i (-1)),(i (-1))]
abbrev c26:List V:=[rl [97,98],il [0,0],.sl 3 0 3 3 1,.mref 4,.mref 5]
abbrev c28:List V:=[e,e,i 0,i 0,W,W,i 0,i 0,e,e,i 0,i 0,e,e,e,W,i 0,(i (-1)),(i (-1))]
abbrev c29:List V:=[rl [97],il [0],.sl 3 0 2 2 1,.mref 4,.mref 5]
abbrev c30:List V:=[i 0,i 1,i 0,il [0]]
abbrev c32:List V:=[i 0,i 2,i 0,i 0,i 0,i 10,i 8,i 3,i 11,(.lst [is [101,0,0,1,0,10,0,10],is [769,0,1,2,10,0,0,10]])]
abbrev c34:List V:=[e,e,.sl 3 0 1 1 1,.mref 4,.mref 5]
abbrev c35:List V:=[il [0],i 0,i 0,i 0]
abbrev c36:List V:=[B,W,B]
abbrev c37:Heap:=[z,N,z,z,some c12,some c14]
abbrev c38:List V:=[B,B,B]
abbrev c39:List V:=[i 9,.nils,.nils,.nils,i 0,i 0,W,i 0,i 0,i 0,i 0,i 0,i 0,.nils,i 0]
abbrev c40:List V:=[i 0,i 1,i 0,i 0,i 0,i 10,i 8,i 3,i 11,(.lst [is [97,0,0,1,0,10,0,10]])]
abbrev c41:List V:=[i 1,i 1,e,e,i 1,i 0,rl [98],(.lst [is [1,0]]),i 1,i 1,W,i 2,i 2,W]
abbrev c1:V:=(.lst [c17,c41])
abbrev c42:List V:=[i 1,i 1,e,e]
abbrev c43:List V:=[i 0,i 1,e,e]
abbrev c44:List V:=[i 0,i 0,i 0,i 0,i 0,i 0,i 0,i 0,i 0,.nils]
abbrev c45:List V:=[i 1,i 0,rl [98],(.lst [is [1,0]])]
abbrev c46:List V:=[i 0,i 0,rl [97],(.lst [is [1,0]])]
abbrev c48:Heap:=[some (is [0,8]),N,z,z,some c10,some c14]
abbrev c49:List V:=[i 0,i 0,i 0,e]
abbrev c50:List V:=[r 97,r 122,(.int .u8 0),(.int .u8 3),(.int .u8 0),(.int .u8 0),(.int .u8 0)]
abbrev c4:V:=(.lst [[r 0,r 8,(.int .u8 3),(.int .u8 0),(.int .u8 7),(.int .u8 9),(.int .u8 0)],[r 9,r 9,(.int .u8 3),(.int .u8 0),(.int .u8 10),(.int .u8 11),(.int .u8 0)],[r 10,r 10,(.int .u8 2),(.int .u8 1),(.int .u8 3),(.int .u8 10),(.int .u8 0)],[r 11,r 11,(.int .u8 3),(.int .u8 1),(.int .u8 1),(.int .u8 11),(.int .u8 0)],[r 12,r 12,(.int .u8 3),(.int .u8 1),(.int .u8 1),(.int .u8 12),(.int .u8 0)],[r 13,r 13,(.int .u8 1),(.int .u8 1),(.int .u8 2),(.int .u8 10),(.int .u8 0)],[r 14,r 31,(.int .u8 3),(.int .u8 0),(.int .u8 7),(.int .u8 9),(.int .u8 0)],[r 32,r 32,(.int .u8 0),(.int .u8 2),(.int .u8 4),(.int .u8 12),(.int .u8 0)],[r 33,r 33,(.int .u8 0),(.int .u8 0),(.int .u8 15),(.int .u8 13),(.int .u8 0)],[r 34,r 34,(.int .u8 0),(.int .u8 0),(.int .u8 14),(.int .u8 13),(.int .u8 0)],[r 35,r 37,(.int .u8 0),(.int .u8 0),(.int .u8 0),(.int .u8 5),(.int .u8 0)],[r 38,r 38,(.int .u8 0),(.int .u8 0),(.int .u8 0),(.int .u8 13),(.int .u8 0)],[r 39,r 39,(.int .u8 0),(.int .u8 7),(.int .u8 14),(.int .u8 13),(.int .u8 0)],[r 40,r 40,(.int .u8 0),(.int .u8 0),(.int .u8 12),(.int .u8 13),(.int .u8 0)],[r 41,r 41,(.int .u8 0),(.int .u8 0),(.int .u8 13),(.int .u8 13),(.int .u8 0)],[r 42,r 42,(.int .u8 0),(.int .u8 0),(.int .u8 0),(.int .u8 13),(.int .u8 0)],[r 43,r 43,(.int .u8 0),(.int .u8 0),(.int .u8 0),(.int .u8 4),(.int .u8 0)],[r 44,r 44,(.int .u8 0),(.int .u8 6),(.int .u8 16),(.int .u8 7),(.int .u8 0)],[r 45,r 45,(.int .u8 0),(.int .u8 0),(.int .u8 11),(.int .u8 4),(.int .u8 0)],[r 46,r 46,(.int .u8 0),(.int .u8 7),(.int .u8 16),(.int .u8 7),(.int .u8 0)],[r 47,r 47,(.int .u8 0),(.int .u8 0),(.int .u8 10),(.int .u8 7),(.int .u8 0)],[r 48,r 57,(.int .u8 0),(.int .u8 4),(.int .u8 17),(.int .u8 3),(.int .u8 0)],[r 58,r 58,(.int .u8 0),(.int .u8 5),(.int .u8 16),(.int .u8 7),(.int .u8 0)],[r 59,r 59,(.int .u8 0),(.int .u8 6),(.int .u8 16),(.int .u8 13),(.int .u8 0)],[r 60,r 62,(.int .u8 0),(.int .u8 0),(.int .u8 0),(.int .u8 13),(.int .u8 0)],[r 63,r 63,(.int .u8 0),(.int .u8 0),(.int .u8 15),(.int .u8 13),(.int .u8 0)],[r 64,r 64,(.int .u8 0),(.int .u8 0),(.int .u8 0),(.int .u8 13),(.int .u8 0)],[r 65,r 90,(.int .u8 0),(.int .u8 3),(.int .u8 0),(.int .u8 0),(.int .u8 0)],[r 91,r 91,(.int .u8 0),(.int .u8 0),(.int .u8 12),(.int .u8 13),(.int .u8 0)],[r 92,r 92,(.int .u8 0),(.int .u8 0),(.int .u8 0),(.int .u8 13),(.int .u8 0)],[r 93,r 93,(.int .u8 0),(.int .u8 0),(.int .u8 13),(.int .u8 13),(.int .u8 0)],[r 94,r 94,(.int .u8 0),(.int .u8 0),(.int .u8 0),(.int .u8 13),(.int .u8 0)],[r 95,r 95,(.int .u8 0),(.int .u8 8),(.int .u8 0),(.int .u8 13),(.int .u8 0)],[r 96,r 96,(.int .u8 0),(.int .u8 0),(.int .u8 0),(.int .u8 13),(.int .u8 0)],c50,[r 123,r 123,(.int .u8 0),(.int .u8 0),(.int .u8 12),(.int .u8 13),(.int .u8 0)],[r 124,r 124,(.int .u8 0),(.int .u8 0),(.int .u8 10),(.int .u8 13),(.int .u8 0)],[r 125,r 125,(.int .u8 0),(.int .u8 0),(.int .u8 13),(.int .u8 13),(.int .u8 0)],[r 126,r 126,(.int .u8 0),(.int .u8 0),(.int .u8 0),(.int .u8 13),(.int .u8 0)],[r 127,r 132,(.int .u8 3),(.int .u8 0),(.int .u8 7),(.int .u8 9),(.int .u8 0)],[r 133,r 133,(.int .u8 3),(.int .u8 1),(.int .u8 1),(.int .u8 10),(.int .u8 0)],[r 134,r 159,(.int .u8 3),(.int .u8 0),(.int .u8 7),(.int .u8 9),(.int .u8 0)],[r 160,r 160,(.int .u8 0),(.int .u8 0),(.int .u8 9),(.int .u8 7),(.int .u8 0)],[r 161,r 161,(.int .u8 0),(.int .u8 0),(.int .u8 12),(.int .u8 13),(.int .u8 0)]])
abbrev c51:List V:=[i 0,i 0,i 0,i 0,i 0,i 0,i 8,i 3,i 11,e]
abbrev c52:List V:=[B,B]
abbrev c53:List V:=[i 1,i 1,e,e,i 0,i 1,e,e]
abbrev c54:List V:=[i 16,i 12,i 4,i 0,i 20,e,e,e]
abbrev c2:V:=(.lst [c16,c54])
abbrev c21:List V:=[rl [101,769],(.lst [is [0,2,0,10]]),i 0,i 0,i 1000,c2,il [0,2],il [0,2],.sl 7 0 3 3 1,.sl 13 0 2 2 1,rl [101,769],il [0,0],.sl 3 0 3 3 1,.mref 4,.mref 5,.sl 15 0 1 1 4]
abbrev c22:List V:=[rl [97,98],(.lst [is [0,2,0,10]]),i 0,i 0,i 1000,c2,il [0,2],il [0,1,2],.sl 7 0 3 3 1,.sl 13 0 2 2 1,rl [97,98],il [0,0],.sl 3 0 3 3 1,.mref 4,.mref 5,.sl 15 0 1 1 4]
abbrev c27:List V:=[rl [97],(.lst [is [0,1,0,10]]),i 0,i 0,i 1000,c2,il [2],il [0,1],.sl 7 0 2 2 1,.sl 11 0 1 1 1,rl [97],il [0],.sl 3 0 2 2 1,.mref 4,.mref 5,.sl 13 0 1 1 4]
abbrev c47:List V:=[e,(.lst [is [0,0,0,10]]),i 0,i 0,i 1000,c2,e,e,.sl 7 0 1 1 1,.nils,e,e,.sl 3 0 1 1 1,.mref 4,.mref 5,.sl 11 0 1 1 4]
abbrev c55:Heap:=[o,N,o,o,some c20,some c35]
abbrev c56:List V:=[i 1,rl [98],e,e,i 0,i 0,W,i 0,i 0,i 0,i 0,i 0,i 0,e,i 0]
abbrev c57:List V:=[i 1,rl [97],e,e,i 0,i 0,W,i 0,i 0,i 0,i 0,i 0,i 0,e,i 0]
abbrev c58:List V:=[(.agg [i 0,i 10,r 97,r 0,B]),i 10]
abbrev c59:V:=(.lst [[i 1,i 0,c1]])
abbrev c7:List V:=[rl [97,98],(.lst [is [2,0]]),i 2,i 2,W,W,i 0,i 0,e,e,i 0,i 0,e,c59,e,W,i 0,(i (-1)),(i (-1))]
abbrev c31:List V:=[e,e,i 0,i 0,W,W,i 0,i 0,e,e,i 0,i 0,e,e,c59,B,i 0,(i (-1)),(i (-1))]
abbrev c33:List V:=[W,W,i 100,i 0,i 1,i 10,i 1000,i 0,i 0,c2,i 9,.nils,.nils,.nils,i 0,i 0,W,i 0,i 0,i 0,i 0,i 0,i 0,.nils,i 0,e,e,i 0,i 0,W,W,i 0,i 0,e,e,i 0,i 0,e,e,c59,B,i 0,(i (-1)),(i (-1)),rl [97,98],(.lst [is [0,2,0,10]]),i 0,i 0,i 1000,(.lst [c24]),.sl 27 0 2 2 4,.nils,.nils]
abbrev c60:List V:=[i 2,.nils,.nils,.nils,i 1,i 0,W,i 0,i 0,i 0,i 0,i 0,i 0,.nils,i 0]
abbrev c61:List V:=[e,e,i 0,i 0,W,W,i 0,i 0,e,e,i 0,i 0,e,(.lst [[i 2,i 0,(.lst [c19])]]),e,W,i 0,(i (-1)),(i (-1))]
abbrev c62:List V:=[i 0,(i (-1)),W]
abbrev c63:List V:=[.sl 1 0 2 2 1,.sl 2 0 2 2 1,.sl 3 0 3 3 1]
abbrev c64:List V:=[i 0,i 2,e,e]
abbrev c65:List V:=[(.mq [c58,[(.agg [i 0,i 10,r 98,r 0,B]),i 10],[(.agg [i 0,i 10,r 97,r 98,W]),i 0]])]
abbrev c66:List V:=[(.mq [[(.agg [i 0,i 10,r 101,r 0,B]),i 10],[(.agg [i 0,i 10,r 769,r 0,B]),i 0]])]
abbrev c67:List V:=[.ptr 4 0,.agg c14]
abbrev c68:List V:=[rl [97],(.lst [is [1,0]])]
abbrev c69:List V:=[(.mq [[(.agg [i 0,i 0,r 97,r 98,W]),(.agg [r 0,r 0,i 0,i 0,W])]])]
abbrev c70:V:=(.lst [[i 1,i 0,(.lst [c17])]])
abbrev c6:List V:=[rl [97],(.lst [is [1,0]]),i 1,i 1,W,W,i 0,i 0,e,e,i 0,i 0,e,c70,e,W,i 0,(i (-1)),(i (-1))]
def t233:Tbl:=[(⟨⟨0,[],0⟩,[(.agg [il [0,0],il [0,0],(.lst [[B],[B],[B]])]),i 1],[]⟩,i 0,[some [il [0,0],il [0,0],(.lst [[B],[B],[B]])],some (is [1,3,2]),some (is [1,2,3,4,5]),some (is [13,15,16]),some (is [17,11,16]),some (is [0,16])]),
 (⟨⟨0,[],0⟩,[(.agg [il [0,7],il [0,0],(.lst [[B],[W],[B]])]),i 1],[]⟩,i 0,[some [il [0,7],il [0,0],(.lst [[B],[W],[B]])],some (is [1,3,2]),some (is [1,2,3,4,5])])]
theorem ok233:RK [] 233 t233:=CN (CN (aW))
def ps1:TL:=(233,t233)::[]
theorem pk1:MO ps1:=nz (by simp) (zU hfol hnam (qZ Cq (by simp)) ok233)
def t238:Tbl:=[(⟨⟨0,[],0⟩,[e],[]⟩,.sl 0 0 0 0 1,[y]),
 (⟨⟨0,[],0⟩,[il [0]],[]⟩,.sl 0 0 1 1 1,[o]),
 (⟨⟨0,[],0⟩,[il [0,0]],[]⟩,.sl 0 0 2 2 1,[some (is [0,1])])]
theorem ok238:RK ps1 238 t238:=CN (CN (CN (aW)))
def ps2:TL:=(238,t238)::ps1
theorem pk2:MO ps2:=PC pk1 ok238
def t278:Tbl:=[(⟨⟨2,[],2⟩,[.sl 0 0 0 0 1],[y,y]⟩,.sl 2 0 0 0 1,[y,y,y]),
 (⟨⟨3,[],3⟩,[.sl 0 0 1 1 1],[o,N,o]⟩,.sl 3 0 1 1 1,[o,N,o,some [(i (-1))]]),
 (⟨⟨3,[],3⟩,[.sl 0 0 2 2 1],[z,N,z]⟩,.sl 3 0 2 2 1,[z,N,z,some (is [-1,-1])]),
 (⟨⟨3,[],3⟩,[.sl 0 0 2 2 1],[some (is [0,8]),N,some (is [0,8])]⟩,.sl 3 0 2 2 1,[some (is [0,8]),N,some (is [0,8]),some (is [-1,-1])])]
theorem ok278:RK ps2 278 t278:=CN (CN (CN (CN (aW))))
def ps3:TL:=(278,t278)::ps2
theorem pk3:MO ps3:=PC pk2 ok278
def t280:Tbl:=[(⟨⟨0,[],4⟩,[.ptr 3 0],[y,y,y,some [e,.sl 0 0 0 0 1,.sl 1 0 0 0 1,e,.sl 2 0 0 0 1,i 0]]⟩,(.tup []),[y,y,y,some [e,.sl 0 0 0 0 1,.sl 1 0 0 0 1,e,.sl 2 0 0 0 1,i 0],some [.ptr 3 0],some c62,some [.sl 5 0 1 1 3]]),
 (⟨⟨0,[],5⟩,[.ptr 4 0],[o,N,o,o,some c20]⟩,(.tup []),[o,N,o,o,some c20,some [.ptr 4 0],some c62,some [.sl 6 0 1 1 3],o,some c62]),
 (⟨⟨0,[],5⟩,[.ptr 4 0],[z,N,z,z,some c12]⟩,(.tup []),[z,N,z,z,some c12,some [.ptr 4 0],some c62,some [.sl 6 0 1 1 3],o,some c62,some [i 1],some c62]),
 (⟨⟨0,[],5⟩,[.ptr 4 0],[some (is [0,8]),N,some (is [0,8]),z,some c10]⟩,(.tup []),[some (is [0,8]),N,some (is [0,8]),z,some c10,some [.ptr 4 0],some c62,some [.sl 6 0 1 1 3],o,some c62,some [i 1],some c62])]
theorem ok280:RK ps3 280 t280:=CN (CN (CN (CN (aW))))
def ps4:TL:=(280,t280)::ps3
theorem pk4:MO ps4:=PC pk3 ok280
def t282:Tbl:=[(⟨⟨0,[],6⟩,[.ptr 4 0,.agg c35],c55⟩,(.tup []),[o,N,o,o,some c20,some c35,some [.ptr 4 0],some c35]),
 (⟨⟨0,[],6⟩,c67,c37⟩,(.tup []),[z,N,z,z,some c12,some c14,some [.ptr 4 0],some c14]),
 (⟨⟨0,[],6⟩,c67,[some (is [0,8]),N,some (is [0,8]),z,some c10,some c14]⟩,(.tup []),[some (is [0,8]),N,z,z,some c10,some c14,some [.ptr 4 0],some c14])]
theorem ok282:RK ps4 282 t282:=CN (CN (CN (aW)))
def ps5:TL:=(282,t282)::ps4
theorem pk5:MO ps5:=PC pk4 ok282
def t284:Tbl:=[(⟨⟨0,[],6⟩,[.ptr 4 0,.agg c35],c55⟩,(.tup []),[o,N,o,o,some c20,some c35,some c35]),
 (⟨⟨0,[],6⟩,c67,c37⟩,(.tup []),[z,N,z,z,some c12,some c14,some c14]),
 (⟨⟨0,[],6⟩,c67,c48⟩,(.tup []),[some (is [0,8]),N,z,z,some c10,some c14,some c14])]
theorem ok284:RK ps5 284 t284:=CN (CN (CN (aW)))
def ps6:TL:=(284,t284)::ps5
theorem pk6:MO ps6:=PC pk5 ok284
def t285:Tbl:=[(⟨⟨0,[],6⟩,[.ptr 4 0,.agg c35],c55⟩,(.tup []),[o,N,o,o,some c20,some c35,some c35]),
 (⟨⟨0,[],6⟩,c67,c37⟩,(.tup []),[z,N,z,z,some c12,some c14,some c14]),
 (⟨⟨0,[],6⟩,c67,c48⟩,(.tup []),[some (is [0,8]),N,z,z,some c10,some c14,some c14])]
theorem ok285:RK ps6 285 t285:=CN (CN (CN (aW)))
def ps7:TL:=(285,t285)::ps6
theorem pk7:MO ps7:=PC pk6 ok285
def t286:Tbl:=[(⟨⟨5,[],5⟩,[.ptr 4 0,i 0],[o,N,o,o,some c20]⟩,W,[o,N,o,o,some c20]),
 (⟨⟨6,[],6⟩,[.ptr 4 0,i 0],c55⟩,W,c55),
 (⟨⟨5,[],5⟩,[.ptr 4 0,i 0],[z,N,z,z,some c12]⟩,W,[z,N,z,z,some c12]),
 (⟨⟨7,[],7⟩,[.ptr 4 0,i 1],[z,N,z,z,some c12,o,o]⟩,W,[z,N,z,z,some c12,o,o]),
 (⟨⟨6,[],6⟩,[.ptr 4 0,i 0],c37⟩,W,c37),
 (⟨⟨6,[],6⟩,[.ptr 4 0,i 1],c37⟩,W,c37),
 (⟨⟨5,[],5⟩,[.ptr 4 0,i 0],[some (is [0,8]),N,some (is [0,8]),z,some c10]⟩,W,[some (is [0,8]),N,some (is [0,8]),z,some c10]),
 (⟨⟨7,[],7⟩,[.ptr 4 0,i 1],[some (is [0,8]),N,some (is [0,8]),z,some c10,o,o]⟩,W,[some (is [0,8]),N,some (is [0,8]),z,some c10,o,o]),
 (⟨⟨6,[],6⟩,[.ptr 4 0,i 0],c48⟩,W,c48),
 (⟨⟨6,[],6⟩,[.ptr 4 0,i 1],c48⟩,W,c48)]
theorem ok286:RK ps7 286 t286:=CN (CN (CN (CN (CN (CN (CN (CN (CN (CN (aW))))))))))
def ps8:TL:=(286,t286)::ps7
theorem pk8:MO ps8:=PC pk7 ok286
def t310:Tbl:=[(⟨⟨7,[],7⟩,[.ptr 4 0,.agg c35],[o,N,o,o,some c20,some c35,some c35]⟩,.nils,[o,N,o,o,some c20,some c35,some c35,some c35]),
 (⟨⟨7,[],7⟩,c67,[z,N,z,z,some c12,some c14,some c14]⟩,.nils,[z,N,z,z,some c12,some c14,some c14,some c14]),
 (⟨⟨7,[],7⟩,c67,[some (is [0,8]),N,z,z,some c10,some c14,some c14]⟩,.nils,[some (is [0,8]),N,z,z,some c10,some c14,some c14,some c14])]
theorem ok310:RK ps8 310 t310:=CN (CN (CN (aW)))
def ps9:TL:=(310,t310)::ps8
theorem pk9:MO ps9:=PC pk8 ok310
def t183:Tbl:=[(⟨⟨0,[],0⟩,[c4,r 97],[]⟩,.agg c50,[some c50]),
 (⟨⟨0,[],0⟩,[c4,r 98],[]⟩,.agg c50,[some c50]),
 (⟨⟨0,[],0⟩,[c4,r 101],[]⟩,.agg c50,[some c50]),
 (⟨⟨0,[],0⟩,[(.lst [[r 162,r 165,(.int .u8 0),(.int .u8 0),(.int .u8 0),(.int .u8 5),(.int .u8 0)],[r 166,r 169,(.int .u8 0),(.int .u8 0),(.int .u8 0),(.int .u8 13),(.int .u8 0)],[r 170,r 170,(.int .u8 0),(.int .u8 3),(.int .u8 0),(.int .u8 0),(.int .u8 0)],[r 171,r 171,(.int .u8 0),(.int .u8 0),(.int .u8 14),(.int .u8 13),(.int .u8 0)],[r 172,r 172,(.int .u8 0),(.int .u8 0),(.int .u8 0),(.int .u8 13),(.int .u8 0)],[r 173,r 173,(.int .u8 3),(.int .u8 10),(.int .u8 10),(.int .u8 9),(.int .u8 4)],[r 174,r 180,(.int .u8 0),(.int .u8 0),(.int .u8 0),(.int .u8 13),(.int .u8 0)],[r 181,r 181,(.int .u8 0),(.int .u8 3),(.int .u8 0),(.int .u8 0),(.int .u8 0)],[r 182,r 182,(.int .u8 0),(.int .u8 0),(.int .u8 0),(.int .u8 13),(.int .u8 0)],[r 183,r 183,(.int .u8 0),(.int .u8 5),(.int .u8 0),(.int .u8 13),(.int .u8 0)],[r 184,r 185,(.int .u8 0),(.int .u8 0),(.int .u8 0),(.int .u8 13),(.int .u8 0)],[r 186,r 186,(.int .u8 0),(.int .u8 3),(.int .u8 0),(.int .u8 0),(.int .u8 0)],[r 187,r 187,(.int .u8 0),(.int .u8 0),(.int .u8 14),(.int .u8 13),(.int .u8 0)],[r 188,r 191,(.int .u8 0),(.int .u8 0),(.int .u8 0),(.int .u8 13),(.int .u8 0)],[r 192,r 767,(.int .u8 0),(.int .u8 3),(.int .u8 0),(.int .u8 0),(.int .u8 0)],[r 768,r 879,(.int .u8 4),(.int .u8 10),(.int .u8 7),(.int .u8 8),(.int .u8 4)],[r 880,r 1423,(.int .u8 0),(.int .u8 3),(.int .u8 0),(.int .u8 0),(.int .u8 0)],[r 1424,r 1469,(.int .u8 4),(.int .u8 10),(.int .u8 7),(.int .u8 8),(.int .u8 4)],[r 1470,r 1470,(.int .u8 0),(.int .u8 0),(.int .u8 10),(.int .u8 1),(.int .u8 0)],[r 1471,r 1479,(.int .u8 4),(.int .u8 10),(.int .u8 7),(.int .u8 8),(.int .u8 4)],[r 1488,r 1514,(.int .u8 0),(.int .u8 3),(.int .u8 0),(.int .u8 1),(.int .u8 0)],[r 1536,r 1541,(.int .u8 7),(.int .u8 0),(.int .u8 0),(.int .u8 6),(.int .u8 0)],[r 1548,r 1548,(.int .u8 0),(.int .u8 6),(.int .u8 16),(.int .u8 7),(.int .u8 0)],[r 1552,r 1562,(.int .u8 4),(.int .u8 10),(.int .u8 7),(.int .u8 8),(.int .u8 4)],[r 1563,r 1563,(.int .u8 0),(.int .u8 0),(.int .u8 15),(.int .u8 2),(.int .u8 0)],[r 1564,r 1564,(.int .u8 3),(.int .u8 10),(.int .u8 7),(.int .u8 2),(.int .u8 4)],[r 1567,r 1567,(.int .u8 0),(.int .u8 0),(.int .u8 15),(.int .u8 2),(.int .u8 0)],[r 1568,r 1568,(.int .u8 0),(.int .u8 3),(.int .u8 0),(.int .u8 2),(.int .u8 2)],[r 1569,r 1569,(.int .u8 0),(.int .u8 3),(.int .u8 0),(.int .u8 2),(.int .u8 0)],[r 1570,r 1573,(.int .u8 0),(.int .u8 3),(.int .u8 0),(.int .u8 2),(.int .u8 1)],[r 1574,r 1574,(.int .u8 0),(.int .u8 3),(.int .u8 0),(.int .u8 2),(.int .u8 2)],[r 1575,r 1575,(.int .u8 0),(.int .u8 3),(.int .u8 0),(.int .u8 2),(.int .u8 1)],[r 1576,r 1576,(.int .u8 0),(.int .u8 3),(.int .u8 0),(.int .u8 2),(.int .u8 2)],[r 1577,r 1577,(.int .u8 0),(.int .u8 3),(.int .u8 0),(.int .u8 2),(.int .u8 1)],[r 1578,r 1582,(.int .u8 0),(.int .u8 3),(.int .u8 0),(.int .u8 2),(.int .u8 2)],[r 1583,r 1586,(.int .u8 0),(.int .u8 3),(.int .u8 0),(.int .u8 2),(.int .u8 1)],[r 1587,r 1599,(.int .u8 0),(.int .u8 3),(.int .u8 0),(.int .u8 2),(.int .u8 2)],[r 1600,r 1600,(.int .u8 0),(.int .u8 3),(.int .u8 0),(.int .u8 2),(.int .u8 3)],[r 1601,r 1607,(.int .u8 0),(.int .u8 3),(.int .u8 0),(.int .u8 2),(.int .u8 2)],[r 1608,r 1608,(.int .u8 0),(.int .u8 3),(.int .u8 0),(.int .u8 2),(.int .u8 1)],[r 1609,r 1610,(.int .u8 0),(.int .u8 3),(.int .u8 0),(.int .u8 2),(.int .u8 2)],[r 1611,r 1631,(.int .u8 4),(.int .u8 10),(.int .u8 7),(.int .u8 8),(.int .u8 4)],[r 1632,r 1641,(.int .u8 0),(.int .u8 4),(.int .u8 17),(.int .u8 6),(.int .u8 0)],[r 1642,r 1642,(.int .u8 0),(.int .u8 0),(.int .u8 0),(.int .u8 5),(.int .u8 0)]]),r 769],[]⟩,(.agg [r 768,r 879,(.int .u8 4),(.int .u8 10),(.int .u8 7),(.int .u8 8),(.int .u8 4)]),[some [r 768,r 879,(.int .u8 4),(.int .u8 10),(.int .u8 7),(.int .u8 8),(.int .u8 4)]])]
theorem ok183:RK ps9 183 t183:=CN (CN (CN (CN (aW))))
def ps10:TL:=(183,t183)::ps9
theorem pk10:MO ps10:=PC pk9 ok183
def t232:Tbl:=[(⟨⟨0,[],0⟩,[rl [97]],[]⟩,(.agg [.sl 1 0 1 1 1,.sl 2 0 1 1 1,.sl 3 0 2 2 1]),[some [.sl 1 0 1 1 1,.sl 2 0 1 1 1,.sl 3 0 2 2 1],o,o,some c52,some [.sl 1 0 1 1 1,.sl 2 0 1 1 1,.sl 3 0 2 2 1]]),
 (⟨⟨0,[],0⟩,[rl [97,98]],[]⟩,.agg c63,[some c63,z,z,some c38,some c63]),
 (⟨⟨0,[],0⟩,[rl [101,769]],[]⟩,.agg c63,[some c63,some (is [0,7]),z,some c36,some c63])]
theorem ok232:RK ps10 232 t232:=CN (CN (CN (aW)))
def ps11:TL:=(232,t232)::ps10
theorem pk11:MO ps11:=PC pk10 ok232
def t167:Tbl:=[(⟨⟨0,[],0⟩,[e],[]⟩,.nils,[]),
 (⟨⟨0,[],0⟩,[rl [97]],[]⟩,.sl 1 0 1 1 1,[some [il [0],il [0],(.lst [[B],[B]])],some [i 2]]),
 (⟨⟨0,[],0⟩,[rl [97,98]],[]⟩,.sl 1 0 2 2 1,[some [il [0,0],il [0,0],(.lst [[B],[B],[B]])],some (is [0,2])]),
 (⟨⟨0,[],0⟩,[rl [101,769]],[]⟩,.sl 1 0 2 2 1,[some [il [0,7],il [0,0],(.lst [[B],[W],[B]])],some (is [0,2])])]
theorem ok167:RK ps11 167 t167:=CN (CN (CN (CN (aW))))
def ps12:TL:=(167,t167)::ps11
theorem pk12:MO ps12:=PC pk11 ok167
def t168:Tbl:=[(⟨⟨2,[],2⟩,[e],[some c18,some c18]⟩,.agg c34,[some c18,some c18,some c34,some [W],some [(.mq [])],some [(.mq [])],some c34]),
 (⟨⟨2,[],2⟩,[rl [97]],[some c13,some c13]⟩,.agg c29,[some c13,some c13,some c29,some c52,some [(.mq [])],some [(.mq [])],some c29]),
 (⟨⟨2,[],2⟩,[rl [97,98]],[some c8,some c8]⟩,.agg c26,[some c8,some c8,some c26,some c38,some [(.mq [])],some [(.mq [])],some c26]),
 (⟨⟨2,[],2⟩,[rl [101,769]],[some c11,some c11]⟩,.agg c23,[some c11,some c11,some c23,some c36,some [(.mq [])],some [(.mq [])],some c23])]
theorem ok168:RK ps12 168 t168:=CN (CN (CN (CN (aW))))
def ps13:TL:=(168,t168)::ps12
theorem pk13:MO ps13:=PC pk12 ok168
def t237:Tbl:=[(⟨⟨15,[4,5],15⟩,[e,e,i 0,i 0,i 0],[some c18,some c18,some c34,some [W],some [(.mq [])],some [(.mq [])],some c34,some [W],some c47,some (is [0,0,0,10]),some c49,some c49,some c49,some c49,some c44,some c49]⟩,e,[some c18,some c18,some c34,some [W],some [(.mq [])],some [(.mq [])],some c34,some [W],some c47,some (is [0,0,0,10]),some c49,some c49,some c49,some c49,some c44,some c49]),
 (⟨⟨16,[4,5],16⟩,[rl [97],il [0],i 0,i 0,i 1],[some c13,some c13,some c29,some c52,some [(.mq [])],some [(.mq [])],some c29,some c52,some c27,some (is [0,1,0,10]),o,o,some c30,some c30,some c30,some c30,some c30,some c30]⟩,.sl 19 0 1 1 1,[some c13,some c13,some c29,some c52,some [(.mq [])],some [(.mq [])],some c29,some c52,some c27,some (is [0,1,0,10]),o,o,some c30,some c30,some c30,some c30,some c30,some c30,N,o]),
 (⟨⟨17,[4,5],17⟩,[rl [97],il [0],i 0,i 0,i 1],[some c13,some c13,some c29,some c52,some [(.mq [c58])],some [(.mq [])],some c29,some c52,some c27,some (is [0,1,0,10]),o,o,some c30,some c30,some c30,some c30,some c44,some c30]⟩,.sl 19 0 1 1 1,[some c13,some c13,some c29,some c52,some [(.mq [c58])],some [(.mq [])],some c29,some c52,some c27,some (is [0,1,0,10]),o,o,some c30,some c30,some c30,some c30,some c44,some c30,N,o]),
 (⟨⟨18,[4,5],18⟩,[rl [97,98],il [0,0],i 0,i 0,i 2],[some c8,some c8,some c26,some c38,some [(.mq [])],some [(.mq [])],some c26,some c38,some c22,some (is [0,2,0,10]),o,N,o,z,some c9,some c9,some c9,some c9,some c9,some c9]⟩,.sl 21 0 2 2 1,[some c8,some c8,some c26,some c38,some [(.mq [])],some [(.mq [])],some c26,some c38,some c22,some (is [0,2,0,10]),o,N,o,z,some c9,some c9,some c9,some c9,some c9,some c9,N,z]),
 (⟨⟨19,[4,5],19⟩,[rl [97,98],il [0,0],i 0,i 0,i 2],[some c8,some c8,some c26,some c38,some c65,some c69,some c26,some c38,some c22,some (is [0,2,0,10]),o,N,o,z,some c9,some c9,some c9,some c9,some c44,some c9]⟩,.sl 21 0 2 2 1,[some c8,some c8,some c26,some c38,some c65,some c69,some c26,some c38,some c22,some (is [0,2,0,10]),o,N,o,z,some c9,some c9,some c9,some c9,some c44,some c9,N,z]),
 (⟨⟨18,[4,5],18⟩,[rl [101,769],il [0,0],i 0,i 0,i 2],[some c11,some c11,some c23,some c36,some [(.mq [])],some [(.mq [])],some c23,some c36,some c21,some (is [0,2,0,10]),o,N,o,z,some c9,some c9,some c9,some c9,some c9,some c9]⟩,.sl 21 0 2 2 1,[some c11,some c11,some c23,some c36,some [(.mq [])],some [(.mq [])],some c23,some c36,some c21,some (is [0,2,0,10]),o,N,o,z,some c9,some c9,some c9,some c9,some c9,some c9,N,z]),
 (⟨⟨19,[4,5],19⟩,[rl [101,769],il [0,0],i 0,i 0,i 2],[some c11,some c11,some c23,some c36,some c66,some [(.mq [])],some c23,some c36,some c21,some (is [0,2,0,10]),o,N,o,z,some c9,some c9,some c9,some c9,some c44,some c9]⟩,.sl 21 0 2 2 1,[some c11,some c11,some c23,some c36,some c66,some [(.mq [])],some c23,some c36,some c21,some (is [0,2,0,10]),o,N,o,z,some c9,some c9,some c9,some c9,some c44,some c9,N,z])]
theorem ok237:RK ps13 237 t237:=CN (CN (CN (CN (CN (CN (CN (aW)))))))
def ps14:TL:=(237,t237)::ps13
theorem pk14:MO ps14:=PC pk13 ok237
def t276:Tbl:=[(⟨⟨0,[],0⟩,[e],[]⟩,.sl 0 0 0 0 1,[y]),
 (⟨⟨0,[],0⟩,[rl [97]],[]⟩,.sl 0 0 1 1 1,[o]),
 (⟨⟨0,[],0⟩,[rl [97,98]],[]⟩,.sl 0 0 2 2 1,[z]),
 (⟨⟨0,[],0⟩,[rl [101,769]],[]⟩,.sl 0 0 2 2 1,[some (is [0,8])])]
theorem ok276:RK ps14 276 t276:=CN (CN (CN (CN (aW))))
def ps15:TL:=(276,t276)::ps14
theorem pk15:MO ps15:=PC pk14 ok276
def t236:Tbl:=[(⟨⟨0,[],0⟩,[e,i 0],[]⟩,.sl 2 0 0 0 1,[y,y,y,some [e,.sl 0 0 0 0 1,.sl 1 0 0 0 1,e,.sl 2 0 0 0 1,i 0]]),
 (⟨⟨0,[],0⟩,[rl [97],i 0],[]⟩,.sl 3 0 1 1 1,c55),
 (⟨⟨0,[],0⟩,[rl [97,98],i 0],[]⟩,.sl 3 0 2 2 1,c37),
 (⟨⟨0,[],0⟩,[rl [101,769],i 0],[]⟩,.sl 3 0 2 2 1,c48)]
theorem ok236:RK ps15 236 t236:=CN (CN (CN (CN (aW))))
def ps16:TL:=(236,t236)::ps15
theorem pk16:MO ps16:=PC pk15 ok236
def t106:Tbl:=[(⟨⟨0,[],0⟩,[.agg c18,c2],[some c18]⟩,.ptr 8 0,[some c18,some c18,some c34,some [W],some [(.mq [])],some [(.mq [])],some c34,some [W],some c47,some (is [0,0,0,10]),some c49,some c49]),
 (⟨⟨0,[],0⟩,[.agg c13,c2],[some c13]⟩,.ptr 8 0,[some c13,some c13,some c29,some c52,some [(.mq [])],some [(.mq [])],some c29,some c52,some c27,some (is [0,1,0,10]),o,o,some c30,some c30]),
 (⟨⟨0,[],0⟩,[.agg c8,c2],[some c8]⟩,.ptr 8 0,[some c8,some c8,some c26,some c38,some [(.mq [])],some [(.mq [])],some c26,some c38,some c22,some (is [0,2,0,10]),o,N,o,z,some c9,some c9]),
 (⟨⟨0,[],0⟩,[.agg c11,c2],[some c11]⟩,.ptr 8 0,[some c11,some c11,some c23,some c36,some [(.mq [])],some [(.mq [])],some c23,some c36,some c21,some (is [0,2,0,10]),o,N,o,z,some c9,some c9])]
theorem ok106:RK ps16 106 t106:=CN (CN (CN (CN (aW))))
def ps17:TL:=(106,t106)::ps16
theorem pk17:MO ps17:=PC pk16 ok106
def t28:Tbl:=[(⟨⟨0,[],0⟩,[.agg c16],[]⟩,i 0,[some c16]),
 (⟨⟨0,[],0⟩,[.agg c54],[]⟩,i 0,[some c54])]
theorem ok28:RK ps17 28 t28:=CN (CN (aW))
def ps18:TL:=(28,t28)::ps17
theorem pk18:MO ps18:=PC pk17 ok28
def t105:Tbl:=[(⟨⟨0,[],0⟩,[.agg c18,c2],[]⟩,i 0,[some c18,some (is [0,0,0,10]),some c16,some c54]),
 (⟨⟨0,[],0⟩,[.agg c13,c2],[]⟩,i 0,[some c13,some (is [0,1,0,10]),some c16,some c54]),
 (⟨⟨0,[],0⟩,[.agg c8,c2],[]⟩,i 0,[some c8,some (is [0,2,0,10]),some c16,some c54]),
 (⟨⟨0,[],0⟩,[.agg c11,c2],[]⟩,i 0,[some c11,some (is [0,2,0,10]),some c16,some c54])]
theorem ok105:RK ps18 105 t105:=CN (CN (CN (CN (aW))))
def ps19:TL:=(105,t105)::ps18
theorem pk19:MO ps19:=PC pk18 ok105
def t313:Tbl:=[(⟨⟨0,[],0⟩,[.agg c16,i 10,r 97],[]⟩,i 10,[some c16]),
 (⟨⟨0,[],0⟩,[.agg c16,i 10,r 98],[]⟩,i 10,[some c16]),
 (⟨⟨0,[],0⟩,[.agg c16,i 10,r 101],[]⟩,i 10,[some c16]),
 (⟨⟨0,[],0⟩,[.agg c16,i 10,r 769],[]⟩,i 0,[some c16])]
theorem ok313:RK ps19 313 t313:=CN (CN (CN (CN (aW))))
def ps20:TL:=(313,t313)::ps19
theorem pk20:MO ps20:=PC pk19 ok313
def t176:Tbl:=[(⟨⟨0,[],0⟩,[.agg c16,i 10],[]⟩,i 3,[some c16])]
theorem ok176:RK ps20 176 t176:=CN (aW)
def ps21:TL:=(176,t176)::ps20
theorem pk21:MO ps21:=PC pk20 ok176
def t175:Tbl:=[(⟨⟨0,[],0⟩,[.agg c16,i 10],[]⟩,i 8,[some c16])]
theorem ok175:RK ps21 175 t175:=CN (aW)
def ps22:TL:=(175,t175)::ps21
theorem pk22:MO ps22:=PC pk21 ok175
def t177:Tbl:=[(⟨⟨0,[],0⟩,[.agg c16,i 10],[]⟩,i 11,[some c16])]
theorem ok177:RK ps22 177 t177:=CN (aW)
def OC:TL:=(177,t177)::ps22
theorem pk23:MO OC:=PC pk22 ok177
def t63:Tbl:=[(⟨⟨0,[],0⟩,[.agg c18,c2],[]⟩,(.tup [.sl 15 0 1 1 10,i 0]),[some c18,some c18,some c34,some [W],some [(.mq [])],some [(.mq [])],some c34,some [W],some c47,some (is [0,0,0,10]),some c49,some c49,some c49,some c51,some c51,some c51]),
 (⟨⟨0,[],0⟩,[.agg c13,c2],[]⟩,(.tup [.sl 17 0 1 1 10,i 0]),[some c13,some c13,some c29,some c52,some [(.mq [c58])],some [(.mq [])],some c29,some c52,some c27,some (is [0,1,0,10]),o,o,some c30,some c30,some c30,some c40,some c40,some c40]),
 (⟨⟨0,[],0⟩,[.agg c8,c2],[]⟩,(.tup [.sl 19 0 1 1 10,i 0]),[some c8,some c8,some c26,some c38,some c65,some c69,some c26,some c38,some c22,some (is [0,2,0,10]),o,N,o,z,some c9,some c9,some c9,some c24,some c24,some c24]),
 (⟨⟨0,[],0⟩,[.agg c11,c2],[]⟩,(.tup [.sl 19 0 1 1 10,i 0]),[some c11,some c11,some c23,some c36,some c66,some [(.mq [])],some c23,some c36,some c21,some (is [0,2,0,10]),o,N,o,z,some c9,some c9,some c9,some c32,some c32,some c32])]
theorem r63x0:RW OC 63 t63 0:=by intro k r hk;cases hk;kernel_rfl
theorem r63x1:RW OC 63 t63 1:=by intro k r hk;cases hk;kernel_rfl
theorem r63x2:RW OC 63 t63 2:=by intro k r hk;cases hk;kernel_rfl
theorem r63x3:RW OC 63 t63 3:=by intro k r hk;cases hk;kernel_rfl
theorem ok63:RK OC 63 t63:=(BU (r63x0 _ _ rfl) (BU (r63x1 _ _ rfl) (BU (r63x2 _ _ rfl) (BU (r63x3 _ _ rfl) aW))))
def OH:TL:=(63,t63)::OC
theorem pk24:MO OH:=PC pk23 ok63
def t10:Tbl:=[(⟨⟨0,[],0⟩,[.nils,.agg c5],[]⟩,(.tup [(.agg [e,e,i 0,i 0,W,W,i 0,i 0,.nils,.nils,i 0,i 0,.nils,.nils,.nils,W,i 0,(i (-1)),(i (-1))]),i 0]),[some c5,some [e,e,i 0,i 0,W,W,i 0,i 0,.nils,.nils,i 0,i 0,.nils,.nils,.nils,W,i 0,(i (-1)),(i (-1))],some [e,e]]),
 (⟨⟨5,[],5⟩,[.sl 4 0 2 2 1,.agg c5],[some c31,some [(.lst [c46]),e,e],some [(.lst [c45]),e,e],some [(.lst [c42,c43]),e,e],some (rs [101,769])]⟩,(.tup [(.agg [rl [101,769],(.lst [is [2,0]]),i 2,i 2,W,W,i 0,i 0,.nils,.nils,i 0,i 0,.nils,.nils,.nils,W,i 0,(i (-1)),(i (-1))]),i 0]),[some c31,some [(.lst [c46]),e,e],some [(.lst [c45]),e,e],some [(.lst [c42,c43]),e,e],some (rs [101,769]),some c5,some [rl [101,769],(.lst [is [2,0]]),i 2,i 2,W,W,i 0,i 0,.nils,.nils,i 0,i 0,.nils,.nils,.nils,W,i 0,(i (-1)),(i (-1))],some [rl [101,769],(.lst [is [2,0]])]])]
theorem r10x0:RW OH 10 t10 0:=by intro k r hk;cases hk;kernel_rfl
theorem r10x1:RW OH 10 t10 1:=by intro k r hk;cases hk;kernel_rfl
theorem ok10:RK OH 10 t10:=(BU (r10x0 _ _ rfl) (BU (r10x1 _ _ rfl) aW))
def OD:TL:=(10,t10)::OH
theorem pk25:MO OD:=PC pk24 ok10
end Aw
end Go.Ab
