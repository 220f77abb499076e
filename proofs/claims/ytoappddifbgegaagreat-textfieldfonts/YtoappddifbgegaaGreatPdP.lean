/- The parts of the evaluator for the layout of a text field. -/
import Derived.Test.YtoappddifbgegaaGreatPaLq
import Derived.Test.YtoappddifbgegaaGreatPaVa4
import Derived.Test.YtoappddifbgegaaGreatPbW
import Derived.Test.YtoappddifbgegaaGreatAbMono
set_option linter.all false
namespace Go.Ab
open Go.Proofs Go.Proofs.Tryz
open Aw (hfol hnam)
namespace Bi
noncomputable def pS(f:FuncId):Option Prim:=if f=13 then some (kS Aw.t13) else if f=324 then some (lj 325 fbS) else none
theorem zY(f:FuncId)(hf:Np2 f):pS f=none:=by
 unfold Np2 Du at hf;simp only[MR,beq_eq_false_iff_ne]at hf;unfold pS;rw[if_neg (by intro e;subst e;revert hf;decide),if_neg (by intro e;subst e;revert hf;decide)]
theorem HU:∀ f p,pS f=some p->bw prog f p:=by
 intro f p h;unfold pS at h;split at h
 ·rename_i hf;cases h;subst hf;exact Aw.pk30 _ _ Ll
 ·split at h
  ·rename_i hf;cases h;subst hf;exact xa hfol hnam
  ·cases h
def md0(f:FuncId):Nat:=if f=276 then 2 else md f
def DQ:List V->Bool
 | [.lst [],.int .i64 _]=>true
 | _=>false
noncomputable def pLv:Prim:=fun cfg args h=>if DQ args then aH prog md0 (fun _=>none) 10000 40 cfg 236 args h else aH prog md pS 10000 40 cfg 236 args h
theorem Jz:bw prog 236 pLv:=by
 intro cfg args h r h' hx;unfold pLv at hx;split at hx
 ·exact dx hfol hnam (fun _ _ h=>by cases h) 40 _ _ _ _ _ _ hx
 ·exact dx hfol hnam HU 40 _ _ _ _ _ _ hx
noncomputable def pCb:Prim:=fun cfg args h=>aH prog md (fun _=>none) 10000 30 cfg 279 args h
noncomputable def pCn:Prim:=ed pCb
theorem Jy:bw prog 279 pCn:=by
 refine fM (fun _ _ _ _ _ hx=>dx hfol hnam (fun _ _ h=>by cases h) 30 _ _ _ _ _ _ hx) (b2:=1) (k:=1) (h2':=[none,some []]) ?_ ?_
 ·kernel_rfl
 ·kernel_rfl
noncomputable def pZ(f:FuncId):Option Prim:=if f=236 then some pLv else if f=279 then some pCn else if f=329 then some (gj 8 64) else if f=61 then some (ed clR) else pS f
theorem Iy:bw prog 61 (ed clR):=by
 refine fM (fun _ _ _ _ _ hx=>dx hfol hnam (fun _ _ h=>by cases h) 30 _ _ _ _ _ _ hx) (b2:=1) (k:=1) (h2':=[none,some []]) ?_ ?_
 ·kernel_rfl
 ·kernel_rfl
theorem pZ_ok:∀ f p,pZ f=some p->bw prog f p:=by
 intro f p h;unfold pZ at h;split at h
 ·rename_i hf;cases h;subst hf;exact Jz
 ·split at h
  ·rename_i hf;cases h;subst hf;exact Jy
  ·split at h
   ·rename_i hf;cases h;subst hf;exact vI
   ·split at h
    ·rename_i hf;cases h;subst hf;exact Iy
    ·exact HU f p h
theorem dS(f:FuncId)(hf:Np5 f):pZ f=none:=by
 have h2:=yt hf;unfold pZ;rw[if_neg (by intro e;subst e;revert hf;decide),if_neg (by intro e;subst e;revert hf;decide),if_neg (by intro e;subst e;revert hf;decide),if_neg (by intro e;subst e;revert hf;decide)];exact zY f h2
theorem gb{P:Program}{md':FuncId->Nat}{prim:FuncId->Option Prim}{n d:Nat}{f:FuncId}{p:Prim}(h:prim f=some p)(cfg:Cfg)(args:List V)(H:Heap):aH P md' prim n (d+1) cfg f args H=p cfg args H:=by
 simp only[aH,h]
theorem JB:pZ 237=none:=by
 unfold pZ;rw[if_neg (by decide),if_neg (by decide),if_neg (by decide),if_neg (by decide)];unfold pS;rw[if_neg (by decide),if_neg (by decide)]
theorem Gw:pZ 329=some (gj 8 64):=rfl
theorem JA:pZ 61=some (ed clR):=rfl
theorem DV:pZ 236=some pLv:=rfl
theorem DU:pZ 279=some pCn:=rfl
theorem Il(d:Nat)(cfg:Cfg)(h:Heap):af md (K pZ (d+1)) cfg 13 [] h=some (.bool true,h):=by kernel_rfl
theorem Iz(d:Nat)(cfg:Cfg)(H:Heap)(l:List Int)(h0:cfg.lo<=H.length)(hl:l≠[])(h3:l.length<=2000):af md (K pZ (d+1)) cfg 279 [il l] H=some (.sl (H.length+1) 0 l.length l.length 1,H++[none,some (l.map (V.int .i64))]):=by
 have h1:=A0 (prim:=fun _=>none) 29 rfl cfg H h0 l hl h3;have hm:md 279=2:=rfl;have hne:(l.map fun n=>[V.int .i64 n])≠[]:=by simpa using hl
 simp only[af,hm]at h1 ⊢;exact (gb DU _ _ _).trans ((sr hne).trans h1)
theorem Ft(d:Nat)(cfg:Cfg)(H:Heap):af md (K pZ (d+1)) cfg 279 [.lst []] H=some (.lst [],H):=by
 have hm:md 279=2:=rfl;simp only[af,hm];exact (gb DU _ _ _).trans rfl
def Dt:Option (V×Heap)->Bool
 | some (r,h)=>own h 6 r&&(match frz h 0 6 r with
  | some (.lst [])=>true
  | _=>false)
 | none=>false
theorem no_m1:Dt (aH prog md0 (fun _=>none) 10000 40 ⟨0,[],0⟩ 236 [.lst [],.int .i64 (-1)] [])=true:=by kernel_rfl
theorem no_0:Dt (aH prog md0 (fun _=>none) 10000 40 ⟨0,[],0⟩ 236 [.lst [],.int .i64 0] [])=true:=by kernel_rfl
theorem no_1:Dt (aH prog md0 (fun _=>none) 10000 40 ⟨0,[],0⟩ 236 [.lst [],.int .i64 1] [])=true:=by kernel_rfl
theorem zR(t:List Int)(ht:t.length<=2000)(base:Int)(hb:-1<=base/\base<=1):
  ∃ r,(∀ (d:Nat) (cfg:Cfg) (h:Heap),af md (K pZ (d+1)) cfg 236 [rl t,.int .i64 base] h=some (il r,h))/\r.length=t.length/\∀ x∈r,0<=x/\x<=127:=by
 have hm:md 236=3:=rfl;by_cases hne:t=[]
 ·subst hne;refine⟨[],fun d cfg h=>?_,rfl,fun x h=>by cases h⟩;have h0:Dt (aH prog md0 (fun _=>none) 10000 40 ⟨0,[],0⟩ 236 [.lst [],.int .i64 base] [])=true:=by
   have:base=-1\/base=0\/base=1:=by omega
   rcases this with rfl|rfl|rfl
   ·exact no_m1
   ·exact no_0
   ·exact no_1
  have hK:K pZ (d+1) ⟨0,[],0⟩ 236 [.lst [],.int .i64 base] []=aH prog md0 (fun _=>none) 10000 40 ⟨0,[],0⟩ 236 [.lst [],.int .i64 base] []:=by
   refine (gb DV _ _ _).trans ?_;unfold pLv;exact if_pos rfl
  have ha:[rl [],V.int .i64 base].mapM (frzA h)=some [.lst [],.int .i64 base]:=by simp
  generalize aH prog md0 (fun _=>none) 10000 40 ⟨0,[],0⟩ 236 [.lst [],.int .i64 base] []=x at h0 hK;unfold Dt at h0;split at h0
  ·rename_i r h';rw[Ld]at h0;obtain⟨h2,h3⟩:=h0;split at h3
   ·rename_i hf;simp only[af,hm,ha,hK,h2,hf,if_true];rfl
   ·cases h3
  ·cases h0
 ·obtain⟨r',h',h1,h2,r,h3,h4⟩:=Bu (prim:=pS) 32 zY rfl t ht hne base;refine⟨r,fun d cfg h=>?_,Gg h4⟩;have h6:DQ [rl t,.int .i64 base]=false:=by
   cases t with
   | nil=>exact absurd rfl hne
   | cons a t=>rfl
  have hp:pLv ⟨0,[],0⟩ [rl t,.int .i64 base] []=some (r',h'):=by
   unfold pLv;rw[if_neg (by rw[h6];simp)];exact h1
  have hK:K pZ (d+1) ⟨0,[],0⟩ 236 [rl t,.int .i64 base] []=some (r',h'):=(gb DV _ _ _).trans hp;have ha:[rl t,V.int .i64 base].mapM (frzA h)=some [rl t,.int .i64 base]:=by simp
  simp only[af,hm,ha,hK,h2,h3,if_true]
end Bi
end Go.Ab
