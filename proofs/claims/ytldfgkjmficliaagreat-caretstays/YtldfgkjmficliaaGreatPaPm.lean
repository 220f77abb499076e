/- The parts of the evaluator for the laws of paragraphs. -/
import Derived.Test.YtldfgkjmficliaaGreatPaLq
import Derived.Test.YtldfgkjmficliaaGreatPaVa4
import Derived.Test.YtldfgkjmficliaaGreatPaW
import Derived.Test.YtldfgkjmficliaaGreatAbClone
set_option linter.all false
namespace Go.Ab
open Go.Proofs Go.Proofs.Tryz
namespace Bi
noncomputable def pS(f:FuncId):Option Prim:=if f=17 then some (oe t17) else if f=168 then some (lh 169 fbS) else none
theorem zM(f:FuncId)(hf:Np2 f):pS f=none:=by
 unfold Np2 C6 at hf;simp only[Bool.or_eq_false_iff,beq_eq_false_iff_ne]at hf;unfold pS;rw[if_neg (by intro e;subst e;revert hf;decide),if_neg (by intro e;subst e;revert hf;decide)]
theorem Hz:∀ f p,pS f=some p->cM prog f p:=by
 intro f p h;unfold pS at h;split at h
 ·rename_i hf;cases h;subst hf;exact pk39 17 _ (by rw[show ps39=(17,t17)::DL from rfl];exact Lv ..)
 ·split at h
  ·rename_i hf;cases h;subst hf;exact wL hfol hnam
  ·cases h
def md0(f:FuncId):Nat:=if f=103 then 2 else md f
def Dw:List V->Bool
 | [.lst [],.int .i64 _]=>true
 | _=>false
noncomputable def pLv:Prim:=fun cfg args h=>if Dw args then aN prog md0 (fun _=>none) 10000 40 cfg 68 args h else aN prog md pS 10000 40 cfg 68 args h
theorem Jw:cM prog 68 pLv:=by
 intro cfg args h r h' hx;unfold pLv at hx;split at hx
 ·exact ee hfol hnam (fun _ _ h=>by cases h) 40 _ _ _ _ _ _ hx
 ·exact ee hfol hnam Hz 40 _ _ _ _ _ _ hx
noncomputable def pCb:Prim:=fun cfg args h=>aN prog md (fun _=>none) 10000 30 cfg 100 args h
noncomputable def pCn:Prim:=pO pCb
theorem Jv:cM prog 100 pCn:=by
 refine AI (fun _ _ _ _ _ hx=>ee hfol hnam (fun _ _ h=>by cases h) 30 _ _ _ _ _ _ hx) (b2:=1) (h2':=[none,some []]) ?_ ?_
 ·kernel_rfl
 ·kernel_rfl
noncomputable def pZ(f:FuncId):Option Prim:=if f=68 then some pLv else if f=100 then some pCn else if f=174 then some (gw 8 64) else pS f
theorem pZ_ok:∀ f p,pZ f=some p->cM prog f p:=by
 intro f p h;unfold pZ at h;split at h
 ·rename_i hf;cases h;subst hf;exact Jw
 ·split at h
  ·rename_i hf;cases h;subst hf;exact Jv
  ·split at h
   ·rename_i hf;cases h;subst hf;exact vA
   ·exact Hz f p h
theorem cH(f:FuncId)(hf:Np5 f):pZ f=none:=by
 have h2:=yc hf;unfold pZ;rw[if_neg (by intro e;subst e;revert hf;decide),if_neg (by intro e;subst e;revert hf;decide),if_neg (by intro e;subst e;revert hf;decide)];exact zM f h2
theorem dq{P:Program}{md':FuncId->Nat}{prim:FuncId->Option Prim}{n d:Nat}{f:FuncId}{p:Prim}(h:prim f=some p)(cfg:Cfg)(args:List V)(H:Heap):aN P md' prim n (d+1) cfg f args H=p cfg args H:=by
 simp only[aN,h]
theorem DC:pZ 67=none:=by
 unfold pZ;rw[if_neg (by decide),if_neg (by decide),if_neg (by decide)];unfold pS;rw[if_neg (by decide),if_neg (by decide)]
theorem Ge:pZ 174=some (gw 8 64):=rfl
theorem DB:pZ 68=some pLv:=rfl
theorem DA:pZ 100=some pCn:=rfl
theorem HU(d:Nat)(cfg:Cfg)(h:Heap):af md (K pZ (d+1)) cfg 17 [] h=some (.bool true,h):=by kernel_rfl
theorem Cp(d:Nat)(cfg:Cfg)(H:Heap)(l:List Int)(h0:cfg.lo<=H.length)(hl:l≠[])(h3:l.length<=2000):af md (K pZ (d+1)) cfg 100 [il l] H=some (.sl (H.length+1) 0 l.length l.length 1,H++[none,some (l.map (V.int .i64))]):=by
 have h1:=AG (prim:=fun _=>none) 29 rfl cfg H h0 l hl h3;have hm:md 100=2:=rfl;have hne:(l.map fun n=>[V.int .i64 n])≠[]:=by simpa using hl
 simp only[af,hm]at h1 ⊢;exact (dq DA _ _ _).trans ((AH hne).trans h1)
theorem yU(d:Nat)(cfg:Cfg)(H:Heap):af md (K pZ (d+1)) cfg 100 [.lst []] H=some (.lst [],H):=by
 have hm:md 100=2:=rfl;simp only[af,hm];exact (dq DA _ _ _).trans rfl
def C5:Option (V×Heap)->Bool
 | some (r,h)=>own h 6 r&&(match frz h 0 6 r with
  | some (.lst [])=>true
  | _=>false)
 | none=>false
theorem no_m1:C5 (aN prog md0 (fun _=>none) 10000 40 ⟨0,[],0⟩ 68 [.lst [],.int .i64 (-1)] [])=true:=by kernel_rfl
theorem no_0:C5 (aN prog md0 (fun _=>none) 10000 40 ⟨0,[],0⟩ 68 [.lst [],.int .i64 0] [])=true:=by kernel_rfl
theorem no_1:C5 (aN prog md0 (fun _=>none) 10000 40 ⟨0,[],0⟩ 68 [.lst [],.int .i64 1] [])=true:=by kernel_rfl
theorem zB(t:List Int)(ht:t.length<=2000)(base:Int)(hb:-1<=base/\base<=1):
  ∃ r,(∀ (d:Nat) (cfg:Cfg) (h:Heap),af md (K pZ (d+1)) cfg 68 [rl t,.int .i64 base] h=some (il r,h))/\r.length=t.length/\∀ x∈r,0<=x/\x<=127:=by
 have hm:md 68=3:=rfl;by_cases hne:t=[]
 ·subst hne;refine⟨[],fun d cfg h=>?_,rfl,fun x h=>by cases h⟩;have h0:C5 (aN prog md0 (fun _=>none) 10000 40 ⟨0,[],0⟩ 68 [.lst [],.int .i64 base] [])=true:=by
   have:base=-1\/base=0\/base=1:=by omega
   rcases this with rfl|rfl|rfl
   ·exact no_m1
   ·exact no_0
   ·exact no_1
  have hK:K pZ (d+1) ⟨0,[],0⟩ 68 [.lst [],.int .i64 base] []=aN prog md0 (fun _=>none) 10000 40 ⟨0,[],0⟩ 68 [.lst [],.int .i64 base] []:=by
   refine (dq DB _ _ _).trans ?_;unfold pLv;exact if_pos rfl
  have ha:[rl [],V.int .i64 base].mapM (frzA h)=some [.lst [],.int .i64 base]:=by simp
  generalize aN prog md0 (fun _=>none) 10000 40 ⟨0,[],0⟩ 68 [.lst [],.int .i64 base] []=x at h0 hK;unfold C5 at h0;split at h0
  ·rename_i r h';rw[Lq]at h0;obtain⟨h2,h3⟩:=h0;split at h3
   ·rename_i hf;simp only[af,hm,ha,hK,h2,hf,if_true];rfl
   ·cases h3
  ·cases h0
 ·obtain⟨r',h',h1,h2,r,h3,h4⟩:=A9 (prim:=pS) 32 zM rfl t ht hne base;refine⟨r,fun d cfg h=>?_,F0 h4⟩;have h6:Dw [rl t,.int .i64 base]=false:=by
   cases t with
   | nil=>exact absurd rfl hne
   | cons a t=>rfl
  have hp:pLv ⟨0,[],0⟩ [rl t,.int .i64 base] []=some (r',h'):=by
   unfold pLv;rw[if_neg (by rw[h6];simp)];exact h1
  have hK:K pZ (d+1) ⟨0,[],0⟩ 68 [rl t,.int .i64 base] []=some (r',h'):=(dq DB _ _ _).trans hp;have ha:[rl t,V.int .i64 base].mapM (frzA h)=some [rl t,.int .i64 base]:=by simp
  simp only[af,hm,ha,hK,h2,h3,if_true]
end Bi
end Go.Ab
