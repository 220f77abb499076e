/- The parts of the evaluator for the laws of paragraphs. -/
import Derived.Test.YtldfgkjmficliaaGreatPaLq
import Derived.Test.YtldfgkjmficliaaGreatPaVa3
import Derived.Test.YtldfgkjmficliaaGreatPaVa4
import Derived.Test.YtldfgkjmficliaaGreatPiLev
import Derived.Test.YtldfgkjmficliaaGreatAbMemo
import Derived.Test.YtldfgkjmficliaaGreatPaW
import Derived.Test.YtldfgkjmficliaaGreatAbClone
set_option linter.unusedSimpArgs false
set_option linter.unusedVariables false
namespace Go.Ab
open Go.Proofs Go.Proofs.Tryz
namespace Bi
noncomputable def pS(f:FuncId):Option Prim:=if f=10 then some (jd t10) else if f=168 then some (kg 169 fbS) else none
theorem yT(f:FuncId)(hf:Np2 f):pS f=none:=by
 unfold Np2 Ce at hf
 simp only[Bool.or_eq_false_iff,beq_eq_false_iff_ne]at hf
 unfold pS
 rw[if_neg (by intro e;subst e;revert hf;decide),if_neg (by intro e;subst e;revert hf;decide)]
theorem CO:∀ f p,pS f=some p→cj prog f p:=by
 intro f p h
 unfold pS at h
 split at h
 ·rename_i hf
  cases h
  subst hf
  exact pk36 10 _ (by rw[show ps36=(10,t10)::C4 from rfl];exact List.mem_cons_self ..)
 ·split at h
  ·rename_i hf
   cases h
   subst hf
   exact vJ cG cH
  ·cases h
def md0(f:FuncId):Nat:=if f=103 then 2 else md f
def Cz:List V→Bool
 | [.lst [],.int .i64 _]=>true
 | _=>false
noncomputable def pLv:Prim:=fun cfg args h=>if Cz args then aI prog md0 (fun _=>none) 10000 40 cfg 68 args h else aI prog md pS 10000 40 cfg 68 args h
theorem Ip:cj prog 68 pLv:=by
 intro cfg args h r h' hx
 unfold pLv at hx
 split at hx
 ·exact dz cG cH (fun _ _ h=>by cases h) 40 _ _ _ _ _ _ hx
 ·exact dz cG cH CO 40 _ _ _ _ _ _ hx
noncomputable def pCb:Prim:=fun cfg args h=>aI prog md (fun _=>none) 10000 30 cfg 100 args h
noncomputable def pCn:Prim:=oQ pCb
theorem Io:cj prog 100 pCn:=by
 refine zH (fun _ _ _ _ _ hx=>dz cG cH (fun _ _ h=>by cases h) 30 _ _ _ _ _ _ hx) (b2:=1) (h2':=[none,some []]) ?_ ?_
 ·kernel_rfl
 ·kernel_rfl
noncomputable def pZ(f:FuncId):Option Prim:=if f=68 then some pLv else if f=100 then some pCn else if f=174 then some (fQ 8 64) else pS f
theorem pZ_ok:∀ f p,pZ f=some p→cj prog f p:=by
 intro f p h
 unfold pZ at h
 split at h
 ·rename_i hf
  cases h
  subst hf
  exact Ip
 ·split at h
  ·rename_i hf
   cases h
   subst hf
   exact Io
  ·split at h
   ·rename_i hf
    cases h
    subst hf
    exact uC
   ·exact CO f p h
theorem lI(f:FuncId)(hf:Np5 f):pZ f=none:=by
 have h2:=xn hf
 unfold pZ
 rw[if_neg (by intro e;subst e;revert hf;decide),if_neg (by intro e;subst e;revert hf;decide),if_neg (by intro e;subst e;revert hf;decide)]
 exact yT f h2
theorem cM{P:Program}{md':FuncId→Nat}{prim:FuncId→Option Prim}{n d:Nat}{f:FuncId}{p:Prim}(h:prim f=some p)(cfg:Cfg)(args:List V)(H:Heap):aI P md' prim n (d+1) cfg f args H=p cfg args H:=by
 simp only[aI,h]
theorem Iq:pZ 67=none:=by
 unfold pZ
 rw[if_neg (by decide),if_neg (by decide),if_neg (by decide)]
 unfold pS
 rw[if_neg (by decide),if_neg (by decide)]
theorem Fu:pZ 174=some (fQ 8 64):=rfl
theorem CQ:pZ 68=some pLv:=rfl
theorem CP:pZ 100=some pCn:=rfl
theorem G0(d:Nat)(cfg:Cfg)(h:Heap):af md (K pZ (d+1)) cfg 10 [] h=some (.bool true,h):=by kernel_rfl
theorem G8(d:Nat)(cfg:Cfg)(H:Heap)(l:List Int)(hlo:cfg.lo≤H.length)(hl:l≠[])(hll:l.length≤2000):af md (K pZ (d+1)) cfg 100 [il l] H=some (.sl (H.length+1) 0 l.length l.length 1,H++[none,some (l.map (V.int .i64))]):=by
 have h1:=zF (prim:=fun _=>none) 29 rfl cfg H hlo l hl hll
 have hm:md 100=2:=rfl
 have hne:(l.map fun n=>[V.int .i64 n])≠[]:=by simpa using hl
 simp only[af,hm]at h1 ⊢
 exact (cM CP _ _ _).trans ((zG hne).trans h1)
theorem Ej(d:Nat)(cfg:Cfg)(H:Heap):af md (K pZ (d+1)) cfg 100 [.lst []] H=some (.lst [],H):=by
 have hm:md 100=2:=rfl
 simp only[af,hm]
 exact (cM CP _ _ _).trans rfl
def Cd:Option (V×Heap)→Bool
 | some (r,h)=>own h 6 r&&(match frz h 0 6 r with
  | some (.lst [])=>true
  | _=>false)
 | none=>false
theorem no_m1:Cd (aI prog md0 (fun _=>none) 10000 40 ⟨0,[],0⟩ 68 [.lst [],.int .i64 (-1)] [])=true:=by kernel_rfl
theorem no_0:Cd (aI prog md0 (fun _=>none) 10000 40 ⟨0,[],0⟩ 68 [.lst [],.int .i64 0] [])=true:=by kernel_rfl
theorem no_1:Cd (aI prog md0 (fun _=>none) 10000 40 ⟨0,[],0⟩ 68 [.lst [],.int .i64 1] [])=true:=by kernel_rfl
theorem yF(t:List Int)(ht:t.length≤2000)(base:Int)(hb:-1≤base∧base≤1):
  ∃ r,(∀ (d:Nat) (cfg:Cfg) (h:Heap),af md (K pZ (d+1)) cfg 68 [rl t,.int .i64 base] h=some (il r,h))∧r.length=t.length:=by
 have hm:md 68=3:=rfl
 by_cases hne:t=[]
 ·subst hne
  refine⟨[],fun d cfg h=>?_,rfl⟩
  have hno:Cd (aI prog md0 (fun _=>none) 10000 40 ⟨0,[],0⟩ 68 [.lst [],.int .i64 base] [])=true:=by
   have:base=-1∨base=0∨base=1:=by omega
   rcases this with rfl|rfl|rfl
   ·exact no_m1
   ·exact no_0
   ·exact no_1
  have hK:K pZ (d+1) ⟨0,[],0⟩ 68 [.lst [],.int .i64 base] []=aI prog md0 (fun _=>none) 10000 40 ⟨0,[],0⟩ 68 [.lst [],.int .i64 base] []:=by
   refine (cM CQ _ _ _).trans ?_
   unfold pLv
   exact if_pos rfl
  have ha:[rl [],V.int .i64 base].mapM (frzA h)=some [.lst [],.int .i64 base]:=by simp
  generalize aI prog md0 (fun _=>none) 10000 40 ⟨0,[],0⟩ 68 [.lst [],.int .i64 base] []=x at hno hK
  unfold Cd at hno
  split at hno
  ·rename_i r h'
   rw[Bool.and_eq_true]at hno
   obtain⟨h2,h3⟩:=hno
   split at h3
   ·rename_i hf
    simp only[af,hm,ha,hK,h2,hf,if_true]
    rfl
   ·cases h3
  ·cases hno
 ·obtain⟨r',h',h1,h2,r,h3,h4⟩:=Al (prim:=pS) 32 yT rfl t ht hne base
  refine⟨r,fun d cfg h=>?_,(Ff h4).1⟩
  have hnt:Cz [rl t,.int .i64 base]=false:=by
   cases t with
   | nil=>exact absurd rfl hne
   | cons a t=>rfl
  have hp:pLv ⟨0,[],0⟩ [rl t,.int .i64 base] []=some (r',h'):=by
   unfold pLv
   rw[if_neg (by rw[hnt];simp)]
   exact h1
  have hK:K pZ (d+1) ⟨0,[],0⟩ 68 [rl t,.int .i64 base] []=some (r',h'):=(cM CQ _ _ _).trans hp
  have ha:[rl t,V.int .i64 base].mapM (frzA h)=some [rl t,.int .i64 base]:=by simp
  simp only[af,hm,ha,hK,h2,h3,if_true]
end Bi
end Go.Ab
