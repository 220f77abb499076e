/- The parts of the evaluator for the laws of paragraphs. -/
import Derived.Test.YteddnfbjjbcmgaaGreatPaLq
import Derived.Test.YteddnfbjjbcmgaaGreatPaVa3
import Derived.Test.YteddnfbjjbcmgaaGreatPaVa4
import Derived.Test.YteddnfbjjbcmgaaGreatPiLev
import Derived.Test.YteddnfbjjbcmgaaGreatAbMemo
import Derived.Test.YteddnfbjjbcmgaaGreatPaW
import Derived.Test.YteddnfbjjbcmgaaGreatAbClone
set_option linter.unusedSimpArgs false
set_option linter.unusedVariables false
namespace Go.Ab
open Go.Proofs Go.Proofs.Tryz
namespace Bi
noncomputable def pS(f:FuncId):Option Prim:=if f=17 then some (nL t17) else if f=140 then some (kK 141 fbS) else none
theorem zF(f:FuncId)(hf:Np2 f):pS f=none:=by
 unfold Np2 CT at hf
 simp only[Bool.or_eq_false_iff,beq_eq_false_iff_ne]at hf
 unfold pS
 rw[if_neg (by intro e;subst e;revert hf;decide),if_neg (by intro e;subst e;revert hf;decide)]
theorem Hl:∀ f p,pS f=some p→cR prog f p:=by
 intro f p h
 unfold pS at h
 split at h
 ·rename_i hf
  cases h
  subst hf
  exact pk36 17 _ (by rw[show ps36=(17,t17)::Dx from rfl];exact List.mem_cons_self ..)
 ·split at h
  ·rename_i hf
   cases h
   subst hf
   exact wM hfol hnam
  ·cases h
def md0(f:FuncId):Nat:=if f=99 then 2 else md f
def Dc:List V→Bool
 | [.lst [],.int .i64 _]=>true
 | _=>false
noncomputable def pLv:Prim:=fun cfg args h=>if Dc args then aF prog md0 (fun _=>none) 10000 40 cfg 81 args h else aF prog md pS 10000 40 cfg 81 args h
theorem I0:cR prog 81 pLv:=by
 intro cfg args h r h' hx
 unfold pLv at hx
 split at hx
 ·exact fZ hfol hnam (fun _ _ h=>by cases h) 40 _ _ _ _ _ _ hx
 ·exact fZ hfol hnam Hl 40 _ _ _ _ _ _ hx
noncomputable def pCb:Prim:=fun cfg args h=>aF prog md (fun _=>none) 10000 30 cfg 102 args h
noncomputable def pCn:Prim:=pk pCb
theorem IZ:cR prog 102 pCn:=by
 refine Aq (fun _ _ _ _ _ hx=>fZ hfol hnam (fun _ _ h=>by cases h) 30 _ _ _ _ _ _ hx) (b2:=1) (h2':=[none,some []]) ?_ ?_
 ·kernel_rfl
 ·kernel_rfl
noncomputable def pZ(f:FuncId):Option Prim:=if f=81 then some pLv else if f=102 then some pCn else if f=145 then some (gg 8 64) else pS f
theorem pZ_ok:∀ f p,pZ f=some p→cR prog f p:=by
 intro f p h
 unfold pZ at h
 split at h
 ·rename_i hf
  cases h
  subst hf
  exact I0
 ·split at h
  ·rename_i hf
   cases h
   subst hf
   exact IZ
  ·split at h
   ·rename_i hf
    cases h
    subst hf
    exact vz
   ·exact Hl f p h
theorem aV(f:FuncId)(hf:Np5 f):pZ f=none:=by
 have h2:=yc hf
 unfold pZ
 rw[if_neg (by intro e;subst e;revert hf;decide),if_neg (by intro e;subst e;revert hf;decide),if_neg (by intro e;subst e;revert hf;decide)]
 exact zF f h2
theorem iE{P:Program}{md':FuncId→Nat}{prim:FuncId→Option Prim}{n d:Nat}{f:FuncId}{p:Prim}(h:prim f=some p)(cfg:Cfg)(args:List V)(H:Heap):aF P md' prim n (d+1) cfg f args H=p cfg args H:=by
 simp only[aF,h]
theorem I1:pZ 82=none:=by
 unfold pZ
 rw[if_neg (by decide),if_neg (by decide),if_neg (by decide)]
 unfold pS
 rw[if_neg (by decide),if_neg (by decide)]
theorem F2:pZ 145=some (gg 8 64):=rfl
theorem Di:pZ 81=some pLv:=rfl
theorem Dh:pZ 102=some pCn:=rfl
theorem mG(d:Nat)(cfg:Cfg)(h:Heap):af md (K pZ (d+1)) cfg 17 [] h=some (.bool true,h):=by kernel_rfl
theorem HO(d:Nat)(cfg:Cfg)(H:Heap)(l:List Int)(hlo:cfg.lo≤H.length)(hl:l≠[])(hll:l.length≤2000):af md (K pZ (d+1)) cfg 102 [il l] H=some (.sl (H.length+1) 0 l.length l.length 1,H++[none,some (l.map (V.int .i64))]):=by
 have h1:=Am (prim:=fun _=>none) 29 rfl cfg H hlo l hl hll
 have hm:md 102=2:=rfl
 have hne:(l.map fun n=>[V.int .i64 n])≠[]:=by simpa using hl
 simp only[af,hm]at h1 ⊢
 exact (iE Dh _ _ _).trans ((Ao hne).trans h1)
theorem EO(d:Nat)(cfg:Cfg)(H:Heap):af md (K pZ (d+1)) cfg 102 [.lst []] H=some (.lst [],H):=by
 have hm:md 102=2:=rfl
 simp only[af,hm]
 exact (iE Dh _ _ _).trans rfl
def CS:Option (V×Heap)→Bool
 | some (r,h)=>own h 6 r&&(match frz h 0 6 r with
  | some (.lst [])=>true
  | _=>false)
 | none=>false
theorem no_m1:CS (aF prog md0 (fun _=>none) 10000 40 ⟨0,[],0⟩ 81 [.lst [],.int .i64 (-1)] [])=true:=by kernel_rfl
theorem no_0:CS (aF prog md0 (fun _=>none) 10000 40 ⟨0,[],0⟩ 81 [.lst [],.int .i64 0] [])=true:=by kernel_rfl
theorem no_1:CS (aF prog md0 (fun _=>none) 10000 40 ⟨0,[],0⟩ 81 [.lst [],.int .i64 1] [])=true:=by kernel_rfl
theorem zr(t:List Int)(ht:t.length≤2000)(base:Int)(hb:-1≤base∧base≤1):
  ∃ r,(∀ (d:Nat) (cfg:Cfg) (h:Heap),af md (K pZ (d+1)) cfg 81 [rl t,.int .i64 base] h=some (il r,h))∧r.length=t.length:=by
 have hm:md 81=3:=rfl
 by_cases hne:t=[]
 ·subst hne
  refine⟨[],fun d cfg h=>?_,rfl⟩
  have hno:CS (aF prog md0 (fun _=>none) 10000 40 ⟨0,[],0⟩ 81 [.lst [],.int .i64 base] [])=true:=by
   have:base=-1∨base=0∨base=1:=by omega
   rcases this with rfl|rfl|rfl
   ·exact no_m1
   ·exact no_0
   ·exact no_1
  have hK:K pZ (d+1) ⟨0,[],0⟩ 81 [.lst [],.int .i64 base] []=aF prog md0 (fun _=>none) 10000 40 ⟨0,[],0⟩ 81 [.lst [],.int .i64 base] []:=by
   refine (iE Di _ _ _).trans ?_
   unfold pLv
   exact if_pos rfl
  have ha:[rl [],V.int .i64 base].mapM (frzA h)=some [.lst [],.int .i64 base]:=by simp
  generalize aF prog md0 (fun _=>none) 10000 40 ⟨0,[],0⟩ 81 [.lst [],.int .i64 base] []=x at hno hK
  unfold CS at hno
  split at hno
  ·rename_i r h'
   rw[Bool.and_eq_true]at hno
   obtain⟨h2,h3⟩:=hno
   split at h3
   ·rename_i hf
    simp only[af,hm,ha,hK,h2,hf,if_true]
    rfl
   ·cases h3
  ·cases hno
 ·obtain⟨r',h',h1,h2,r,h3,h4⟩:=AV (prim:=pS) 32 zF rfl t ht hne base
  refine⟨r,fun d cfg h=>?_,(FK h4).1⟩
  have hnt:Dc [rl t,.int .i64 base]=false:=by
   cases t with
   | nil=>exact absurd rfl hne
   | cons a t=>rfl
  have hp:pLv ⟨0,[],0⟩ [rl t,.int .i64 base] []=some (r',h'):=by
   unfold pLv
   rw[if_neg (by rw[hnt];simp)]
   exact h1
  have hK:K pZ (d+1) ⟨0,[],0⟩ 81 [rl t,.int .i64 base] []=some (r',h'):=(iE Di _ _ _).trans hp
  have ha:[rl t,V.int .i64 base].mapM (frzA h)=some [rl t,.int .i64 base]:=by simp
  simp only[af,hm,ha,hK,h2,h3,if_true]
end Bi
end Go.Ab
