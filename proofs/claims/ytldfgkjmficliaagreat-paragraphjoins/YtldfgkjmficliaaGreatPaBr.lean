/- The program: where lines may end, for a whole text. -/
import Derived.Test.YtldfgkjmficliaaGreatPaLd
set_option linter.unusedSimpArgs false
set_option linter.unusedVariables false
namespace Go.Ab
open Go.Proofs
namespace Bi
attribute [local congr] az
def dI(t cl:List Int):List Int:=(List.range t.length).map fun q=>if q+1<t.length then ez (cy t) (clS (cy t)) (mkS (t.length+1) cl) q else 2
theorem iV{t cl:List Int}:(dI t cl).length=t.length:=by simp[dI]
theorem nL{t cl:List Int}{q:Nat}(h:q+1<t.length):(dI t cl)[q]?=some (ez (cy t) (clS (cy t)) (mkS (t.length+1) cl) q):=by
 have h1:q<t.length:=by omega
 simp[dI,h1,h]
theorem mc{t cl:List Int}(h:0<t.length):(dI t cl)[t.length-1]?=some 2:=by
 have h1:t.length-1<t.length:=by omega
 have h2:¬ (t.length-1+1<t.length):=by omega
 simp[dI,h1]
 omega
section
variable {prim:FuncId→Option Prim}(d:Nat)
set_option maxHeartbeats 8000000 in
theorem G4(hp:∀ f,Np5 f→prim f=none)(t:List Int)(ht:t.length≤2000)(cl:List Int)(hcl:∀ x∈cl,0≤x∧x≤t.length)(hcn:cl.length≤4000)(hC:∀ cfg h,af md (K prim (d+4)) cfg 51 [rl t] h=some (il cl,h))(cfg:Cfg)(h:Heap):
  af md (K prim (d+6)) cfg 50 [rl t] h=some (il (dI t cl),h):=by
 refine bo rfl (hp 50 (by decide)) Tryz.func50 rfl rfl rfl (by simp) ?_
 have ht2:¬ (2000:Int)<t.length:=by omega
 have h1:=fun cfg h=>Fa (prim:=prim) d hp t ht cl hcl hcn hC cfg h
 by_cases h0:t=[]
 ·subst h0
  simp
  rfl
 have hpos:0<t.length:=List.length_pos_iff.2 h0
 have h3:=fun cfg h q hq=>zB (prim:=prim) (d+3) hp t.length ht (cy t) (clS (cy t)) (mkS (t.length+1) cl) dC (by rw[nN,dC]) (ly _) q hq cfg h
 generalize hsc:scC (cy t) (clS (cy t)) (mkS (t.length+1) cl)=S at *
 have hS3:S.length=3:=by rw[← hsc];rfl
 have hSt:S.take 3=S:=by rw[← hsc];rfl
 have hSm:isMap S=false:=by rw[← hsc];rfl
 have hSl:S.all V.leaf=true:=by rw[← hsc];rfl
 have hSp:putAt [V.nils,V.nils,V.nils] 0 S=S:=by rw[← hsc];rfl
 have hF:=@iV t cl
 have hz:(List.replicate t.length (0:Int)).length=t.length:=by simp
 simp(disch:=omega)[h0,ht2,h1,kO,hS3,hSl,hSp,-List.map_replicate]
 generalize List.replicate t.length (0:Int)=z0 at *
 have hR:(dI t cl).length=z0.length:=by rw[hF,hz]
 refine aj (fun m fr H=>∃ (q:Nat),q+1≤t.length∧m=t.length-(q+1)∧H=[some S,some (((dI t cl).take q++z0.drop q).map (V.int .i64))] ∧
  Slots 38 [(0,rl t),(3,.ptr 0 0),(4,.sl 1 0 t.length t.length 1),(5,.int .i64 ((q:Int)+1))] fr) (m:=t.length-1) (by omega) ⟨0,by omega,by omega,by simp,by simp⟩ ?_
 rintro m fr H ⟨q,hq,rfl,rfl,hs⟩
 obtain⟨j,rfl⟩:=hs.ex
 clear hs
 have hle:q+1≤t.length:=hq
 have hl1:=@ba _ _ _ hR q
 rw[hz]at hl1
 have hset:=fun x=>dt (x:=x) hR (i:=q)
 by_cases hlt:q+1<t.length
 ·have hI:(q:Int)+1<t.length:=by omega
  have h3':=fun cfg h=>h3 cfg h q hlt
  have hb:=hset _ (nL hlt)
  generalize hA:(dI t cl).take q++z0.drop q=A at *
  simp(disch:=omega)[hI,h3',hle,wrap64,-getElem?_pos,hS3,hSt,hSm,hl1,-List.map_set]
  refine ae (m':=t.length-(q+1+1)) (by omega) ⟨q+1,by omega,by omega,by rw[hb],by simp(disch:=omega)⟩
 ·have hI:¬ (q:Int)+1<t.length:=by omega
  have hql:q=t.length-1:=by omega
  have hb:=hset 2 (by rw[hql];exact mc hpos)
  rw[dq (i:=q+1) hR (by rw[hz];omega)]at hb
  generalize hA:(dI t cl).take q++z0.drop q=A at *
  simp(disch:=omega)[hI,wrap64,-getElem?_pos,hl1,-List.map_set]
  rw[← hql,hb]
  exact ek (h:=[some S,some ((dI t cl).map (V.int .i64))]) (n:=0) (b:=1) (len:=t.length) (cap:=t.length) (d:=4) (k:=.i64) (l:=dI t cl) (by simp[ab]) (Nat.zero_le _) hF
end
end Bi
end Go.Ab
