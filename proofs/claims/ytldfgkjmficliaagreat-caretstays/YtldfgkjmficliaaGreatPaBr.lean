/- The program: where lines may end, for a whole text. -/
import Derived.Test.YtldfgkjmficliaaGreatPaLd
set_option linter.all false
set_option maxHeartbeats 8000000
namespace Go.Ab
open Go.Proofs
namespace Bi
attribute [local congr] aw
def iK(t cl:List Int):List Int:=(List.range t.length).map fun q=>if q+1<t.length then fQ (dD t) (clS (dD t)) (mkS (t.length+1) cl) q else 2
theorem lS{t cl:List Int}:(iK t cl).length=t.length:=by simp[iK]
theorem yP{t cl:List Int}{q:Nat}(h:q+1<t.length):(iK t cl)[q]?=some (fQ (dD t) (clS (dD t)) (mkS (t.length+1) cl) q):=by
 have h1:q<t.length:=by omega
 simp[iK,h1,h]
theorem rV{t cl:List Int}(h:0<t.length):(iK t cl)[t.length-1]?=some 2:=by
 have h1:t.length-1<t.length:=by omega
 have h2:¬ (t.length-1+1<t.length):=by omega
 simp[iK,h1];omega
section
variable {prim:FuncId->Option Prim}(d:Nat)
theorem Cd(hp:∀ f,Np5 f->prim f=none)(t:List Int)(ht:t.length<=2000)(cl:List Int)(hd:∀ x∈cl,0<=x/\x<=t.length)(he:cl.length<=4000)(hC:∀ cfg h,af md (K prim (d+4)) cfg 51 [rl t] h=some (il cl,h))(cfg:Cfg)(h:Heap):
  af md (K prim (d+6)) cfg 50 [rl t] h=some (il (iK t cl),h):=by
 refine aU rfl (hp 50 (by decide)) Tryz.func50 rfl rfl rfl (by simp) ?_;have hf:¬ (2000:Int)<t.length:=by omega
 have h1:=fun cfg h=>FX (prim:=prim) d hp t ht cl hd he hC cfg h;by_cases h0:t=[]
 ·subst h0;simp;rfl
 have h7:0<t.length:=L7.2 h0;have h3:=fun cfg h q hq=>Az (prim:=prim) (d+3) hp t.length ht (dD t) (clS (dD t)) (mkS (t.length+1) cl) dR (by rw[oQ,dR]) (mo _) q hq cfg h;generalize h4:scC (dD t) (clS (dD t)) (mkS (t.length+1) cl)=S at *;have h9:S.length=3:=by rw[<- h4];rfl
 have hg:S.take 3=S:=by rw[<- h4];rfl
 have hh:isMap S=false:=by rw[<- h4];rfl
 have hj:S.all V.leaf=true:=by rw[<- h4];rfl
 have hl:putAt [V.nils,V.nils,V.nils] 0 S=S:=by rw[<- h4];rfl
 have hF:=@lS t cl;have hz:(List.replicate t.length (0:Int)).length=t.length:=by simp
 simp(disch:=omega)[h0,hf,h1,jS,h9,hj,hl,-List.map_replicate];generalize List.replicate t.length (0:Int)=z0 at *;have hR:(iK t cl).length=z0.length:=by rw[hF,hz]
 refine ai (fun m fr H=>∃ (q:Nat),q+1<=t.length/\m=t.length-(q+1)/\H=[some S,some (((iK t cl).take q++z0.drop q).map (V.int .i64))] /\
  Slots 38 [(0,rl t),(3,.ptr 0 0),(4,.sl 1 0 t.length t.length 1),(5,.int .i64 ((q:Int)+1))] fr) (m:=t.length-1) (by omega) ⟨0,by omega,by omega,by simp,by simp⟩ ?_
 rintro m fr H ⟨q,hq,rfl,rfl,hs⟩;obtain⟨j,rfl⟩:=hs.ex;clear hs;have hle:q+1<=t.length:=hq;have h8:=@bj _ _ _ hR q;rw[hz]at h8;have h6:=fun x=>dp (x:=x) hR (i:=q);by_cases ha:q+1<t.length
 ·have hI:(q:Int)+1<t.length:=by omega
  have hm:=fun cfg h=>h3 cfg h q ha;have hb:=h6 _ (yP ha);generalize hA:(iK t cl).take q++z0.drop q=A at *;simp(disch:=omega)[hI,hm,hle,wrap64,-getElem?_pos,h9,hg,hh,h8,-List.map_set];refine ae (m':=t.length-(q+1+1)) (by omega) ⟨q+1,by omega,by omega,by rw[hb],by simp(disch:=omega)⟩
 ·have hI:¬ (q:Int)+1<t.length:=by omega
  have hc:q=t.length-1:=by omega
  have hb:=h6 2 (by rw[hc];exact rV h7);rw[dA (i:=q+1) hR (by rw[hz];omega)]at hb;generalize hA:(iK t cl).take q++z0.drop q=A at *;simp(disch:=omega)[hI,wrap64,-getElem?_pos,h8,-List.map_set];rw[<- hc,hb];exact dx (h:=[some S,some ((iK t cl).map (V.int .i64))]) (n:=0) (b:=1) (len:=t.length) (cap:=t.length) (d:=4) (k:=.i64) (l:=iK t cl) (by simp[ab]) (LJ _) hF
end
end Bi
end Go.Ab
