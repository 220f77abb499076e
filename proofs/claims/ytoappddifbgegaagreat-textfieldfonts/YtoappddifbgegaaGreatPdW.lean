/- The law TextfieldFonts returns true for every input, and its arguments read behind the call as they read before. No condition. -/
import Derived.Test.YtoappddifbgegaaGreatPdL
import Derived.Test.YtoappddifbgegaaGreatPdJ
set_option linter.all false
set_option maxRecDepth 100000
namespace Go.Proofs.YtoappddifbgegaaGreat
open Go.ChangeShapes Go.WideShapes Go.ChangeAt Go.RowKit
open Go.Ab (zg zL sG Aj D4 agg_R R)
theorem Gb(a0:Option Addr)(len0 cap0:Nat)(z0:List Int)(w:World)(w0:zg .i64 w a0 len0 cap0 z0):
  Calls Tryz.prog 5 #[.slice a0 len0 cap0] w fun e w'=>e=.returned (.bool true)/\Below w.heap.size w w':=by
 obtain⟨r,h',hx,rfl⟩:=Ab.Bi.fonts_law 16 (z0.take len0);exact sG (md:=Ab.Bi.mdF) (n:=10000) Ab.Aw.hfol Ab.Aw.hnam Ab.Bi.pF_ok hx (Aj (zL w0) D4)
theorem Bt(os:Os)(started:os.Started)(H:Type)(enc:TypeId×Value->H):
  ReturnsInHanded {} Tryz.checked os 5 .any (Rows.textfieldFontsSpec.pre6 enc Tryz.prog Tryz.f5 Rows.textfieldFontsRow.domain false) (Rows.textfieldFontsSpec.post enc Tryz.prog Tryz.f5 false true false false):=by
 refine returnsInHanded_of_change (C:=Tryz.checked) own started (by kernel_rfl) Tryz.func5
  (ChangeSpec.witness6 (enc:=enc) (C:=Tryz.checked) false ⟨#[],#[.slice none 0 0],[]⟩ 8 (by kernel_rfl) (by kernel_rfl) (by kernel_rfl) (by kernel_rfl)) ?_
 intro W base args ds gs before h3 hW ha _;have h4:∀ (j:Nat) t v,Tryz.f5.params[j]?=some t->args[j]?=some v->Value.okWide Tryz.prog W .any base t v:=h3;have hc:=hW;obtain⟨p,q,h8,hV,rfl,hg,hh⟩:=hW;have hA:DataW.TrodAll enc Tryz.prog W 0 (fun _=>true) true Tryz.f5.params.toList args.toList ds p:=h8;rw[Tryz.params5]at hA h4;obtain⟨v0,vs0,d0,ds0,p0,q0,h9,rfl,rfl,h0,r0⟩:=trodAll_cons hA;obtain⟨rfl,rfl,rfl⟩:=trodAll_nil r0;obtain rfl:args=#[v0]:=by cases args;simp_all
 obtain⟨rfl,rfl⟩:=trodVars_none hV;obtain⟨a0,len0,cap0,rfl⟩:=okWide_slice Tryz.underlying52 (h4 0 52 v0 rfl rfl);have k0:=h0;have lt0:∀ x∈p0,x.block<W.heap.size:=by obtain⟨m,hm⟩:=k0;exact DataW.trod_lt m _ _ _ hm
 obtain⟨z0,w0⟩:∃ zs,zg .i64 W a0 len0 cap0 zs:=by
  obtain⟨fuel,hf⟩:=h0;rcases open_ints Tryz.underlying52 Tryz.underlying3 (by kernel_rfl) hf with⟨h6,_⟩|⟨x,l,c,zs,h6,_,hl,hm,hz,_,h7,hd⟩
  ·simp[Value.cells]at h6;obtain⟨rfl,rfl,rfl⟩:=h6;exact⟨[],.inl ⟨rfl,rfl,rfl,rfl⟩⟩
  ·simp[Value.cells]at h6;obtain⟨rfl,rfl,rfl⟩:=h6;exact⟨zs,.inr ⟨_,rfl,hl,hm,by simpa using hz,h7,hd⟩⟩
 clear h8 h3;refine (Gb a0 len0 cap0 z0 W w0).mono fun e W' ⟨he,bel⟩=>?_;subst he;exact⟨_,rfl,_,_,_,[],_,[],hc,trodAll_mk1 (shut_bool Tryz.underlying4 _),(trodAll_cons_mk (Below.trod laidOut (by kernel_rfl) (of_decide_eq_true (by kernel_rfl)) k0 bel lt0) trodAll_mk0),rfl,bel.frame _,fun h=>by cases h⟩
theorem Ga:Rows.textfieldFontsRow.holds Tryz.pinned (OpenSpec.ofChange Rows.textfieldFontsSpec):=
 OpenClaim.holds_of_wide 5 Tryz.f5 rfl rfl rfl rfl rfl rfl rfl ⟨rfl,rfl,rfl,rfl,rfl⟩ rfl rfl rfl rfl rfl (by kernel_rfl) Tryz.func5 closed
  (of_decide_eq_true (by kernel_rfl)) (by unfold Func.isWrapper;first|(rw[if_pos (by decide +kernel)];kernel_rfl)|(rw[if_neg (by decide +kernel)];exact⟨rfl,rfl⟩))
  (fun os started H enc _=>Bt os started H enc)
theorem fonts_proved:Rows.TextfieldFontsSaid:=Ga
#print axioms fonts_proved
end Go.Proofs.YtoappddifbgegaaGreat
