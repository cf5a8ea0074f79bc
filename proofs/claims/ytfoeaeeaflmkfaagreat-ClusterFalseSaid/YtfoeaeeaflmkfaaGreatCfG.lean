/- All layers. -/
import Derived.Test.YtfoeaeeaflmkfaaGreatCfF
import Derived.Test.YtfoeaeeaflmkfaaGreatCfD
set_option linter.unusedSectionVars false
set_option linter.unusedVariables false
set_option linter.unusedSimpArgs false
namespace Go.Proofs.RepT
open Go Go.AL Go.AL.SX
set_option maxRecDepth 1000000
theorem lookN_mem {α:Type} {d:α}:∀{l:List (Nat × α)} {n:Nat},lookN d l n=d∨(n,lookN d l n)∈l
 | [],_=>.inl rfl
 |(k,a)::l,n=>by
  unfold lookN
  cases h:Nat.beq k n with
  |true=>rw[Nat.eq_of_beq_eq_true h];exact .inr (List.mem_cons_self ..)
  |false=>exact(lookN_mem (l:=l) (n:=n)).imp id (List.mem_cons_of_mem _)
def okF (f:Nat):FS→Prop
 |.none=>True
 |.code _ _ af=>Tr.get .none FTb f=.code af
 |.con c=>(∀k,1≤k→ConSem TB (callN FTb k f) c)∨∃an la af,Tr.get .none FTb f=.code af∧check TB (below rank FF (rank f)) deepN c an la af=true
theorem g128:Tr.get .none FTb 128=.code c128:=by kernel_rfl
theorem g131:Tr.get .none FTb 131=.code c131:=by kernel_rfl
theorem g89:Tr.get .none FTb 89=.code c89:=by kernel_rfl
theorem g49:Tr.get .none FTb 49=.code c49:=by kernel_rfl
theorem g91:Tr.get .none FTb 91=.code c91:=by kernel_rfl
theorem g90:Tr.get .none FTb 90=.code c90:=by kernel_rfl
theorem g92:Tr.get .none FTb 92=.code c92:=by kernel_rfl
theorem g47:Tr.get .none FTb 47=.code c47:=by kernel_rfl
theorem g48:Tr.get .none FTb 48=.code c48:=by kernel_rfl
theorem g138:Tr.get .none FTb 138=.code c138:=by kernel_rfl
theorem g139:Tr.get .none FTb 139=.code c139:=by kernel_rfl
theorem g94:Tr.get .none FTb 94=.code c94:=by kernel_rfl
theorem g140:Tr.get .none FTb 140=.code c140:=by kernel_rfl
theorem g141:Tr.get .none FTb 141=.code c141:=by kernel_rfl
theorem g95:Tr.get .none FTb 95=.code c95:=by kernel_rfl
theorem g52:Tr.get .none FTb 52=.code c52:=by kernel_rfl
theorem g51:Tr.get .none FTb 51=.code c51:=by kernel_rfl
theorem g93:Tr.get .none FTb 93=.code c93:=by kernel_rfl
theorem g50:Tr.get .none FTb 50=.code c50:=by kernel_rfl
theorem g13:Tr.get .none FTb 13=.code c13:=by kernel_rfl
theorem g14:Tr.get .none FTb 14=.code c14:=by kernel_rfl
theorem g15:Tr.get .none FTb 15=.code c15:=by kernel_rfl
theorem g16:Tr.get .none FTb 16=.code c16:=by kernel_rfl
theorem g17:Tr.get .none FTb 17=.code c17:=by kernel_rfl
theorem g18:Tr.get .none FTb 18=.code c18:=by kernel_rfl
theorem g53:Tr.get .none FTb 53=.code c53:=by kernel_rfl
theorem g54:Tr.get .none FTb 54=.code c54:=by kernel_rfl
theorem g19:Tr.get .none FTb 19=.code c19:=by kernel_rfl
theorem g55:Tr.get .none FTb 55=.code c55:=by kernel_rfl
theorem g20:Tr.get .none FTb 20=.code c20:=by kernel_rfl
theorem g5:Tr.get .none FTb 5=.code c5:=by kernel_rfl
theorem g56:Tr.get .none FTb 56=.code c56:=by kernel_rfl
theorem g21:Tr.get .none FTb 21=.code c21:=by kernel_rfl
theorem g57:Tr.get .none FTb 57=.code c57:=by kernel_rfl
theorem g22:Tr.get .none FTb 22=.code c22:=by kernel_rfl
theorem g23:Tr.get .none FTb 23=.code c23:=by kernel_rfl
theorem g24:Tr.get .none FTb 24=.code c24:=by kernel_rfl
theorem g25:Tr.get .none FTb 25=.code c25:=by kernel_rfl
theorem g26:Tr.get .none FTb 26=.code c26:=by kernel_rfl
theorem g58:Tr.get .none FTb 58=.code c58:=by kernel_rfl
theorem g27:Tr.get .none FTb 27=.code c27:=by kernel_rfl
theorem g59:Tr.get .none FTb 59=.code c59:=by kernel_rfl
theorem g28:Tr.get .none FTb 28=.code c28:=by kernel_rfl
theorem g60:Tr.get .none FTb 60=.code c60:=by kernel_rfl
theorem g29:Tr.get .none FTb 29=.code c29:=by kernel_rfl
theorem g61:Tr.get .none FTb 61=.code c61:=by kernel_rfl
theorem g30:Tr.get .none FTb 30=.code c30:=by kernel_rfl
theorem g31:Tr.get .none FTb 31=.code c31:=by kernel_rfl
theorem g32:Tr.get .none FTb 32=.code c32:=by kernel_rfl
theorem g33:Tr.get .none FTb 33=.code c33:=by kernel_rfl
theorem g63:Tr.get .none FTb 63=.code c63:=by kernel_rfl
theorem g34:Tr.get .none FTb 34=.code c34:=by kernel_rfl
theorem g6:Tr.get .none FTb 6=.code c6:=by kernel_rfl
def okL:List (Nat × FS)→Prop
 | []=>True
 |(f,e)::r=>okF f e∧okL r
theorem okL_mem:∀{l:List (Nat × FS)} {f:Nat} {e:FS},okL l→(f,e)∈l→okF f e
 |(f',e')::l,f,e,h,hm=>by
  rcases List.mem_cons.1 hm with h1|h1
  ·cases h1;exact h.1
  ·exact okL_mem h.2 h1
theorem okFl:okL Fl:=⟨.inl con4,
 .inl con62,
 g128,
 g131,
 g89,
 g49,
 g91,
 g90,
 .inr ⟨n92,l92,c92,g92,ck92⟩,
 .inr ⟨n47,l47,c47,g47,ck47⟩,
 g48,
 .inr ⟨n138,l138,c138,g138,ck138⟩,
 .inr ⟨n139,l139,c139,g139,ck139⟩,
 .inr ⟨n94,l94,c94,g94,ck94⟩,
 .inr ⟨n140,l140,c140,g140,ck140⟩,
 .inr ⟨n141,l141,c141,g141,ck141⟩,
 .inr ⟨n95,l95,c95,g95,ck95⟩,
 .inr ⟨n52,l52,c52,g52,ck52⟩,
 g51,
 g93,
 .inr ⟨n50,l50,c50,g50,ck50⟩,
 g13,
 g14,
 g15,
 g16,
 g17,
 g18,
 g53,
 g54,
 g19,
 g55,
 g20,
 g5,
 g56,
 g21,
 g57,
 g22,
 g23,
 g24,
 g25,
 g26,
 .inr ⟨n58,l58,c58,g58,ck58⟩,
 g27,
 .inr ⟨n59,l59,c59,g59,ck59⟩,
 g28,
 .inr ⟨n60,l60,c60,g60,ck60⟩,
 g29,
 g61,
 g30,
 g31,
 g32,
 g33,
 .inr ⟨n63,l63,c63,g63,ck63⟩,
 g34,
 g6,
 trivial⟩
theorem okFF (f:Nat):okF f (FF f):=by
 rcases lookN_mem (d:=FS.none) (l:=Fl) (n:=f)with h|h
 ·rw[show FF f=.none from h];trivial
 ·exact okL_mem okFl h
theorem layers:Layers TB FTb FF rank 1 deepN where
 code f an la af h:=by have:=okFF f;rw[h]at this;exact this
 con f c h:=by have:=okFF f;rw[h]at this;exact this
end Go.Proofs.RepT
