/-
  AN ABSTRACT LOGIC OVER THE MODEL, part 12: what is handed in: arguments that read as data are represented by trees of their type's shape; what a call told in trees gives a row.
-/
import Derived.Test.YtfoeaeeaflmkfaaGreatAL8
import Derived.SizedLaws
import Derived.ChangeArms
import Derived.DataReads
import Derived.Carry
import Derived.ProofKit
namespace Go.AL
open Go.RowKit
def Sealed.world (w:World):Sealed:=⟨fun b o=>match w.heap[b]? with
 |some (.cells cs _ _)=>cs[o]?
 |_=>none,fun _=>none⟩
theorem models_world (w:World):Models (Sealed.world w) Store.empty w where
 cell b o v h:=by
  simp only[Sealed.world]at h
  split at h
  ·rename_i cs T fz hh;exact⟨cs,T,fz,hh,h⟩
  ·cases h
 cap b n h:=by cases h
 obj b as h:=by cases h
 opn b n sz e h:=by cases h
 mp b es h:=by cases h
theorem world_cell {w:World} {b o:Nat} {sp:Option Nat} {v:Value} (h:w.cell? ⟨b,o,sp⟩=some v):sp=none∧(Sealed.world w).cell b o=some v:=by
 unfold World.cell? at h
 simp only[Sealed.world]
 split at h
 ·rename_i cs T fz hh
  simp only at hh
  rw[hh]
  cases sp with
  |none=>exact⟨rfl,by simpa using h⟩
  |some s=>simp at h
 ·cases h
section
variable (P:Program)
def tilesB:List Field→Nat→Nat→Bool
 | [],off,tot=>off==tot
 |f::r,off,tot=>f.offset==off&&tilesB r (off+P.cellsOf f.type) tot
def okT:Nat→TypeId→Bool
 |0,_=>false
 |n+1,t=>match P.underlying t with
  |some .bool|some (.int _)|some .string=>P.cellsOf t==1
  |some (.slice e)=>P.cellsOf t==1&&okT n e&&decide (0<P.cellsOf e)
  |some (.struct fs)=>tilesB P fs.toList 0 (P.cellsOf t)&&fs.toList.all fun f=>okT n f.type
  |_=>false
def isRow (t:TypeId):Bool:=match P.underlying t with
 |some (.struct _)=>true
 |_=>false
def Shp:Nat→TypeId→List AVal→Prop
 |0,_,_=>False
 |n+1,t,as=>match P.underlying t with
  |some .bool=>∃b,as=[.bool b]
  |some (.int k)=>∃m,as=[.int k m]∧(Lit.int k m).wf=true
  |some .string=>∃l,as=[.str l]∧l.length≤reachBytes
  |some (.slice e)=>as=[.slice [] true none]∨∃xs,as=[.slice xs false none]∧xs.length≤maxLen∧xs.length*P.bytesOf e≤reachBytes∧∀x∈xs,∃cs,x=mkv (isRow P e) cs∧Shp n e cs
  |some (.struct fs)=>as.length=P.cellsOf t∧∀f∈fs.toList,Shp n f.type ((as.drop f.offset).take (P.cellsOf f.type))
  |_=>False
end
theorem exists_list {α:Type} [Inhabited α] (R:Nat→α→Prop):∀(n:Nat),(∀i,i<n→∃x,R i x)→∃xs:List α,xs.length=n∧∀i x,xs[i]? =some x→R i x
 |0,_=>⟨[],rfl,fun i x h=>by simp at h⟩
 |n+1,h=>by
  obtain⟨xs,hl,hx⟩:=exists_list R n fun i hi=>h i (by omega)
  obtain⟨x,hx'⟩:=h n (by omega)
  refine⟨xs++[x],by simp[hl],fun i y hy=> ?_⟩
  rcases Nat.lt_or_ge i n with hi|hi
  ·rw[List.getElem?_append_left (by omega)]at hy;exact hx i y hy
  ·rw[List.getElem?_append_right (by omega)]at hy
   have:i-xs.length=0:=by
    rcases Nat.eq_zero_or_pos (i-xs.length)with h0|h0
    ·exact h0
    ·rw[List.getElem?_eq_none (by simp;omega)]at hy;cases hy
   rw[this]at hy
   simp only[List.getElem?_cons_zero,Option.some.injEq]at hy
   have:i=n:=by omega
   subst this;subst hy;exact hx'
section
variable {P:Program} {w:World} {H:Type} {enc:TypeId × Value→H}
def RepL (I:Sealed) (cs:List Value) (as:List AVal):Prop:=∀j,RepC I (cs.getD j undef) (as.getD j .top)
theorem RepL.one {I:Sealed} {v:Value} {a:AVal} (h:RepC I v a):RepL I [v] [a]:=fun j=>by
 cases j with
 |zero=>exact h
 |succ j=>simpa using RepC.top _
theorem RepL.append {I:Sealed} {cs:List Value} {as bs:List AVal} (h1:RepL I (cs.take as.length) as) (_hl:as.length≤cs.length) (h2:RepL I (cs.drop as.length) bs):RepL I cs (as++bs):=fun j=>by
 by_cases hj:j<as.length
 ·have:=h1 j
  rw[List.getD_eq_getElem?_getD,List.getElem?_take,if_pos hj,←List.getD_eq_getElem?_getD]at this
  rw[List.getD_eq_getElem?_getD (l:=as++bs),List.getElem?_append_left hj,←List.getD_eq_getElem?_getD]
  exact this
 ·have:=h2 (j-as.length)
  rw[List.getD_eq_getElem?_getD,List.getElem?_drop,←List.getD_eq_getElem?_getD,Nat.add_sub_cancel' (by omega)]at this
  rw[List.getD_eq_getElem?_getD (l:=as++bs),List.getElem?_append_right (by omega),←List.getD_eq_getElem?_getD]
  exact this
theorem tiles_ge:∀{r:List Field} {off tot:Nat},tilesB P r off tot=true→off≤tot∧∀f∈r,off≤f.offset
 | [],off,tot,h=>by
  simp only[tilesB,beq_iff_eq]at h
  exact⟨by omega,fun f hf=>by cases hf⟩
 |f::r,off,tot,h=>by
  simp only[tilesB,Bool.and_eq_true,beq_iff_eq]at h
  obtain⟨h1,h2⟩:=tiles_ge h.2
  exact⟨by omega,fun g hg=>by
   rcases List.mem_cons.1 hg with rfl|hg
   ·omega
   ·have:=h2 g hg;omega⟩
theorem tile_fields {I:Sealed} {Q:Field→List AVal→Prop} {cs:List Value} {tot:Nat} (_hl:cs.length=tot):∀(r:List Field) (off:Nat),tilesB P r off tot=true→
  (∀f∈r,∃as,as.length=P.cellsOf f.type∧RepL I ((cs.drop f.offset).take (P.cellsOf f.type)) as∧Q f as)→
  ∃as,as.length=tot-off∧RepL I (cs.drop off) as∧∀f∈r,Q f ((as.drop (f.offset-off)).take (P.cellsOf f.type))
 | [],off,h,_=>by
  simp only[tilesB,beq_iff_eq]at h
  refine⟨[],by simp;omega,fun j=> ?_,fun f hf=>by cases hf⟩
  simpa using RepC.top _
 |f::r,off,h,hq=>by
  have ht:=tiles_ge h
  simp only[tilesB,Bool.and_eq_true,beq_iff_eq]at h
  obtain⟨ho,h⟩:=h
  obtain⟨hle,hge⟩:=tiles_ge h
  obtain⟨as,hal,har,hqa⟩:=hq f List.mem_cons_self
  obtain⟨bs,hbl,hbr,hqb⟩:=tile_fields _hl r _ h fun g hg=>hq g (List.mem_cons_of_mem _ hg)
  refine⟨as++bs,by simp;omega,RepL.append ?_ (by simp;omega) ?_,fun g hg=> ?_⟩
  ·rw[hal,←ho];exact har
  ·rw[hal,List.drop_drop];exact hbr
  ·rcases List.mem_cons.1 hg with rfl|hg
   ·rw[ho,Nat.sub_self,List.drop_zero,←hal,List.take_left];exact hqa
   ·have hg2:=hge g hg
    have:(as++bs).drop (g.offset-off)=bs.drop (g.offset-(off+P.cellsOf f.type)):=by
     rw[List.drop_append,List.drop_eq_nil_of_le (by omega),List.nil_append]
     congr 1;omega
    rw[this];exact hqb g hg
theorem weightsAll_mem {e:TypeId}:∀{l:List (DataW H)} {d:DataW H},d∈l→∀n∈d.weights P e,n∈DataW.weightsAll P e l
 |a::r,d,h,n,hn=>by
  simp only[DataW.weightsAll,List.mem_append]
  rcases List.mem_cons.1 h with rfl|h
  ·exact .inl hn
  ·exact .inr (weightsAll_mem h n hn)
theorem Shp.cells {n:Nat} {t:TypeId} {as:List AVal} (h:Shp P n t as):(mkv (isRow P t) as).cells=as∧(isRow P t=false→as.length=1):=by
 cases n with
 |zero=>exact h.elim
 |succ n=>
  unfold Shp at h
  unfold isRow
  split at h
  ·rename_i hu;rw[hu];obtain⟨b,rfl⟩:=h;exact⟨rfl,fun _=>rfl⟩
  ·rename_i hu;rw[hu];obtain⟨b,rfl,_⟩:=h;exact⟨rfl,fun _=>rfl⟩
  ·rename_i hu;rw[hu];obtain⟨b,rfl,_⟩:=h;exact⟨rfl,fun _=>rfl⟩
  ·rename_i hu;rw[hu];rcases h with rfl|⟨b,rfl,_⟩<;>exact⟨rfl,fun _=>rfl⟩
  ·rename_i hu;rw[hu];exact⟨rfl,fun h=>by cases h⟩
  ·exact h.elim
theorem trod_shp:∀(fuel n:Nat) (t:TypeId) (cs:List Value) (x:DataW H × List MemPlace),okT P n t=true→DataW.trod enc P w 0 (fun _=>true) true fuel t cs=some x→(∀m∈x.1.weights P t,m≤reachBytes)→
  cs.length=P.cellsOf t∧∃as,as.length=P.cellsOf t∧RepL (Sealed.world w) cs as∧Shp P n t as:=by
 intro fuel
 induction fuel with
 |zero=>intro n t cs x _ h;simp[DataW.trod]at h
 |succ fuel ih=>
  intro n t cs x hok h hw
  cases n with
  |zero=>cases hok
  |succ n=>
   unfold okT at hok
   split at hok
   ·rename_i hu
    obtain⟨b,rfl,rfl⟩:=DataW.trod_bool hu h
    have hc:P.cellsOf t=1:=by simpa using hok
    exact⟨by rw[hc];rfl,[.bool b],by rw[hc];rfl,.one (.bool b),by unfold Shp;rw[hu];exact⟨b,rfl⟩⟩
   ·rename_i k hu
    obtain⟨m,rfl,rfl,hwf⟩:=DataW.trod_int hu h
    have hc:P.cellsOf t=1:=by simpa using hok
    exact⟨by rw[hc];rfl,[.int k m],by rw[hc];rfl,.one (.int k m),by unfold Shp;rw[hu];exact⟨m,rfl,hwf⟩⟩
   ·rename_i hu
    obtain⟨s,rfl,rfl,hs⟩:=DataW.trod_string hu h
    have hc:P.cellsOf t=1:=by simpa using hok
    exact⟨by rw[hc];rfl,[.str s.data.toList],by rw[hc];rfl,.one (.str s _ rfl),by unfold Shp;rw[hu];exact⟨_,rfl,hw _ (by simp[DataW.weights])⟩⟩
   ·rename_i e hu
    simp only[Bool.and_eq_true,beq_iff_eq,decide_eq_true_eq]at hok
    obtain⟨⟨hc,hoke⟩,hpos⟩:=hok
    rcases DataW.trod_slice hu h with⟨rfl,rfl⟩|⟨a,len,cap,elems,rest,m,hm,rfl,rfl,_,hlen,hcap,hel,he,hr,_⟩
    ·exact⟨by rw[hc];rfl,[.slice [] true none],by rw[hc];rfl,.one .nilS,by unfold Shp;rw[hu];exact .inl rfl⟩
    ·obtain rfl:fuel=m:=by omega
     obtain⟨hrl,hr⟩:=hr rfl
     simp only[DataW.weights,hu]at hw
     have hwl:len*P.bytesOf e≤reachBytes:=by
      have h1:=hw _ List.mem_cons_self
      simp only[List.length_map]at h1
      exact Nat.le_trans (Nat.mul_le_mul_right _ (by omega)) h1
     have hwe:∀y∈elems,∀q∈y.1.weights P e,q≤reachBytes:=fun y hy q hq=>
      hw q (List.mem_cons_of_mem _ (List.mem_append_left _ (weightsAll_mem (List.mem_map.2 ⟨y,hy,rfl⟩) q hq)))
     refine⟨by rw[hc];rfl,?_⟩
     obtain⟨b,off,sp⟩:=a
     by_cases hcap0:cap=0
     ·subst hcap0
      obtain rfl:len=0:=by omega
      exact⟨[.slice [] false none],by rw[hc];rfl,.one (.sliceZ _),by unfold Shp;rw[hu];exact .inr ⟨[],rfl,by simp[maxLen],by simp,fun x hx=>by cases hx⟩⟩
     ·
      have hsp:sp=none:=by
       have h0:∃us,w.cells? 0 ((⟨b,off,sp⟩:Addr).add (0*P.cellsOf e)) (P.cellsOf e)=some us:=by
        by_cases hl0:0<len
        ·have:=he 0 hl0
         rw[List.getElem?_eq_getElem (by omega),Option.bind_eq_some_iff]at this
         obtain⟨us,h1,_⟩:=this
         exact⟨us,h1⟩
        ·have:=hr 0 (by omega)
         rw[List.getElem?_eq_getElem (by omega),Option.bind_eq_some_iff]at this
         obtain⟨us,h1,_⟩:=this
         rw[show(len+0)=0 by omega]at h1
         exact⟨us,h1⟩
       obtain⟨us,h0⟩:=h0
       obtain⟨_,hul,huc⟩:=World.cells?_some h0
       have:=huc 0 hpos
       rw[List.getElem?_eq_getElem (by omega)]at this
       simp only[Nat.zero_mul,Addr.add,if_true]at this
       exact(world_cell this).1
      subst hsp
      have each:∀i,i<len→∃x:AVal,∃as,x=mkv (isRow P e) as∧as.length=P.cellsOf e∧Shp P n e as∧∀j,j<P.cellsOf e→∃v,(Sealed.world w).cell b (off+(i*P.cellsOf e+j))=some v∧RepC (Sealed.world w) v (as.getD j .top):=by
       intro i hi
       have:=he i hi
       rw[List.getElem?_eq_getElem (by omega),Option.bind_eq_some_iff]at this
       obtain⟨us,h1,h2⟩:=this
       obtain⟨_,as,hal,har,has⟩:=ih n e us _ hoke h2 (hwe _ (List.getElem_mem _))
       obtain⟨_,hul,huc⟩:=World.cells?_some h1
       refine⟨_,as,rfl,hal,has,fun j hj=> ?_⟩
       have hcj:=huc j hj
       rw[List.getElem?_eq_getElem (by omega)]at hcj
       have hadd:((⟨b,off,none⟩:Addr).add (i*P.cellsOf e)).add j=⟨b,off+(i*P.cellsOf e+j),none⟩:=by
        unfold Addr.add
        by_cases h1:i*P.cellsOf e=0<;>by_cases h2:j=0<;>simp[h1,h2]<;>omega
       rw[hadd]at hcj
       refine⟨_,(world_cell hcj).2,?_⟩
       have:=har j
       rw[List.getD_eq_getElem?_getD,List.getElem?_eq_getElem (by omega)]at this
       exact this
      obtain⟨xs,hxl,hx⟩:=exists_list _ len each
      have hget:∀i,i<len→∃as,xs.getD i .top=mkv (isRow P e) as∧as.length=P.cellsOf e∧Shp P n e as∧∀j,j<P.cellsOf e→∃v,(Sealed.world w).cell b (off+(i*P.cellsOf e+j))=some v∧RepC (Sealed.world w) v (as.getD j .top):=by
       intro i hi
       rw[List.getD_eq_getElem?_getD,List.getElem?_eq_getElem (by omega)]
       exact hx i _ (List.getElem?_eq_getElem (by omega))
      refine⟨[.slice xs false none],by rw[hc];rfl,.one ?_,?_⟩
      ·refine RepC.slice b off len cap (P.cellsOf e) xs none (fun i j=>if i<len∧j<P.cellsOf e then((Sealed.world w).cell b (off+(i*P.cellsOf e+j))).getD undef else undef) hxl hlen hcap (fun i hi=> ?_) (fun i j hi hj=> ?_) (fun i j=> ?_) (fun g hg=>by cases hg)
       ·obtain⟨as,h1,h2,h3,_⟩:=hget i hi
        rw[h1,h3.cells.1,h2]
       ·obtain⟨as,h1,h2,h3,h4⟩:=hget i hi
        obtain⟨v,hv,_⟩:=h4 j hj
        rw[if_pos ⟨hi,hj⟩,hv];rfl
       ·by_cases hij:i<len∧j<P.cellsOf e
        ·obtain⟨as,h1,h2,h3,h4⟩:=hget i hij.1
         obtain⟨v,hv,hrv⟩:=h4 j hij.2
         rw[if_pos hij,hv,h1,h3.cells.1];exact hrv
        ·rw[if_neg hij]
         by_cases hi:i<len
         ·obtain⟨as,h1,h2,h3,_⟩:=hget i hi
          rw[h1,h3.cells.1,List.getD_eq_getElem?_getD,List.getElem?_eq_none (by omega)]
          exact .top _
         ·rw[List.getD_eq_getElem?_getD (l:=xs),List.getElem?_eq_none (by omega)]
          cases j<;>simpa[AVal.cells]using RepC.top _
      ·unfold Shp
       rw[hu]
       refine .inr ⟨xs,rfl,by omega,by rw[hxl];exact hwl,fun x hxm=> ?_⟩
       obtain⟨i,hi⟩:=List.getElem?_of_mem hxm
       obtain⟨as,h1,_,h3,_⟩:=hx i x hi
       exact⟨as,h1,h3⟩
   ·rename_i fs hu
    simp only[Bool.and_eq_true]at hok
    obtain⟨htile,hall⟩:=hok
    obtain⟨ys,m,hm,rfl,hcl,hyl,hf⟩:=DataW.trod_struct hu h
    obtain rfl:fuel=m:=by omega
    refine⟨hcl,?_⟩
    have hfields:∀f∈fs.toList,∃as,as.length=P.cellsOf f.type∧RepL (Sealed.world w) ((cs.drop f.offset).take (P.cellsOf f.type)) as∧Shp P n f.type as:=by
     intro f hfm
     obtain⟨i,hi⟩:=List.getElem?_of_mem hfm
     have hi':fs[i]? =some f:=by simpa using hi
     have hlt:i<fs.size:=(Array.getElem?_eq_some_iff.1 hi').1
     have hy:=hf i f hi'
     rw[List.getElem?_eq_getElem (by omega)]at hy
     obtain⟨_,as,h1,h2,h3⟩:=ih n f.type _ _ (List.all_eq_true.1 hall f hfm) hy (fun q hq=>hw q (by
      simp only[DataW.weights,hu]
      refine DataW.weights_mem_each (j:=i) (t:=f.type) (d:=ys[i].1) ?_ ?_ q hq
      ·rw[List.getElem?_map,hi];rfl
      ·rw[List.getElem?_map,List.getElem?_eq_getElem (by omega)];rfl))
     exact⟨as,h1,h2,h3⟩
    obtain⟨as,h1,h2,h3⟩:=tile_fields hcl fs.toList 0 htile hfields
    refine⟨as,by simpa using h1,by simpa using h2,?_⟩
    unfold Shp
    rw[hu]
    exact⟨by simpa using h1,fun f hfm=>by simpa using h3 f hfm⟩
   ·cases hok
theorem arg_shp {n fuel:Nat} {t:TypeId} {v:Value} {x:DataW H × List MemPlace} {r:Reach} {base:Nat} (hok:okT P n t=true) (hval:Value.okWide P w r base t v) (h:DataW.trod enc P w 0 (fun _=>true) true fuel t v.cells.toList=some x)
  (hw:∀m∈x.1.weights P t,m≤reachBytes):∃as,RepC (Sealed.world w) v (mkv (isRow P t) as)∧Shp P n t as:=by
 obtain⟨hl,as,hal,har,hs⟩:=trod_shp fuel n t _ x hok h hw
 refine⟨as,?_,hs⟩
 cases hrow:isRow P t with
 |true=>
  have hu:∃fs,P.underlying t=some (.struct fs):=by
   unfold isRow at hrow
   split at hrow
   ·exact⟨_,‹_›⟩
   ·cases hrow
  obtain⟨fs,hu⟩:=hu
  unfold Value.okWide at hval
  rw[hu]at hval
  obtain⟨cs,rfl,hcs,_⟩:=hval
  refine RepC.agg cs as (by omega) fun j=> ?_
  have:=har j
  simpa[Value.cells,Array.getD_eq_getD_getElem?,List.getD_eq_getElem?_getD]using this
 |false=>
  have h1:=hs.cells.2 hrow
  have hv:v.cells= #[v]:=by
   cases v<;>try rfl
   rename_i cs
   exfalso
   unfold isRow at hrow
   unfold Value.okWide Cell.okWide Cell.ok at hval
   cases n with
   |zero=>cases hok
   |succ n=>
    unfold okT at hok
    split at hok<;>rename_i hu<;>simp[hu]at hval hrow hok
  rw[hv]at har
  have:=har 0
  match as,h1 with
  | [a],_=>exact this
def ArgsShp (P:Program) (n:Nat):List TypeId→List AVal→Prop
 | [],[]=>True
 |t::ts,a::as=>(∃cs,a=mkv (isRow P t) cs∧Shp P n t cs)∧ArgsShp P n ts as
 |_,_=>False
theorem args_shp {n:Nat} {r:Reach} {base:Nat}:∀{ts:List TypeId} {vs:List Value} {ds:List (DataW H)} {ps:List MemPlace},ts.all (okT P n)=true→(∀(j:Nat) t v,ts[j]? =some t→vs[j]? =some v→Value.okWide P w r base t v)→
  DataW.TrodAll enc P w 0 (fun _=>true) true ts vs ds ps→(∀m∈DataW.weightsEach P ts ds,m≤reachBytes)→
  ∃as,ArgsShp P n ts as∧vs.length=as.length∧RepL (Sealed.world w) vs as
 | [],[],[],_,_,_,_,_=>⟨[],trivial,rfl,fun j=>by simpa using RepC.top _⟩
 |t::ts,v::vs,d::ds,_,hok,hval,⟨p,q,⟨fuel,h1⟩,h2,_⟩,hw=>by
  simp only[List.all_cons,Bool.and_eq_true]at hok
  simp only[DataW.weightsEach,List.mem_append]at hw
  obtain⟨cs,hr,hs⟩:=arg_shp (x:=(d,p)) hok.1 (hval 0 t v rfl rfl) h1 fun m hm=>hw m (.inl hm)
  obtain⟨as,ha,hl,hra⟩:=args_shp hok.2 (fun j t v ht hv=>hval (j+1) t v ht hv) h2 fun m hm=>hw m (.inr hm)
  refine⟨_::as,⟨⟨cs,rfl,hs⟩,ha⟩,by simp[hl],fun j=> ?_⟩
  cases j with
  |zero=>exact hr
  |succ j=>exact hra j
theorem trodAll_length {base:Nat} {sp:Nat→Bool} {held:Bool}:∀{ts:List TypeId} {vs:List Value} {ds:List (DataW H)} {ps:List MemPlace},DataW.TrodAll enc P w base sp held ts vs ds ps→ds.length=ts.length
 | [],[],[],_,_=>rfl
 |_::_,_::_,_::_,_,⟨_,_,_,h2,_⟩=>by simp[trodAll_length h2]
theorem trodAll_below (hl:laidOutB P=true) {W W':World} (hb:RowKit.Below W.heap.size W W'):∀{ts:List TypeId} {vs:List Value} {ds:List (DataW H)} {ps:List MemPlace},(∀t∈ts,P.readableRec t=true∧t<P.types.size)→
  DataW.TrodAll enc P W 0 (fun _=>true) true ts vs ds ps→(∀x∈ps,x.block<W.heap.size)→DataW.TrodAll enc P W' 0 (fun b=>decide (b<W.heap.size)) true ts vs ds ps
 | [],[],[],_,_,h,_=>h
 |t::ts,v::vs,d::ds,_,ht,⟨p,q,h1,h2,he⟩,hp=>by
  subst he
  obtain⟨g1,g2⟩:=ht t List.mem_cons_self
  exact⟨p,q,Below.trod hl g1 g2 h1 hb fun x hx=>hp x (List.mem_append_left _ hx),trodAll_below hl hb (fun t h=>ht t (List.mem_cons_of_mem _ h)) h2 fun x hx=>hp x (List.mem_append_right _ hx),rfl⟩
theorem post_law {f:Func} {s:ChangeSpec} {W W':World} {args:Array Value} {ds gs:List (DataW H)} {before:List MemPlace} {tb:TypeId} (hl:laidOutB P=true) (ht:f.params.toList.all (fun t=>P.readableRec t&&decide (t<P.types.size))=true) (hv:s.vars=[])
  (hrt:f.resultTypes= #[tb]) (htb:P.underlying tb=some .bool) (hW:DataW.Whole enc P f.params.toList s.vars false W args.toList ds gs before)
  (hfn:s.fn H (ds++gs)= {results:=[.lit (.bool true)],args:=ds}) (hb:RowKit.Below W.heap.size W W'):s.post enc P f false true false false W args (.bool true) W':=by
 have hlt:∀p∈before,p.block<W.heap.size:=fun p hp=>hW.lt p hp
 have hW':=hW
 obtain⟨p,q,h1,h2,rfl,_,_⟩:=hW
 have hq:q=[]∧gs=[]:=by
  rw[hv]at h2
  match gs,h2 with
  | [],h2=>exact⟨h2,rfl⟩
 obtain⟨rfl,rfl⟩:=hq
 refine⟨ds,[],p++[],[],p,[],hW',?_,?_,?_,World.keptBut_mono (fun p hp=>⟨hp,.inr (.inl (by simpa using hp))⟩) (hb.frame (· ∈p++[])),fun h=>by cases h⟩
 ·rw[hfn,hrt]
  refine⟨[],[],⟨1,?_⟩,rfl,rfl⟩
  simp[DataW.trod,htb,Value.cells]
 ·rw[hfn]
  exact trodAll_below hl hb (fun t h=>by simpa using List.all_eq_true.1 ht t h) h1 fun x hx=>hlt x (List.mem_append_left _ hx)
 ·rw[hfn,hv];exact rfl
theorem calls_law {k n:Nat} {f:Func} {s:ChangeSpec} {W:World} {args:Array Value} {ds gs:List (DataW H)} {before:List MemPlace} {tb:TypeId} {base:Nat} (hlaw:∀as,ArgsShp P n f.params.toList as→ACall P k as Store.empty fun a _=>a=.bool true)
  (hl:laidOutB P=true) (ht:f.params.toList.all (fun t=>P.readableRec t&&decide (t<P.types.size))=true) (hok:f.params.toList.all (okT P n)=true) (hv:s.vars=[])
  (hrt:f.resultTypes= #[tb]) (htb:P.underlying tb=some .bool) (hval:∀(j:Nat) t v,f.params[j]? =some t→args[j]? =some v→Value.okWide P W .any base t v)
  (hW:DataW.Whole enc P f.params.toList s.vars false W args.toList ds gs before) (hsz:(DataW.weightsEach P (f.params.toList++s.plain.varTypes P) (ds++gs)).all (· ≤reachBytes)=true)
  (hfn:s.fn H (ds++gs)= {results:=[.lit (.bool true)],args:=ds}):Calls P k args W fun e W'=>∃v,e=.returned v∧s.post enc P f false true false false W args v W':=by
 have hW':=hW
 obtain⟨p,q,h1,h2,_,_,_⟩:=hW
 have hgs:gs=[]:=by
  rw[hv]at h2
  match gs,h2 with
  | [],_=>rfl
 subst hgs
 have hsz':∀m∈DataW.weightsEach P f.params.toList ds,m≤reachBytes:=by
  intro m hm
  have hvt:s.plain.varTypes P=[]:=by
   simp[DataSpec.varTypes,ChangeSpec.plain,hv]
  rw[hvt,List.append_nil,List.append_nil]at hsz
  simpa using List.all_eq_true.1 hsz m hm
 obtain⟨as,ha,hla,hra⟩:=args_shp (w:=W) hok (fun j t v ht hv=>hval j t v (by simpa using ht) (by simpa using hv)) h1 hsz'
 refine(hlaw as ha (Sealed.world W) W args (models_world W) (by simpa using hla) fun j=> ?_).mono ?_
 ·have:=hra j
  simpa[Array.getD_eq_getD_getElem?,List.getD_eq_getElem?_getD]using this
 ·rintro e W' ⟨v,a,I',σ',rfl,hr,m',ev,rfl⟩
  have hv':=RepC.bool_inv hr
  subst hv'
  exact⟨_,rfl,post_law hl ht hv hrt htb hW' hfn ⟨ev.os,ev.tape,ev.output,ev.size,fun b hb=>(ev.keep b hb ⟨rfl,rfl,rfl⟩).1⟩⟩
end
section
variable {P:Program}
theorem exists_map {α:Type} {f:α→AVal} {Q:α→Prop}:∀{xs:List AVal},(∀x∈xs,∃m,x=f m∧Q m)→∃ms:List α,xs=ms.map f∧∀m∈ms,Q m
 | [],_=>⟨[],rfl,fun m h=>by cases h⟩
 |x::xs,h=>by
  obtain⟨m,hm,hq⟩:=h x List.mem_cons_self
  obtain⟨ms,h1,h2⟩:=exists_map fun y hy=>h y (List.mem_cons_of_mem _ hy)
  exact⟨m::ms,by rw[hm,h1];rfl,fun y hy=>by
   rcases List.mem_cons.1 hy with rfl|hy
   ·exact hq
   ·exact h2 y hy⟩
theorem Shp.bool {n:Nat} {t:TypeId} {as:List AVal} (h:Shp P n t as) (hu:P.underlying t=some .bool):∃b,as=[.bool b]:=by
 cases n with
 |zero=>exact h.elim
 |succ n=>unfold Shp at h;rw[hu]at h;exact h
theorem Shp.int {n:Nat} {t:TypeId} {k:IntKind} {as:List AVal} (h:Shp P n t as) (hu:P.underlying t=some (.int k)):∃m,as=[.int k m]∧(Lit.int k m).wf=true:=by
 cases n with
 |zero=>exact h.elim
 |succ n=>unfold Shp at h;rw[hu]at h;exact h
theorem Shp.str {n:Nat} {t:TypeId} {as:List AVal} (h:Shp P n t as) (hu:P.underlying t=some .string):∃l,as=[.str l]∧l.length≤reachBytes:=by
 cases n with
 |zero=>exact h.elim
 |succ n=>unfold Shp at h;rw[hu]at h;exact h
theorem Shp.slice {n:Nat} {t e:TypeId} {as:List AVal} (h:Shp P n t as) (hu:P.underlying t=some (.slice e)):∃xs nl m,as=[.slice xs nl none]∧(nl=true→xs=[])∧xs.length≤maxLen∧xs.length*P.bytesOf e≤reachBytes∧
  n=m+1∧∀x∈xs,∃cs,x=mkv (isRow P e) cs∧Shp P m e cs:=by
 cases n with
 |zero=>exact h.elim
 |succ n=>
  unfold Shp at h
  rw[hu]at h
  rcases h with rfl|⟨xs,rfl,h1,h2,h3⟩
  ·exact⟨[],true,n,rfl,fun _=>rfl,by simp[maxLen],by simp,rfl,fun x hx=>by cases hx⟩
  ·exact⟨xs,false,n,rfl,fun h=>(by cases h),h1,h2,rfl,h3⟩
theorem Shp.struct {n:Nat} {t:TypeId} {fs:Array Field} {as:List AVal} (h:Shp P n t as) (hu:P.underlying t=some (.struct fs)):as.length=P.cellsOf t∧∃m,n=m+1∧∀f∈fs.toList,Shp P m f.type ((as.drop f.offset).take (P.cellsOf f.type)):=by
 cases n with
 |zero=>exact h.elim
 |succ n=>unfold Shp at h;rw[hu]at h;exact⟨h.1,n,rfl,h.2⟩
theorem Shp.bytes {n:Nat} {t e:TypeId} {as:List AVal} (h:Shp P n t as) (hu:P.underlying t=some (.slice e)) (he:P.underlying e=some (.int .u8)) (hb:P.bytesOf e=1):
  ∃l nl,as=[.slice (bytesA l) nl none]∧(nl=true→l=[])∧l.length≤reachBytes:=by
 obtain⟨xs,nl,m,rfl,hnl,_,hr,_,hx⟩:=h.slice hu
 have:∀x∈xs,∃c:UInt8,x=.int .u8 c.toNat∧True:=by
  intro x hxm
  obtain⟨cs,rfl,hs⟩:=hx x hxm
  obtain⟨q,rfl,hq⟩:=hs.int he
  have hrow:isRow P e=false:=by unfold isRow;rw[he]
  simp only[Lit.wf,IntKind.min,IntKind.max,IntKind.signed,IntKind.bits,Bool.and_eq_true]at hq
  refine⟨UInt8.ofNat q.toNat,?_,trivial⟩
  have h0:0≤q∧q≤255:=by simpa using hq
  have:((UInt8.ofNat q.toNat).toNat:Int)=q:=by
   rw[UInt8.toNat_ofNat']
   omega
  rw[hrow]
  show AVal.int .u8 q=_
  rw[this]
 obtain⟨l,rfl,_⟩:=exists_map this
 refine⟨l,nl,rfl,fun h=> ?_,?_⟩
 ·have:=hnl h;simpa using this
 ·rw[hb]at hr;simpa using hr
theorem wf_range {k:IntKind} {n:Int} (h:(Lit.int k n).wf=true):k.min≤n∧n≤k.max:=by
 simpa[Lit.wf]using h
end
end Go.AL
