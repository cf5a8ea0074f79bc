/-
  AN ABSTRACT LOGIC OVER THE MODEL, part 24: calls that name nothing, reckoned once; runs that are cut in parts.
-/
import Derived.Test.YtfoeaeeaflmkfaaGreatAL23
namespace Go.AL
open Go.RowKit
noncomputable section
theorem forceN_eq (n:Nat) (k:Nat→FR):forceN n k=k n:=rfl
theorem forceI_eq (n:Int) (k:Int→FR):forceI n k=k n:=by cases n<;>rfl
theorem forceB_eq (b:Bool) (k:Bool→FR):forceB b k=k b:=by cases b<;>rfl
theorem forceS_eq:∀(s:List UInt8) (k:List UInt8→FR),forceS s k=k s
 | [],k=>rfl
 |c::s,k=>by
  show forceN c.toNat (fun n=>forceS s (fun l=>k (UInt8.ofNat n::l)))=_
  rw[forceN_eq,forceS_eq s,UInt8.ofNat_toNat]
mutual
theorem forceV_eq:∀(v:AVal) (k:AVal→FR),forceV v k=k v.shut
 |.int kd n,k=>by show forceI n _=_;rw[forceI_eq];rfl
 |.bool b,k=>by show forceB b _=_;rw[forceB_eq];rfl
 |.str s,k=>by show forceS s _=_;rw[forceS_eq];rfl
 |.slice xs nl t,k=>by show forceB nl (fun nl=>forceL xs (fun xs=>k (.slice xs nl none)))=_;rw[forceB_eq,forceL_eq xs];rfl
 |.agg xs,k=>by show forceL xs _=_;rw[forceL_eq xs];rfl
 |.tuple xs,k=>by show forceL xs _=_;rw[forceL_eq xs];rfl
 |.sptr xs,k=>by show forceL xs _=_;rw[forceL_eq xs];rfl
 |.iface t v,k=>by show forceN t (fun t=>forceV v (fun v=>k (.iface t v)))=_;rw[forceN_eq,forceV_eq v];rfl
 |.top,k=>rfl
 |.nilP,k=>rfl
 |.ptr _ _,k=>rfl
 |.raw _ _,k=>rfl
 |.ref _ _ _ _,k=>rfl
 |.nilI,k=>rfl
 |.func _ _ _,k=>rfl
 |.nilF,k=>rfl
 |.map _,k=>rfl
theorem forceL_eq:∀(vs:List AVal) (k:List AVal→FR),forceL vs k=k (shuts vs)
 | [],k=>rfl
 |v::vs,k=>by show forceV v (fun x=>forceL vs (fun xs=>k (x::xs)))=_;rw[forceV_eq v,forceL_eq vs];rfl
end
section
variable {P:Program}
theorem ACall.args {f:FuncId} {as bs:List AVal} {σ:Store} {Q:AVal→Store→Prop} (h:ACall P f as σ Q) (hl:as.length=bs.length) (hle:∀j,(bs.getD j .top).Le (as.getD j .top)):ACall P f bs σ Q:=
 fun I w vs m hs hr=>h I w vs m (hs.trans hl.symm) (fun j=>hle j I _ (hr j))
theorem memoF_ok {f:Nat} {c:Callee'} (hc:CallOk P f c):CallOk P f (memoF c):=by
 intro as V a V' h
 unfold memoF at h
 rw[forceL_eq]at h
 cases hp:plains (shuts as)with
 |false=>rw[hp]at h;exact hc as V a V' h
 |true=>
  rw[hp,cond_true]at h
  unfold memoC at h
  cases hx:c (shuts as) ⟨0,0,.lf⟩with
  |fail=>rw[hx]at h;cases h
  |got a0 V0=>
   rw[hx]at h
   have h:(bif a0.shut.plain then FR.got a0.shut V else .fail)=.got a V':=h
   cases hq:a0.shut.plain with
   |false=>rw[hq]at h;cases h
   |true=>
    rw[hq]at h;cases h
    refine⟨(hc _ _ _ _ hx).1,fun R ρ σ bs hR hv=> ?_⟩
    have hs:=VRs.shut as hv
    have hsb:shuts bs=shuts as:=VRs.det _ hs (VRs.of_plain _ hp)
    have key:=hc.plain hx (VRs.of_plain _ hp) hq σ
    refine(key.args (bs:=bs) (by rw[←hsb,shuts_len]) (fun j=> ?_)).mono ?_
    ·rw[←hsb,getD_shuts];exact AVal.les bs j
    ·rintro b τ ⟨rfl,rfl⟩
     exact⟨ρ,.refl _,.refl _,hR,VR.of_plain _ hq⟩
def Reach (P:Program) (c:ACode) (env:VE) (V:VS) (x:Ex) (env1:VE) (V1:VS):Prop:=
 ∀(R:Store) (ρ:Names) (σ:Store) (e':Env),Rel R ρ V σ→EnvR ρ env e'→vc P c (Post R ρ V x env1 V1) e' σ
inductive Chain (P:Program) (b:ACode):Nat→VE→VS→Ex→VE→VS→Prop
 |last (env:VE) (V:VS) (x:Ex) (env1:VE) (V1:VS) (h:Reach P b env V x env1 V1) (hx:x≠.normal):Chain P b 1 env V x env1 V1
 |step (n:Nat) (env:VE) (V:VS) (env1:VE) (V1:VS) (x:Ex) (env2:VE) (V2:VS) (h:Reach P b env V .normal env1 V1) (k:Chain P b n env1 V1 x env2 V2):Chain P b (n+1) env V x env2 V2
variable {env env1 env2:VE} {V V1 V2:VS} {x:Ex} {a b c:ACode}
theorem Reach.run {call:Nat→Callee'} (hc:∀f,CallOk P f (call f)) (n:Nat) (hp:c.plainB=true) (h:codeR c call n none env V=.done x env1 V1):Reach P c env V x env1 V1:=
 (code_ok hc n c hp).1 _ _ _ _ _ h
theorem Reach.seq (h:Reach P a env V .normal env1 V1) (k:Reach P b env1 V1 x env2 V2):Reach P (.seq a b) env V x env2 V2:=by
 intro R ρ σ e' hR hE
 show vc P a (Ex.then (vc P b (Post R ρ V x env2 V2)) (Post R ρ V x env2 V2)) e' σ
 refine vc_mono (h R ρ σ e' hR hE) ?_
 rintro z e3 σ3 ⟨rfl,ρ3,h1,h2,h3,h4⟩
 exact vc_mono (k R ρ3 σ3 e3 h3 h4) fun z e σ hz=>hz.next h1 h2
theorem Reach.stop (h:Reach P a env V x env1 V1) (hx:x≠.normal):Reach P (.seq a b) env V x env1 V1:=by
 intro R ρ σ e' hR hE
 show vc P a (Ex.then (vc P b (Post R ρ V x env1 V1)) (Post R ρ V x env1 V1)) e' σ
 refine vc_mono (h R ρ σ e' hR hE) ?_
 intro z e3 σ3 hz
 have:=hz.1
 subst this
 cases z with
 |normal=>exact absurd rfl hx
 |exit id=>exact hz
 |ret=>exact hz
theorem Reach.block {id:Nat} (h:Reach P b env V (.exit id) env1 V1):Reach P (.block id b) env V .normal env1 V1:=by
 intro R ρ σ e' hR hE
 show vc P b (Ex.inBlock id (Post R ρ V .normal env1 V1)) e' σ
 refine vc_mono (h R ρ σ e' hR hE) ?_
 rintro z e3 σ3 ⟨rfl,ρ3,h1,h2,h3,h4⟩
 show(bif id==id then Post R ρ V .normal env1 V1 .normal else Post R ρ V .normal env1 V1 (.exit id)) e3 σ3
 rw[beq_self_eq_true]
 exact⟨rfl,ρ3,h1,h2,h3,h4⟩
theorem Reach.block_n {id:Nat} (h:Reach P b env V .normal env1 V1):Reach P (.block id b) env V .normal env1 V1:=by
 intro R ρ σ e' hR hE
 show vc P b (Ex.inBlock id (Post R ρ V .normal env1 V1)) e' σ
 refine vc_mono (h R ρ σ e' hR hE) ?_
 rintro z e3 σ3 ⟨rfl,ρ3,h1,h2,h3,h4⟩
 exact⟨rfl,ρ3,h1,h2,h3,h4⟩
theorem Chain.reach {n:Nat} (h:Chain P b n env V x env1 V1):Reach P (.loop b) env V x env1 V1:=by
 intro R ρ σ e' hR hE
 refine⟨fun m e σ=>∃ρ' env2 V2,ρ.Le ρ'∧Gd V V2∧Rel R ρ' V2 σ∧EnvR ρ' env2 e∧Chain P b m env2 V2 x env1 V1,⟨n,dim_self ⟨ρ,env,V,.refl _,.refl _,hR,hE,h⟩⟩,?_⟩
 rintro m e σ ⟨ρ',env2,V2,h1,h2,h3,h4,h5⟩
 cases h5 with
 |last _ _ _ _ _ hr hx=>
  refine vc_mono (hr R ρ' σ e h3 h4) ?_
  intro z e3 σ3 hz
  have:=hz.1
  subst this
  cases z with
  |normal=>exact absurd rfl hx
  |exit id=>exact hz.next h1 h2
  |ret=>exact hz.next h1 h2
 |step m' _ _ env3 V3 _ _ _ hr hk=>
  refine vc_mono (hr R ρ' σ e h3 h4) ?_
  rintro z e3 σ3 ⟨rfl,ρ3,k1,k2,k3,k4⟩
  exact dim_self ⟨m',Nat.lt_succ_self _,ρ3,env3,V3,h1.trans k1,h2.trans k2,k3,k4,hk⟩
theorem Reach.less (h:Reach P c env V x env1 V1) (hg:V.g=0) (he:∀t,eat env2 t=eat env1 t) (h2:V2.g=0) (hn:V1.n≤V2.n) (ha:∀i,V2.at i=V1.at i∨V2.at i=.dead):Reach P c env V x env2 V2:=by
 intro R ρ σ e' hR hE
 refine vc_mono (h R ρ σ e' hR hE) ?_
 rintro z e3 σ3 ⟨rfl,ρ3,k1,k2,k3,k4⟩
 exact⟨rfl,ρ3,k1,⟨h2.trans hg.symm,Nat.le_trans k2.n hn,fun i hi=>by rw[hg]at hi;omega⟩,k3.less (by rw[h2];exact Nat.zero_le _) hn ha,fun t=>by rw[he t];exact k4 t⟩
end
def envL:List (Nat × Ent)→VE
 | []=>.lf
 |(s,e)::l=>eput (envL l) s e
def objL:List (Nat × VObj)→Tr VObj
 | []=>.lf
 |(i,o)::l=>Tr.set .dead (objL l) i o
def stL (N:Nat) (l:List (Nat × VObj)):VS:=⟨N,0,objL l⟩
def topE:Ent→Bool
 |.val .top=>true
 |_=>false
def allTop:VE→Bool
 |.lf=>true
 |.nd v l r=>topE v&&(allTop l&&allTop r)
def sameT:VE→VE→Bool
 |.lf,b=>allTop b
 |.nd v l r,.lf=>topE v&&(allTop l&&allTop r)
 |.nd v l r,.nd w m s=>eqEn v w&&(sameT l m&&sameT r s)
theorem topE_true {e:Ent} (h:topE e=true):e=.val .top:=by
 unfold topE at h
 split at h
 ·rfl
 ·cases h
theorem allTop_true:∀{t:VE},allTop t=true→∀p,Tr.getP (.val .top) p t=.val .top
 |.lf,_,p=>Tr.getP_lf _ _
 |.nd v l r,h,p=>by
  have h:(topE v&&(allTop l&&allTop r))=true:=h
  simp only[Bool.and_eq_true]at h
  cases p with
  |z=>exact topE_true h.1
  |a p=>exact allTop_true h.2.1 p
  |b p=>exact allTop_true h.2.2 p
theorem sameT_true:∀{a b:VE},sameT a b=true→∀p,Tr.getP (.val .top) p a=Tr.getP (.val .top) p b
 |.lf,b,h,p=>by rw[Tr.getP_lf,allTop_true h p]
 |.nd v l r,.lf,h,p=>by rw[Tr.getP_lf];exact allTop_true (t:=.nd v l r) h p
 |.nd v l r,.nd w m s,h,p=>by
  have h:(eqEn v w&&(sameT l m&&sameT r s))=true:=h
  simp only[Bool.and_eq_true]at h
  cases p with
  |z=>exact eqEn_true h.1
  |a p=>exact sameT_true h.2.1 p
  |b p=>exact sameT_true h.2.2 p
def allO (V:VS):List (Nat × VObj)→Bool
 | []=>true
 |(i,o)::l=>eqO o (V.at i)&&allO V l
theorem allO_true {V:VS}:∀{l:List (Nat × VObj)},allO V l=true→∀i,Tr.get .dead (objL l) i=V.at i∨Tr.get .dead (objL l) i=.dead
 | [],_,i=>.inr (Tr.get_lf _ _)
 |(j,o)::l,h,i=>by
  have h:(eqO o (V.at j)&&allO V l)=true:=h
  simp only[Bool.and_eq_true]at h
  have e:Tr.get .dead (objL ((j,o)::l)) i=if j=i then o else Tr.get .dead (objL l) i:=Tr.get_set _ _ _ _ _
  rw[e]
  by_cases hij:j=i
  ·subst hij;rw[if_pos rfl];exact .inl (eqO_true h.1)
  ·rw[if_neg hij];exact allO_true h.2 i
def eqX:Ex→Ex→Bool
 |.normal,.normal=>true
 |.ret,.ret=>true
 |.exit a,.exit b=>Nat.beq a b
 |_,_=>false
theorem eqX_true {a b:Ex} (h:eqX a b=true):a=b:=by
 unfold eqX at h
 split at h
 ·rfl
 ·rfl
 ·rw[beq_true h]
 ·cases h
def ends (r:ER) (x:Ex) (E:List (Nat × Ent)) (N:Nat) (L:List (Nat × VObj)):Bool:=match r with
 |.done y env V=>eqX x y&&(sameT (envL E) env&&(Nat.ble V.n N&&allO V L))
 |.bad=>false
theorem Reach.ends {P:Program} {c:ACode} {call:Nat→Callee'} (hc:∀f,CallOk P f (call f)) (n:Nat) (hp:c.plainB=true) {env:VE} {V:VS} (hg:V.g=0) {x:Ex} {E:List (Nat × Ent)} {N:Nat} {L:List (Nat × VObj)}
  (h:Go.AL.ends (codeR c call n none env V) x E N L=true):Reach P c env V x (envL E) (stL N L):=by
 cases hr:codeR c call n none env V with
 |bad=>rw[hr]at h;cases h
 |done y env1 V1=>
  rw[hr]at h
  have h:(eqX x y&&(sameT (envL E) env1&&(Nat.ble V1.n N&&allO V1 L)))=true:=h
  simp only[Bool.and_eq_true,ble_eq,decide_eq_true_eq]at h
  rw[eqX_true h.1]
  exact(Reach.run hc n hp hr).less hg (fun t=>sameT_true h.2.1 _) rfl h.2.2.1 (allO_true h.2.2.2)
end
end Go.AL
