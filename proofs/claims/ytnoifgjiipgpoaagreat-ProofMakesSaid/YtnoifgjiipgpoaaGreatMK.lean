/- Parts of the proof: PfR, MkR, MkR2, MkR3, Law20d. -/
import Derived.Test.YtnoifgjiipgpoaaGreatMJ
set_option linter.all false
set_option maxHeartbeats 4000000
set_option maxRecDepth 4000
set_option maxHeartbeats 1000000
namespace Go.Proofs.YtnoifgjiipgpoaaGreat
open Go Go.Proofs.YtnoifgjiipgpoaaGreat.R
theorem rdead_pure (x:Inst) (s:State) (c least:Int) (hl:x.stops.length<2^31) (ho:s.ok):Pure P 51 [x.a,s.a,.i c,.i least] (.b (x.deadB s c least)):=by
 have ha:=rat_pure x s hl ho
 have hs:=rsum_pure [c,x.low s] (by simp)
 rw [Inst.deadB]
 generalize x.low s=d at *
 refine pure_of Tryz.func51 rfl rfl (by simp [Tryz.f51]) (by simp [bnd,bnd.bndL,Inst.a,State.a,State.cs]) (by simp [bnd,bnd.bndL]) fun B hB hnx=>?_
 simp only [Tryz.f51] at hB ⊢
 refine K_run hB 100 ?_
 simp [go_sem,Inst.a,State.a,State.cs]
 refine K_call rfl rfl rfl (args:=[x.a,s.a]) (f:=81) (by simp [go_sem,Inst.a,State.a,State.cs]) (by simp [go_sem,hB]) ((ha).spec _ _) ?_
 refine K_run hB 100 ?_
 simp [go_sem]
 refine K_call rfl rfl rfl (args:=[.fsl (ints [c,d])]) (f:=80) (by simp [go_sem,ints]) (by simp [go_sem,hB]) ((Pure.loose hs (by simp [bnd])).spec _ _) ?_
 refine K_run hB 100 ?_
 simp [go_sem]
end Go.Proofs.YtnoifgjiipgpoaaGreat

set_option maxRecDepth 4000
set_option maxHeartbeats 1000000
namespace Go.Proofs.YtnoifgjiipgpoaaGreat
open Go Go.Proofs.YtnoifgjiipgpoaaGreat.R
theorem rlogged_pure (r:SRes) (n:Node) (hL:r.log.length<2^31) (hd:∀d∈r.log,d.1.path.length<2^62) (hn:n.path.length<2^62):Pure P 52 [r.a,n.a] (.i (idxP n.path 0 r.log+1)):=by
 generalize hR:idxP n.path 0 r.log=R
 refine pure_of Tryz.func52 rfl rfl (by simp [Tryz.f52]) (by simp [bnd,bnd.bndL,SRes.a,Node.a,Node.cs]) (by simp [bnd,bnd.bndL]) fun B hB hnx=>?_
 simp only [Tryz.f52] at hB ⊢
 have hll:(logT r.log).length=r.log.length:=List.length_map _
 refine K_run hB 100 ?_
 simp [go_sem,SRes.a,Node.a,Node.cs]
 refine K_loopP (α:=Nat×Nat×(Nat→AObj)×Nat) (fun (k,_,τ,m)=>k≤r.log.length∧idxP n.path k (r.log.drop k)=R∧τ 0= .box [.i r.status,.t (.sl (planT r.plan)),.i r.up,.i r.low,.i r.steps,.t (.sl (logT r.log))]∧τ 1= .box n.cs) (fun (k,_,τ,m)=>⟨sl [(2,.ptr 0 0),(3,.ptr 1 0),(5,.i k)],τ,m⟩) (fun a=>r.log.length-a.1) (0,0,_,_) ⟨Nat.zero_le _,hR,by simp [oput],by simp [oput,Node.cs]⟩ (Imp.slots (by simp [go_sem]) rfl rfl) ?_
 rintro ⟨k,_,τ,m⟩ ⟨g1,g2,g3,g4⟩
 rw [Node.cs] at g4
 by_cases hk:k<r.log.length
 ·have hkk:IntKind.i64.wrap ((k:Int)+1)=((k+1:Nat):Int):=by rw [w64 ((k:Int)+1) (by omega)];rfl
  have hkk2:IntKind.i64.wrap ((k:Int)+1)=(k:Int)+1:=w64 _ (by omega)
  have hget:∀h,(logT r.log)[k]'h=Done.t r.log[k]:=fun h=>by simp [logT]
  have hsa:=rsame_pure r.log[k].1.path n.path (by have:=hd _ (List.getElem_mem hk);omega) (by omega)
  rw [List.drop_eq_getElem_cons hk,idxP] at g2
  generalize r.log[k]=d at *
  refine K_run hB 60 ?_
  simp [go_sem,hk,hll,g3]
  refine K_drawn [] rfl (by rw [hB];kernel_rfl) ?_
  refine K_run hB 100 ?_
  simp [go_sem,g3,g4,hll,hk,hget,Done.t,Node.t]
  refine K_dCallP rfl rfl rfl (args:=[.t (.sl (ints d.1.path)),.t (.sl (ints n.path))]) (f:=82) (by simp [go_sem]) (hsa) ?_
  by_cases c:d.1.path=n.path
  ·rw [if_pos c] at g2
   subst g2
   refine K_run hB 100 ?_
   simp [go_sem,c,hkk2]
  ·rw [if_neg c] at g2
   refine K_run hB 100 ?_
   simp [go_sem,c,hkk]
   exact Next.mk (k+1,0,τ,m) ⟨by omega,g2,g3,g4⟩ (Imp.slots (by simp [go_sem]) rfl rfl) (by simp only;omega)
 ·have:k=r.log.length:=by omega
  subst this
  rw [List.drop_length,idxP] at g2
  subst g2
  refine K_run hB 100 ?_
  simp [go_sem,hll,g3]
theorem rspot_pure (n:Node) (k:Int):Pure P 53 [n.a,.i k] ((⟨n.s,n.cost,k⟩:Spot).a):=by
 refine pure_of Tryz.func53 rfl rfl (by simp [Tryz.f53]) (by simp [bnd,bnd.bndL,Node.a,Node.cs]) (by simp [bnd,bnd.bndL,Spot.a,Spot.cs]) fun B hB hnx=>?_
 simp only [Tryz.f53] at hB ⊢
 refine K_run hB 100 ?_
 simp [go_sem,Node.a,Node.cs,Spot.a,Spot.cs]
def restP (l:List Node) (f:Node→Int) (k:Nat):List (List T):=(l.take k).map (spotOf f)
theorem restP_ten (l:List Node) (f:Node→Int) (k:Nat):∀y∈restP l f k,y.length=10:=spots_one f _
theorem restP_len (l:List Node) (f:Node→Int) {k:Nat} (h:k≤l.length):(restP l f k).length=k:=by
 rw [restP,List.length_map,List.length_take]
 omega
theorem restP_succ (l:List Node) (f:Node→Int) {k:Nat} (h:k<l.length):restP l f (k+1)=restP l f k++[spotOf f l[k]]:=by
 rw [restP,List.take_succ_eq_append_getElem h,List.map_append]
 rfl
end Go.Proofs.YtnoifgjiipgpoaaGreat

set_option maxRecDepth 4000
set_option maxHeartbeats 1000000
namespace Go.Proofs.YtnoifgjiipgpoaaGreat
open Go Go.Proofs.YtnoifgjiipgpoaaGreat.R
theorem rpart_pure (x:Inst) (r:SRes) (d:Diag) (hl:x.stops.length<2^31) (hL:r.log.length<2^31) (hd:∀d∈r.log,d.1.path.length<2^62) (hds:d.sure≤d.layers.length) (hdl:d.layers.length<2^31) (hok:∀l∈d.layers,l.length<2^31∧∀n∈l,n.s.ok∧n.path.length<2^62):Pure P 26 [x.a,r.a,d.a] (.agg [.t (.sl (rowsP x r (lastP r d) (laysP r d) (laysP r d).length))]):=by
 generalize hR:rowsP x r (lastP r d) (laysP r d) (laysP r d).length=R
 refine pure_of Tryz.func26 rfl rfl (by simp [Tryz.f26]) (by simp [bnd,bnd.bndL,Inst.a,SRes.a,Diag.a,Diag.cs]) (by simp [bnd,bnd.bndL]) fun B hB hnx=>?_
 simp only [Tryz.f26] at hB ⊢
 have hlen:(lysT d.layers).length=d.layers.length:=List.length_map _
 obtain ⟨ls,hls⟩:∃ls,ls=laysP r d:=⟨_,rfl⟩
 obtain ⟨last,hlast⟩:∃v,v=lastP r d:=⟨_,rfl⟩
 obtain ⟨W,hW⟩:∃v,v= !cutB r d:=⟨_,rfl⟩
 have hLen:ls.length≤d.layers.length:=by rw [hls];exact lays_len r d
 have hGet:∀k,k<ls.length→ls[k]? =d.layers[k]?:=fun k hk=>by
  rw [hls] at hk ⊢
  unfold laysP at hk ⊢
  split
  ·rename_i c
   rw [if_pos c,List.length_take] at hk
   exact List.getElem?_take_of_lt (by omega)
  ·rfl
 have hWt:W=true→ls.length=d.layers.length∧last= -1:=fun h=>by
  have:cutB r d=false:=by rw [hW] at h;simpa using h
  rw [hls,hlast,laysP,lastP,this]
  exact ⟨rfl,rfl⟩
 have hWf:W=false→ls.length=d.sure∧last=(d.sure:Int)-1:=fun h=>by
  have:cutB r d=true:=by rw [hW] at h;simpa using h
  rw [hls,hlast,laysP,lastP,this,if_pos rfl,if_pos rfl,List.length_take]
  exact ⟨by omega,rfl⟩
 rw [←hls,←hlast] at hR
 by_cases c1:d.exact=true
 case' pos=>
  have hw:W=true:=by rw [hW,cutB,c1];rfl
  refine K_run hB 60 ?_
  simp [go_sem,Inst.a,SRes.a,Diag.a,Diag.cs,c1]
 case' neg=>
  have c1':d.exact=false:=by simpa using c1
  by_cases c2:d.low<r.low
  case' pos=>
   have hw:W=false:=by rw [hW,cutB,c1',decide_eq_true c2];rfl
   have c3:¬r.low≤d.low:=by omega
   refine K_run hB 60 ?_
   simp [go_sem,Inst.a,SRes.a,Diag.a,Diag.cs,c1',c3]
  case' neg=>
   have hw:W=true:=by rw [hW,cutB,c1',decide_eq_false c2];rfl
   have c3:r.low≤d.low:=by omega
   refine K_run hB 60 ?_
   simp [go_sem,Inst.a,SRes.a,Diag.a,Diag.cs,c1',c3]
 all_goals
  refine K_less (Imp.ownB (b:=4) (off:=0) (sz:=1) (cs:=[.fsl []]) (by simp [oput,setCells]) rfl) ?_
  refine K_loopP (α:=Nat×Nat×(Nat→AObj)×Nat) (fun (k,a,τ,m)=>k≤ls.length∧τ 0= .box [.i x.pairs,.i x.cars,.i x.room,.t (.sl (x.stops.map Stop.t))]∧τ 1= .box [.i r.status,.t (.sl (planT r.plan)),.i r.up,.i r.low,.i r.steps,.t (.sl (logT r.log))]∧τ 2= .box [.t (.sl (lysT d.layers)),.i d.low,.b d.exact,.i d.sure]∧τ 3= .box [.fsl []]∧τ 4= .box [.ref a]∧τ a= .arr 1 (rowsP x r last ls k)∧a<m∧5≤a) (fun (k,a,τ,m)=>⟨sl [(3,.ptr 0 0),(4,.ptr 1 0),(5,.ptr 2 0),(6,.ptr 3 0),(7,.b W),(8,.ptr 4 0),(9,.i k)],τ,m⟩) (fun a=>ls.length-a.1) (0,5,_,6) ⟨Nat.zero_le _,by simp [oput],by simp [oput],by simp [oput,setCells,c1],by simp [oput],by simp [oput,setCells],by simp [oput,rowsP],by decide,by decide⟩ (Imp.slots (by simp [go_sem,hw]) rfl rfl) ?_
 all_goals
  rintro ⟨k,a,τ,m⟩ ⟨g1,h0,h1,h2,h3,h4,h5,g6,g7⟩
  have n0:¬0=m:=by omega
  have n1:¬1=m:=by omega
  have n2:¬2=m:=by omega
  have n3:¬3=m:=by omega
  have n4:¬4=m:=by omega
  have n5:¬a=m:=by omega
  have m0:¬0=a:=by omega
  have m1:¬1=a:=by omega
  have m2:¬2=a:=by omega
  have m3:¬3=a:=by omega
  have m4:¬4=a:=by omega
  have m5:¬a=4:=by omega
  have m6:¬a=3:=by omega
  have hks:W=false→k<ls.length→k<d.sure:=fun h h'=>by have:=(hWf h).1;omega
  by_cases hk:k<ls.length
  ·have hkk:IntKind.i64.wrap ((k:Int)+1)=((k+1:Nat):Int):=by rw [w64 ((k:Int)+1) (by omega)];rfl
   have hkl:k<d.layers.length:=by omega
   have hge:ls[k]=d.layers[k]:=by
    have:=hGet k hk
    rw [List.getElem?_eq_getElem hk,List.getElem?_eq_getElem hkl] at this
    exact Option.some.inj this
   have hget:∀h,(lysT d.layers)[k]'h=[.sl (nodesT ls[k])]:=fun h=>by rw [hge];simp [lysT]
   have hrs:=rowsP_succ x r last ls hk
   obtain ⟨hln,hlo⟩:=hok ls[k] (by rw [hge];exact List.getElem_mem _)
   have ho1:=rowsP_one x r last ls k
   have hrl:=rowsP_len x r last ls k
   have hcap:k+1≤mostLen:=by show _≤4294967296;omega
   rw [layG] at hrs
   clear hge
   generalize ls[k]=l at *
   generalize rowsP x r last ls k=rows at *
   have hnil:(nodesT l).length=l.length:=List.length_map _
   have hks2:=fun h=>hks h hk
   have wsu:IntKind.i64.wrap ((d.sure:Int)-1)=(d.sure:Int)-1:=w64 _ (by omega)
   refine K_run hB 60 ?_
   simp [go_sem,h2,hlen,hkl,hw,hks2]
   refine K_own 10 10 (by simp [go_sem]) ?_
   refine K_loopP (α:=Nat×Nat×(Nat→AObj)×Nat) (fun (i,b,τ',m')=>i≤l.length∧(∀j,j<m→τ' j=τ j)∧τ' b= .arr 10 (restP l (layF x r last k) i)∧m≤b∧b<m') (fun (i,b,τ',m')=>⟨sl [(3,.ptr 0 0),(4,.ptr 1 0),(5,.ptr 2 0),(6,.ptr 3 0),(7,.b W),(8,.ptr 4 0),(9,.i k),(10,.ref b),(11,.i i)],τ',m'⟩) (fun y=>l.length-y.1) (0,m,_,m+1) ⟨Nat.zero_le _,fun j hj=>by simp [oput,show ¬j=m by omega],by simp [oput,restP],Nat.le_refl _,Nat.lt_succ_self _⟩ (Imp.slots (by simp [go_sem,hw]) rfl rfl) ?_
   rintro ⟨i,b,τ',m'⟩ ⟨i1,i2,i3,i4,i5⟩
   have q0:=(i2 0 (by omega)).trans h0
   have q1:=(i2 1 (by omega)).trans h1
   have q2:=(i2 2 (by omega)).trans h2
   have q3:=(i2 3 (by omega)).trans h3
   have q4:=(i2 4 (by omega)).trans h4
   have q5:=(i2 a (by omega)).trans h5
   have v0:¬0=m':=by omega
   have v1:¬1=m':=by omega
   have v2:¬2=m':=by omega
   have v3:¬b=m':=by omega
   have v4:¬b=m'+1:=by omega
   have v5:¬m'=m'+1:=by omega
   by_cases hi:i<l.length
   ·have hii:IntKind.i64.wrap ((i:Int)+1)=((i+1:Nat):Int):=by rw [w64 ((i:Int)+1) (by omega)];rfl
    have hgn:∀h,(nodesT l)[i]'h=l[i].t:=fun h=>nodesT_get l hi
    obtain ⟨ho,hpn⟩:=hlo l[i] (List.getElem_mem _)
    have hdead:=rdead_pure x l[i].s l[i].cost r.low hl ho
    have hlog:=rlogged_pure r l[i] hL hd hpn
    have hsu:=restP_succ l (layF x r last k) hi
    have h10:=restP_ten l (layF x r last k) i
    have hrl2:=restP_len l (layF x r last k) i1
    have hcap2:i+1≤mostLen:=by show _≤4294967296;omega
    have hsp:=rspot_pure l[i] (layF x r last k l[i])
    have hF:layF x r last k l[i]=if (k:Int)=last then (if x.deadB l[i].s l[i].cost r.low=true then 0 else idxP l[i].path 0 r.log+1) else 0:=by
     rw [layF]
     split<;>rfl
    rw [spotOf] at hsu
    generalize l[i]=n at *
    generalize restP l (layF x r last k) i=rows2 at *
    generalize layF x r last k n=v at *
    refine K_run hB 60 ?_
    simp [go_sem,q2,hlen,hkl,hget,hnil,hi,hgn,Node.t,q0,q1,v0,v1,v2]
    refine K_run hB 60 ?_
    simp [go_sem,q2,hlen,hkl,hget,hnil,hi,hgn,Node.t,q0,q1,v0,v1,v2]
    refine K_call rfl rfl rfl (args:=[x.a,n.s.a,.i n.cost,.i r.low]) (f:=51) (by simp [go_sem,Inst.a,State.a,State.cs]) (by simp [go_sem,hB]) ((hdead).spec _ _) ?_
    generalize x.deadB n.s n.cost r.low=D at *
    have hcase:(W=false∧decide ((k:Int)=(d.sure:Int)-1)=true∧D=false∧v=idxP n.path 0 r.log+1)∨(v=0∧(W=true∨¬(k:Int)=(d.sure:Int)-1∨(W=false∧decide ((k:Int)=(d.sure:Int)-1)=true∧D=true))):=by
     by_cases ck:(k:Int)=last
     ·rw [if_pos ck] at hF
      cases hWc:W with
      |true=>have:=(hWt hWc).2;omega
      |false=>
       have:=(hWf hWc).2
       have hde:=decide_eq_true (show (k:Int)=(d.sure:Int)-1 by omega)
       cases hDc:D with
       |true=>rw [hDc,if_pos rfl] at hF;exact .inr ⟨hF,.inr (.inr ⟨rfl,hde,rfl⟩)⟩
       |false=>rw [hDc,if_neg (by decide)] at hF;exact .inl ⟨rfl,hde,rfl,hF⟩
     ·rw [if_neg ck] at hF
      refine .inr ⟨hF,?_⟩
      cases hWc:W with
      |true=>exact .inl rfl
      |false=>have:=(hWf hWc).2;exact .inr (.inl (by omega))
    clear hF
    rcases hcase with ⟨w1,w2,w3,w4⟩ | ⟨w4,w5⟩
    case' inl=>
     subst w4
     try exact absurd (hw.symm.trans w1) (by decide)
     all_goals
      refine K_run hB 60 ?_
      simp [go_sem,hw,w2,w3,wsu,q2,q1,v0,v1,v2]
      refine K_call rfl rfl rfl (args:=[r.a,n.a]) (f:=52) (by simp [go_sem,SRes.a,Node.a,Node.cs]) (by simp [go_sem,hB]) ((hlog).spec _ _) ?_
      refine K_run hB 60 ?_
      simp [go_sem]
    case' inr=>
     subst w4
     rcases w5 with w5 | w5 | ⟨w5,w6,w7⟩
     case' inr.inl=>
      try exact absurd (hw.symm.trans w5) (by decide)
      all_goals
       refine K_run hB 60 ?_
       simp [go_sem,hw]
     case' inr.inr.inl=>
      refine K_run hB 60 ?_
      simp [go_sem,hw,w5,wsu,q2,v2]
     case' inr.inr.inr=>
      try exact absurd (hw.symm.trans w5) (by decide)
      all_goals
       refine K_run hB 60 ?_
       simp [go_sem,hw,w6,w7,wsu,q2,v2]
    all_goals
     refine K_call rfl rfl rfl (args:=[n.a,_]) (f:=53) (by simp [go_sem,Node.a,Node.cs]) (by simp [go_sem,hB]) ((hsp).spec _ _) ?_
     refine K_run hB 60 ?_
     simp [go_sem,Spot.a,Spot.cs,i3,h10,hrl2,hcap2,hii,v3,v4,v5]
     refine Next.mk (i+1,m'+1,_,m'+2) ⟨by omega,fun j hj=>?_,?_,by simp only;omega,by simp only;omega⟩ (Imp.slots (by simp [go_sem,hw]) rfl rfl) (by simp only;omega)
     ·simp [oput,show ¬j=m' by omega,show ¬j=m'+1 by omega,show ¬j=b by omega,i2 j hj]
     ·simp [oput,hsu,Spot.t]
   ·have:i=l.length:=by omega
    subst this
    rw [restP,List.take_length] at i3
    refine K_run hB 60 ?_
    simp [go_sem,q2,hlen,hkl,hget,hnil,q4]
    refine K_imp (Imp.freeze (q:=b) (sz:=10) (es:=l.map (spotOf (layF x r last k))) (by simp [go_sem,i3])) ?_
    have u0:¬4=b:=by omega
    have u1:¬a=b:=by omega
    have u2:¬4=m':=by omega
    have u3:¬a=m':=by omega
    refine K_run hB 60 ?_
    simp [go_sem,frz1,frzO,frz1.frzL,q4,q5,u0,u1,u2,u3,ho1,hrl,hcap,hkk,m4,m5]
    refine Next.mk (k+1,m',_,m'+1) ⟨by omega,?_,?_,?_,?_,?_,?_,by simp only;omega,by simp only;omega⟩ (Imp.slots (by simp [go_sem,frz1,hw]) rfl rfl) (by simp only;omega)
    all_goals simp [oput,frzO,frz1,frz1.frzL,q0,q1,q2,q3,q4,q5,u0,u1,u2,u3,v0,v1,v2,m0,m1,m2,m3,m4,m5,hrs,setCells,show ¬0=b by omega,show ¬1=b by omega,show ¬2=b by omega,show ¬3=b by omega,show ¬3=m' by omega,show ¬m'=4 by omega]
  ·have:k=ls.length:=by omega
   subst this
   rw [hR] at h5
   by_cases e:ls.length<d.layers.length
   ·have hw2:W=false:=by
     cases hc:W with
     |true=>have:=(hWt hc).1;omega
     |false=>rfl
    have e2:=(hWf hw2).1
    try exact absurd (hw.symm.trans hw2) (by decide)
    all_goals
     have hns:¬ls.length<d.sure:=by omega
     refine K_run hB 60 ?_
     simp [go_sem,h2,hlen,e,hw,hns,h4,h3,h5,m3,m4,m6]
   ·refine K_run hB 60 ?_
    simp [go_sem,h2,hlen,e,hw,h4,h3,h5,m3,m4,m6]
end Go.Proofs.YtnoifgjiipgpoaaGreat

set_option maxRecDepth 4000
set_option maxHeartbeats 1000000
namespace Go.Proofs.YtnoifgjiipgpoaaGreat
open Go Go.Proofs.YtnoifgjiipgpoaaGreat.R
theorem rmake_pure (x:Inst) (r:SRes) (hl:x.stops.length<2^31) (hr:r.Fine):Pure P 12 [x.a,r.a] ((x.proofOf r).a):=by
 rw [proofOf_a]
 generalize hR:(if r.log.length=0 then [[.sl [[.sl [(⟨x.rootS,0,0⟩:Spot).t]]]]] else x.partsK r r.log.length:List (List T))=R
 refine pure_of Tryz.func12 rfl rfl (by simp [Tryz.f12]) (by simp [bnd,bnd.bndL,Inst.a,SRes.a]) (by simp [bnd,bnd.bndL]) fun B hB hnx=>?_
 simp only [Tryz.f12] at hB ⊢
 have hro:=rroot_pureS x (by omega)
 have hL:=hr.log
 have hll:(logT r.log).length=r.log.length:=List.length_map _
 refine K_run hB 100 ?_
 simp [go_sem,Inst.a,SRes.a]
 refine K_less (Imp.ownB (b:=3) (off:=1) (sz:=1) (cs:=[.i r.low,.fsl []]) (by simp [oput,setCells]) rfl) ?_
 refine K_loopP (α:=Nat×Nat×(Nat→AObj)×Nat) (fun (k,a,τ,m)=>k≤r.log.length∧τ 0= .box [.i x.pairs,.i x.cars,.i x.room,.t (.sl (x.stops.map Stop.t))]∧τ 1= .box [.i r.status,.t (.sl (planT r.plan)),.i r.up,.i r.low,.i r.steps,.t (.sl (logT r.log))]∧τ 2= .box [.i 0,.fsl []]∧τ 3= .box [.i r.low,.ref a]∧τ a= .arr 1 (x.partsK r k)∧a<m∧4≤a) (fun (k,a,τ,m)=>⟨sl [(2,.ptr 0 0),(3,.ptr 1 0),(4,.ptr 2 0),(5,.ptr 3 0),(6,.i k)],τ,m⟩) (fun a=>r.log.length-a.1) (0,4,_,5) ⟨Nat.zero_le _,by simp [oput],by simp [oput],by simp [oput],by simp [oput,setCells],by simp [oput,Inst.partsK],by decide,by decide⟩ (Imp.slots (by simp [go_sem]) rfl rfl) ?_
 rintro ⟨k,a,τ,m⟩ ⟨g1,h0,h1,g2,g4,g5,g6,g7⟩
 have n0:¬0=m:=by omega
 have n1:¬1=m:=by omega
 have n2:¬2=m:=by omega
 have n3:¬3=m:=by omega
 have n5:¬a=3:=by omega
 have n6:¬3=a:=by omega
 have n7:¬0=a:=by omega
 have n8:¬2=a:=by omega
 have n9:¬1=a:=by omega
 have na:¬a=m:=by omega
 have nh:¬a=2:=by omega
 have ni:¬m=3:=by omega
 by_cases hk:k<r.log.length
 ·have hkk:IntKind.i64.wrap ((k:Int)+1)=((k+1:Nat):Int):=by rw [w64 ((k:Int)+1) (by omega)];rfl
  have hget:∀h,(logT r.log)[k]'h=Done.t r.log[k]:=fun h=>by simp [logT]
  have hrs:=partsK_succ x r hk
  have hmem:r.log[k]∈r.log:=List.getElem_mem _
  obtain ⟨e1,e2,e3⟩:=hr.each _ hmem
  have hpt:=rpart_pure x r r.log[k].2 hl hL hr.path e1 e2 e3
  rw [←partM_rows] at hpt
  have hone:=partsK_one x r k
  have hlen:=partsK_len x r g1
  have hcap:k+1≤mostLen:=by show _≤4294967296;omega
  rw [partT] at hrs
  generalize (x.partM r r.log[k].2).map layT=pt at *
  generalize r.log[k]=d at *
  generalize x.partsK r k=rows at *
  refine K_run hB 60 ?_
  simp [go_sem,h1,hll,hk]
  refine K_drawnT [12,14] rfl (by rw [hB];kernel_rfl) (by kernel_rfl) fun ht=>?_
  refine K_run hB 100 ?_
  simp [go_sem,ht,h0,h1,hk,hll,hget,Done.t,Node.t,g4]
  refine K_dCallP rfl rfl rfl (args:=[x.a,r.a,d.2.a]) (f:=26) (by simp [go_sem,Inst.a,SRes.a,Diag.a,Diag.cs]) hpt ?_
  refine K_run hB 100 ?_
  simp [go_sem,ht,g4,g5,hlen,hone,hcap,n0,n1,n2,n3,n5,n6,na,hkk]
  refine Next.mk (k+1,m,_,m+1) ⟨by omega,?_,?_,?_,?_,?_,by simp only;omega,by simp only;omega⟩ (Imp.slots (by simp [go_sem]) rfl rfl) (by simp only;omega)
  all_goals simp [oput,n0,n1,n2,n3,n5,n6,n7,n8,n9,na,ni,h0,h1,g2,g4,g5,hrs,setCells]
 ·have:k=r.log.length:=by omega
  subst this
  have hlen:=partsK_len x r (Nat.le_refl _)
  by_cases c:r.log.length=0
  ·rw [if_pos c] at hR
   rw [c] at hlen
   subst hR
   generalize x.rootS=s at *
   refine K_run hB 60 ?_
   simp [go_sem,c,hll,h1,g4,g5,hlen,h0]
   refine K_call rfl rfl rfl (args:=[x.a]) (f:=27) (by simp [go_sem,Inst.a]) (by simp [go_sem,hB]) ((hro).spec _ _) ?_
   refine K_run hB 100 ?_
   simp [go_sem,State.a,State.cs,g4,g2,g5,hlen,n5,n6,n8,nh]
   rfl
  ·rw [if_neg c] at hR
   rw [hR] at g5 hlen
   refine K_run hB 100 ?_
   simp [go_sem,hll,h1,g4,g5,hlen,c,g2,n5,n6,n8,nh]
theorem spot_guard:P.eqGuardType P.depth 54=false:=by kernel_rfl
theorem spot_stood:P.stoodInHeld 54=false:=by kernel_rfl
theorem spot_same (a:Spot):eqA P 10000 54 a.a a.a=some true:=by
 simp [go_sem,Spot.a,Spot.cs,spot_stood]
structure Prf.Short (p:Prf):Prop where
 parts:p.parts.length<2^31
 lays:∀q∈p.parts,q.length<2^31∧∀l∈q,l.length<2^31
theorem rsame20_pure (p:Prf) (hp:p.Short):Pure P 10 [p.a,p.a] (.b true):=by
 refine pure_of Tryz.func10 rfl rfl (by simp [Tryz.f10]) (by simp [bnd,bnd.bndL,Prf.a,Prf.cs]) (by simp [bnd,bnd.bndL]) fun B hB hnx=>?_
 simp only [Tryz.f10] at hB ⊢
 have hpl:=hp.parts
 have hlp:(p.parts.map partT).length=p.parts.length:=List.length_map _
 refine K_run hB 60 ?_
 simp [go_sem,Prf.a,Prf.cs]
 refine K_loopP (α:=Nat) (fun k=>k≤p.parts.length) (fun k=>⟨sl [(2,.ptr 0 0),(3,.ptr 1 0),(5,.i k)],_,_⟩) (fun k=>p.parts.length-k) 0 (Nat.zero_le _) (Imp.slots (by simp [go_sem]) rfl rfl) ?_
 intro k g1
 by_cases hk:k<p.parts.length
 rotate_left
 ·refine K_run hB 60 ?_
  simp [go_sem,hlp,hk]
 have hkk:IntKind.i64.wrap ((k:Int)+1)=((k+1:Nat):Int):=by rw [w64 ((k:Int)+1) (by omega)];rfl
 have hget:∀h,(p.parts.map partT)[k]'h=[.sl (p.parts[k].map layT)]:=fun h=>by simp [partT]
 obtain ⟨hql,hqn⟩:=hp.lays p.parts[k] (List.getElem_mem _)
 generalize p.parts[k]=q at *
 have hlq:(q.map layT).length=q.length:=List.length_map _
 refine K_run hB 60 ?_
 simp [go_sem,hlp,hk,hget,hlq]
 refine K_loopP (α:=Nat) (fun i=>i≤q.length) (fun i=>⟨sl [(2,.ptr 0 0),(3,.ptr 1 0),(5,.i k),(6,.t (.sl (q.map layT))),(7,.t (.sl (q.map layT))),(8,.i i)],_,_⟩) (fun i=>q.length-i) 0 (Nat.zero_le _) (Imp.slots (by simp [go_sem]) rfl rfl) ?_
 intro i i1
 by_cases hi:i<q.length
 rotate_left
 ·refine K_run hB 60 ?_
  simp [go_sem,hlq,hi,hkk]
  exact Next.mk (k+1) (by omega) (Imp.slots (by simp [go_sem]) rfl rfl) (by omega)
 have hii:IntKind.i64.wrap ((i:Int)+1)=((i+1:Nat):Int):=by rw [w64 ((i:Int)+1) (by omega)];rfl
 have hgi:∀h,(q.map layT)[i]'h=[.sl (q[i].map Spot.t)]:=fun h=>by simp [layT]
 have hln:=hqn q[i] (List.getElem_mem _)
 generalize q[i]=l at *
 have hll:(l.map Spot.t).length=l.length:=List.length_map _
 refine K_run hB 60 ?_
 simp [go_sem,hlq,hi]
 refine K_drawn [] rfl (by rw [hB];kernel_rfl) ?_
 refine K_run hB 60 ?_
 simp [go_sem,hlq,hi,hgi,hll]
 refine K_loopP (α:=Nat) (fun j=>j≤l.length) (fun j=>⟨sl [(2,.ptr 0 0),(3,.ptr 1 0),(5,.i k),(6,.t (.sl (q.map layT))),(7,.t (.sl (q.map layT))),(8,.i i),(9,.i j)],_,_⟩) (fun j=>l.length-j) 0 (Nat.zero_le _) (Imp.slots (by simp [go_sem]) rfl rfl) ?_
 intro j j1
 by_cases hj:j<l.length
 rotate_left
 ·refine K_run hB 60 ?_
  simp [go_sem,hlq,hi,hgi,hll,hj,hii]
  exact Next.mk (i+1) (by omega) (Imp.slots (by simp [go_sem]) rfl rfl) (by omega)
 have hjj:IntKind.i64.wrap ((j:Int)+1)=((j+1:Nat):Int):=by rw [w64 ((j:Int)+1) (by omega)];rfl
 have hgj:∀h,(l.map Spot.t)[j]'h=l[j].t:=fun h=>by simp
 generalize l[j]=n at *
 refine K_run hB 60 ?_
 simp [go_sem,hlq,hi,hgi,hll,hj]
 refine K_drawn [] rfl (by rw [hB];kernel_rfl) ?_
 refine K_run hB 60 ?_
 simp [go_sem,hlq,hi,hgi,hll,hj,hgj,Spot.t]
 refine K_dEq (op:=.neq) (t:=54) (t':=54) (x:=.tmp 80) (y:=.tmp 87) (xs:=n.cs) (ys:=n.cs) (by simp [go_sem]) rfl (by simp [go_sem,Spot.cs]) (by simp [go_sem,Spot.cs]) spot_guard (spot_same n) rfl ?_
 refine K_run hB 60 ?_
 simp [go_sem,hjj]
 exact Next.mk (j+1) (by omega) (Imp.slots (by simp [go_sem]) rfl rfl) (by omega)
end Go.Proofs.YtnoifgjiipgpoaaGreat

set_option maxRecDepth 4000
set_option maxHeartbeats 1000000
namespace Go.Proofs.YtnoifgjiipgpoaaGreat
open Go Go.Proofs.YtnoifgjiipgpoaaGreat.R
theorem search_lesser {x:Inst} {o:Opt} (hl:x.stops.length≤7) (hw:o.width≤40):(x.proofOf (x.search o)).Lesser:=by
 by_cases hm:x.may=true∧o.mayB=true
 ·exact done_lesser (search_done hl hm.1 hm.2 hw) hl hw
 ·have hlog:(x.search o).log=[]:=by
   rw [Inst.search]
   split
   ·split
    ·exact absurd ⟨‹_›,‹_›⟩ hm
    ·rfl
   ·rfl
  rw [Inst.proofOf,hlog]
  refine ⟨by simp,fun q hq=>?_⟩
  simp only [List.length_nil,if_true,List.mem_singleton] at hq
  subst hq
  refine ⟨by simp,fun l hl2=>?_⟩
  simp only [List.mem_singleton] at hl2
  subst hl2
  refine ⟨by simp,fun n hn=>?_⟩
  simp only [List.mem_singleton] at hn
  subst hn
  exact rootS_ok x
theorem Prf.Lesser.short {p:Prf} (h:p.Lesser):p.Short:=
 ⟨by have:=h.parts;omega,fun q hq=>⟨by have:=(h.lays q hq).1;omega,fun l hl=>by have:=((h.lays q hq).2 l hl).1;omega⟩⟩
theorem lpmakes_pure (x:Inst) (o:Opt) (hl:x.stops.length<2^63):Pure P 3 [x.a,o.a] (.b true):=by
 refine pure_of Tryz.func3 rfl rfl (by simp [Tryz.f3]) (by simp [bnd,bnd.bndL,Inst.a,Opt.a,Opt.cs]) (by simp [bnd,bnd.bndL]) fun B hB hnx=>?_
 simp only [Tryz.f3] at hB ⊢
 have hf:=few19_pure x o hl
 refine K_run hB 100 ?_
 simp [go_sem,Inst.a,Opt.a,Opt.cs]
 refine K_call rfl rfl rfl (args:=[]) (f:=7) (by simp [go_sem]) (by simp [go_sem,hB]) ((awake20_pure).spec _ _) ?_
 refine K_run hB 100 ?_
 simp [go_sem]
 refine K_call rfl rfl rfl (args:=[x.a,o.a]) (f:=8) (by simp [go_sem,Inst.a,Opt.a,Opt.cs]) (by simp [go_sem,hB]) ((hf).spec _ _) ?_
 cases cf:fewO x o with
 |false=>
  refine K_run hB 100 ?_
  simp [go_sem]
 |true=>
  simp only [fewO,Bool.and_eq_true,decide_eq_true_eq] at cf
  have hs:=srun_pure x o cf.1 cf.2
  have hfi:=search_fine3 (x:=x) (o:=o) cf.1 cf.2
  have hmk:=make2_pure x (x.search o) (by omega) hfi
  have hmr:=rmake_pure x (x.search o) (by omega) hfi
  have hsa:=rsame20_pure (x.proofOf (x.search o)) (search_lesser cf.1 cf.2).short
  generalize x.proofOf (x.search o)=p at *
  generalize x.search o=r at *
  refine K_run hB 100 ?_
  simp [go_sem]
  refine K_call rfl rfl rfl (args:=[x.a,o.a]) (f:=9) (by simp [go_sem,Inst.a,Opt.a,Opt.cs]) (by simp [go_sem,hB]) ((hs).spec _ _) ?_
  refine K_run hB 100 ?_
  simp [go_sem,SRes.a]
  refine K_drawn [] rfl (by rw [hB];kernel_rfl) ?_
  refine K_run hB 100 ?_
  simp [go_sem]
  refine K_dCallP rfl rfl rfl (args:=[x.a,r.a]) (f:=11) (by simp [go_sem,Inst.a,SRes.a]) (hmk) ?_
  refine K_run hB 100 ?_
  simp [go_sem]
  refine K_dCallP rfl rfl rfl (args:=[x.a,r.a]) (f:=12) (by simp [go_sem,Inst.a,SRes.a]) (hmr) ?_
  refine K_run hB 100 ?_
  simp [go_sem]
  refine K_dCallP rfl rfl rfl (args:=[p.a,p.a]) (f:=10) (by simp [go_sem,Prf.a,Prf.cs]) (hsa) ?_
  refine K_run hB 100 ?_
  simp [go_sem]
end Go.Proofs.YtnoifgjiipgpoaaGreat
